/-
  No cell of these rows narrows 'for every input' (looked for: loops, veiled, ifaces, maps, wideKeys, modest, calm, conditions, laid).
  DERIVED. THE GIVEN ROWS OF THIS SEAT. 8 by the template 'for every input the law returns true; each argument reads behind the call as it read before'; 0 by the template 'total and deterministic' (their statements: YtlgphbnkicihgaaTotals.lean).
  GIVEN WITH THE SEED: the statements are not yours to turn. If you find one false, say at which input.
  Laid BY PROGRAM, IN A SANDBOX (cutbox-rows.mjs): the forced cells as the released guide's own fill.sh prints them over the translation 9ce2575a41594ebb… (all of the seat's roots in one cut). By AI agents, Wed Nov 11 2026. No macro, syntax, notation, axiom, sorry.
-/
import Derived.Test.YtlgphbnkicihgaaChecked
import GoSem.Claim
import GoSem.ClaimJoined
import GoSem.ClaimMapViews
import Derived.JoinedTies
import Derived.KernelRfl
namespace Go.Proofs.Ytlgphbnkicihgaa
/- THE CELL 'sum', in the pinned program and in every row, IS THE sha256 OF THE DUMP (.gsa) THAT YtlgphbnkicihgaaProg.lean LOADS. Nothing in Lean hashes anything: it is a label: what it is worth is what the hold of that sum in a sandbox is worth. -/
noncomputable def Try.pinned : Pinned := { name := "ytlgphbnkicihgaa", sum := "9ce2575a41594ebbc65423031fe592e24f581da159b55b525342c291ce319054", checked := Try.checked }
namespace Rows
def none {H : Type} : Left H := { results := [], args := [] }

/-- 'mailboatlaw27.BookingFit': WHATEVER THE INPUT: true; the input reads as it did. -/
def bookingFitSpec : ChangeSpec := { name := "bookingFit", fn := fun _ => fun
  | [d1, d2, d3, d4, d5] => { results := [.lit (.bool true)], args := [d1, d2, d3, d4, d5] }
  | _ => none }
def bookingFitRow : OpenClaim := { program := "ytlgphbnkicihgaa", sum := "9ce2575a41594ebbc65423031fe592e24f581da159b55b525342c291ce319054", func := "mailboat/mailboatlaw27.BookingFit", spec := "bookingFit", unfollowed := true, recurses := true, apart := false }
def BookingFitSaid : Prop := bookingFitRow.holds Try.pinned (OpenSpec.ofChange bookingFitSpec)

/-- ITS FALSE NEIGHBOUR: 'it returns false'. Refute it at one input. -/
def bookingFitWrong : ChangeSpec := { name := "bookingFit", fn := fun _ => fun
  | [d1, d2, d3, d4, d5] => { results := [.lit (.bool false)], args := [d1, d2, d3, d4, d5] }
  | _ => none }
def BookingFitWrongFalsely : Prop := bookingFitRow.holds Try.pinned (OpenSpec.ofChange bookingFitWrong)

/-- 'mailboatlaw27.BookingCheck': WHATEVER THE INPUT: true; the input reads as it did. -/
def bookingCheckSpec : ChangeSpec := { name := "bookingCheck", fn := fun _ => fun
  | [d1, d2, d3] => { results := [.lit (.bool true)], args := [d1, d2, d3] }
  | _ => none }
def bookingCheckRow : OpenClaim := { program := "ytlgphbnkicihgaa", sum := "9ce2575a41594ebbc65423031fe592e24f581da159b55b525342c291ce319054", func := "mailboat/mailboatlaw27.BookingCheck", spec := "bookingCheck", unfollowed := true, recurses := true, apart := false }
def BookingCheckSaid : Prop := bookingCheckRow.holds Try.pinned (OpenSpec.ofChange bookingCheckSpec)

/-- ITS FALSE NEIGHBOUR: 'it returns false'. Refute it at one input. -/
def bookingCheckWrong : ChangeSpec := { name := "bookingCheck", fn := fun _ => fun
  | [d1, d2, d3] => { results := [.lit (.bool false)], args := [d1, d2, d3] }
  | _ => none }
def BookingCheckWrongFalsely : Prop := bookingCheckRow.holds Try.pinned (OpenSpec.ofChange bookingCheckWrong)

/-- 'mailboatlaw27.BookingPartition': WHATEVER THE INPUT: true; the input reads as it did. -/
def bookingPartitionSpec : ChangeSpec := { name := "bookingPartition", fn := fun _ => fun
  | [d1, d2, d3] => { results := [.lit (.bool true)], args := [d1, d2, d3] }
  | _ => none }
def bookingPartitionRow : OpenClaim := { program := "ytlgphbnkicihgaa", sum := "9ce2575a41594ebbc65423031fe592e24f581da159b55b525342c291ce319054", func := "mailboat/mailboatlaw27.BookingPartition", spec := "bookingPartition", unfollowed := true, recurses := true, apart := false }
def BookingPartitionSaid : Prop := bookingPartitionRow.holds Try.pinned (OpenSpec.ofChange bookingPartitionSpec)

/-- ITS FALSE NEIGHBOUR: 'it returns false'. Refute it at one input. -/
def bookingPartitionWrong : ChangeSpec := { name := "bookingPartition", fn := fun _ => fun
  | [d1, d2, d3] => { results := [.lit (.bool false)], args := [d1, d2, d3] }
  | _ => none }
def BookingPartitionWrongFalsely : Prop := bookingPartitionRow.holds Try.pinned (OpenSpec.ofChange bookingPartitionWrong)

/-- 'mailboatlaw27.BookingFirst': WHATEVER THE INPUT: true; the input reads as it did. -/
def bookingFirstSpec : ChangeSpec := { name := "bookingFirst", fn := fun _ => fun
  | [d1, d2, d3, d4, d5] => { results := [.lit (.bool true)], args := [d1, d2, d3, d4, d5] }
  | _ => none }
def bookingFirstRow : OpenClaim := { program := "ytlgphbnkicihgaa", sum := "9ce2575a41594ebbc65423031fe592e24f581da159b55b525342c291ce319054", func := "mailboat/mailboatlaw27.BookingFirst", spec := "bookingFirst", inPlace := ["slices.overlaps[mailboat/api.Booking]"], unfollowed := true, recurses := true, apart := false }
def BookingFirstSaid : Prop := bookingFirstRow.holds Try.pinned (OpenSpec.ofChange bookingFirstSpec)

/-- ITS FALSE NEIGHBOUR: 'it returns false'. Refute it at one input. -/
def bookingFirstWrong : ChangeSpec := { name := "bookingFirst", fn := fun _ => fun
  | [d1, d2, d3, d4, d5] => { results := [.lit (.bool false)], args := [d1, d2, d3, d4, d5] }
  | _ => none }
def BookingFirstWrongFalsely : Prop := bookingFirstRow.holds Try.pinned (OpenSpec.ofChange bookingFirstWrong)

/-- 'mailboatlaw27.BookingMonotone': WHATEVER THE INPUT: true; the input reads as it did. -/
def bookingMonotoneSpec : ChangeSpec := { name := "bookingMonotone", fn := fun _ => fun
  | [d1, d2, d3, d4, d5, d6, d7] => { results := [.lit (.bool true)], args := [d1, d2, d3, d4, d5, d6, d7] }
  | _ => none }
def bookingMonotoneRow : OpenClaim := { program := "ytlgphbnkicihgaa", sum := "9ce2575a41594ebbc65423031fe592e24f581da159b55b525342c291ce319054", func := "mailboat/mailboatlaw27.BookingMonotone", spec := "bookingMonotone", inPlace := ["slices.overlaps[mailboat/api.Booking]"], unfollowed := true, recurses := true, apart := false }
def BookingMonotoneSaid : Prop := bookingMonotoneRow.holds Try.pinned (OpenSpec.ofChange bookingMonotoneSpec)

/-- ITS FALSE NEIGHBOUR: 'it returns false'. Refute it at one input. -/
def bookingMonotoneWrong : ChangeSpec := { name := "bookingMonotone", fn := fun _ => fun
  | [d1, d2, d3, d4, d5, d6, d7] => { results := [.lit (.bool false)], args := [d1, d2, d3, d4, d5, d6, d7] }
  | _ => none }
def BookingMonotoneWrongFalsely : Prop := bookingMonotoneRow.holds Try.pinned (OpenSpec.ofChange bookingMonotoneWrong)

/-- 'mailboatlaw27.BookingBlocked': WHATEVER THE INPUT: true; the input reads as it did. -/
def bookingBlockedSpec : ChangeSpec := { name := "bookingBlocked", fn := fun _ => fun
  | [d1, d2, d3, d4] => { results := [.lit (.bool true)], args := [d1, d2, d3, d4] }
  | _ => none }
def bookingBlockedRow : OpenClaim := { program := "ytlgphbnkicihgaa", sum := "9ce2575a41594ebbc65423031fe592e24f581da159b55b525342c291ce319054", func := "mailboat/mailboatlaw27.BookingBlocked", spec := "bookingBlocked", inPlace := ["slices.overlaps[mailboat/api.Booking]"], unfollowed := true, recurses := true, apart := false }
def BookingBlockedSaid : Prop := bookingBlockedRow.holds Try.pinned (OpenSpec.ofChange bookingBlockedSpec)

/-- ITS FALSE NEIGHBOUR: 'it returns false'. Refute it at one input. -/
def bookingBlockedWrong : ChangeSpec := { name := "bookingBlocked", fn := fun _ => fun
  | [d1, d2, d3, d4] => { results := [.lit (.bool false)], args := [d1, d2, d3, d4] }
  | _ => none }
def BookingBlockedWrongFalsely : Prop := bookingBlockedRow.holds Try.pinned (OpenSpec.ofChange bookingBlockedWrong)

/-- 'mailboatlaw27.BookingAdd': WHATEVER THE INPUT: true; the input reads as it did. -/
def bookingAddSpec : ChangeSpec := { name := "bookingAdd", fn := fun _ => fun
  | [d1, d2, d3, d4] => { results := [.lit (.bool true)], args := [d1, d2, d3, d4] }
  | _ => none }
def bookingAddRow : OpenClaim := { program := "ytlgphbnkicihgaa", sum := "9ce2575a41594ebbc65423031fe592e24f581da159b55b525342c291ce319054", func := "mailboat/mailboatlaw27.BookingAdd", spec := "bookingAdd", inPlace := ["slices.overlaps[mailboat/api.Booking]"], unfollowed := true, recurses := true, apart := false }
def BookingAddSaid : Prop := bookingAddRow.holds Try.pinned (OpenSpec.ofChange bookingAddSpec)

/-- ITS FALSE NEIGHBOUR: 'it returns false'. Refute it at one input. -/
def bookingAddWrong : ChangeSpec := { name := "bookingAdd", fn := fun _ => fun
  | [d1, d2, d3, d4] => { results := [.lit (.bool false)], args := [d1, d2, d3, d4] }
  | _ => none }
def BookingAddWrongFalsely : Prop := bookingAddRow.holds Try.pinned (OpenSpec.ofChange bookingAddWrong)

/-- 'mailboatlaw27.BookingRestored': WHATEVER THE INPUT: true; the input reads as it did. -/
def bookingRestoredSpec : ChangeSpec := { name := "bookingRestored", fn := fun _ => fun
  | [d1, d2, d3] => { results := [.lit (.bool true)], args := [d1, d2, d3] }
  | _ => none }
def bookingRestoredRow : OpenClaim := { program := "ytlgphbnkicihgaa", sum := "9ce2575a41594ebbc65423031fe592e24f581da159b55b525342c291ce319054", func := "mailboat/mailboatlaw27.BookingRestored", spec := "bookingRestored", inPlace := ["slices.overlaps[mailboat/api.Booking]"], unfollowed := true, recurses := true, apart := false }
def BookingRestoredSaid : Prop := bookingRestoredRow.holds Try.pinned (OpenSpec.ofChange bookingRestoredSpec)

/-- ITS FALSE NEIGHBOUR: 'it returns false'. Refute it at one input. -/
def bookingRestoredWrong : ChangeSpec := { name := "bookingRestored", fn := fun _ => fun
  | [d1, d2, d3] => { results := [.lit (.bool false)], args := [d1, d2, d3] }
  | _ => none }
def BookingRestoredWrongFalsely : Prop := bookingRestoredRow.holds Try.pinned (OpenSpec.ofChange bookingRestoredWrong)

/- THE SECOND FORM. 'bulk': how many values and letters a reading holds, each counted each time it is reached (what is shared counts as often as it is met; a slice's spare places count too). A statement '..UptoSaid' is the law's where the arguments, and the package variables that the reading takes, are together of bulk at most 1048576: NARROWER than '..Said'. Prove '..Said' where nothing that the law and all that it calls make is longer than what came in: it says more and counts as full. Else prove '..UptoSaid'. A law counts once. -/
mutual
def uptoBulk {H : Type} : DataW H → Nat
  | .lit (.string bytes) => bytes.length + 1
  | .lit _ => 1
  | .nil => 1
  | .ptr d => uptoBulk d + 1
  | .slice elems spare => uptoBulkAll elems + uptoBulkAll spare + 1
  | .agg parts => uptoBulkAll parts + 1
  | .iface _ d => uptoBulk d + 1
  | .map entries => uptoBulkEntries entries + 1
  | .held _ => 1
def uptoBulkAll {H : Type} : List (DataW H) → Nat
  | [] => 0
  | d :: r => uptoBulk d + uptoBulkAll r
def uptoBulkEntries {H : Type} : List (Lit × DataW H) → Nat
  | [] => 0
  | x :: r => uptoBulkEntry x + uptoBulkEntries r
def uptoBulkEntry {H : Type} : Lit × DataW H → Nat
  | (.string bytes, d) => bytes.length + uptoBulk d + 1
  | (_, d) => uptoBulk d + 1
 end
def uptoSmall : (H : Type) → List (DataW H) → Bool := fun _ ds => decide (uptoBulkAll ds ≤ 1048576)
def OpenSpec.upto (s : _root_.Go.ChangeSpec) : _root_.Go.OpenSpec := { _root_.Go.OpenSpec.ofChange s with cond := some uptoSmall }

/-- 'mailboatlaw27.BookingFit', WHERE WHAT IT READS IS OF BULK AT MOST 1048576: true; the input reads as it did. -/
def bookingFitUptoRow : OpenClaim := { program := "ytlgphbnkicihgaa", sum := "9ce2575a41594ebbc65423031fe592e24f581da159b55b525342c291ce319054", func := "mailboat/mailboatlaw27.BookingFit", spec := "bookingFit", unfollowed := true, recurses := true, apart := false, narrowed := true }
def BookingFitUptoSaid : Prop := bookingFitUptoRow.holds Try.pinned (OpenSpec.upto bookingFitSpec)

/-- 'mailboatlaw27.BookingCheck', WHERE WHAT IT READS IS OF BULK AT MOST 1048576: true; the input reads as it did. -/
def bookingCheckUptoRow : OpenClaim := { program := "ytlgphbnkicihgaa", sum := "9ce2575a41594ebbc65423031fe592e24f581da159b55b525342c291ce319054", func := "mailboat/mailboatlaw27.BookingCheck", spec := "bookingCheck", unfollowed := true, recurses := true, apart := false, narrowed := true }
def BookingCheckUptoSaid : Prop := bookingCheckUptoRow.holds Try.pinned (OpenSpec.upto bookingCheckSpec)

/-- 'mailboatlaw27.BookingPartition', WHERE WHAT IT READS IS OF BULK AT MOST 1048576: true; the input reads as it did. -/
def bookingPartitionUptoRow : OpenClaim := { program := "ytlgphbnkicihgaa", sum := "9ce2575a41594ebbc65423031fe592e24f581da159b55b525342c291ce319054", func := "mailboat/mailboatlaw27.BookingPartition", spec := "bookingPartition", unfollowed := true, recurses := true, apart := false, narrowed := true }
def BookingPartitionUptoSaid : Prop := bookingPartitionUptoRow.holds Try.pinned (OpenSpec.upto bookingPartitionSpec)

/-- 'mailboatlaw27.BookingFirst', WHERE WHAT IT READS IS OF BULK AT MOST 1048576: true; the input reads as it did. -/
def bookingFirstUptoRow : OpenClaim := { program := "ytlgphbnkicihgaa", sum := "9ce2575a41594ebbc65423031fe592e24f581da159b55b525342c291ce319054", func := "mailboat/mailboatlaw27.BookingFirst", spec := "bookingFirst", inPlace := ["slices.overlaps[mailboat/api.Booking]"], unfollowed := true, recurses := true, apart := false, narrowed := true }
def BookingFirstUptoSaid : Prop := bookingFirstUptoRow.holds Try.pinned (OpenSpec.upto bookingFirstSpec)

/-- 'mailboatlaw27.BookingMonotone', WHERE WHAT IT READS IS OF BULK AT MOST 1048576: true; the input reads as it did. -/
def bookingMonotoneUptoRow : OpenClaim := { program := "ytlgphbnkicihgaa", sum := "9ce2575a41594ebbc65423031fe592e24f581da159b55b525342c291ce319054", func := "mailboat/mailboatlaw27.BookingMonotone", spec := "bookingMonotone", inPlace := ["slices.overlaps[mailboat/api.Booking]"], unfollowed := true, recurses := true, apart := false, narrowed := true }
def BookingMonotoneUptoSaid : Prop := bookingMonotoneUptoRow.holds Try.pinned (OpenSpec.upto bookingMonotoneSpec)

/-- 'mailboatlaw27.BookingBlocked', WHERE WHAT IT READS IS OF BULK AT MOST 1048576: true; the input reads as it did. -/
def bookingBlockedUptoRow : OpenClaim := { program := "ytlgphbnkicihgaa", sum := "9ce2575a41594ebbc65423031fe592e24f581da159b55b525342c291ce319054", func := "mailboat/mailboatlaw27.BookingBlocked", spec := "bookingBlocked", inPlace := ["slices.overlaps[mailboat/api.Booking]"], unfollowed := true, recurses := true, apart := false, narrowed := true }
def BookingBlockedUptoSaid : Prop := bookingBlockedUptoRow.holds Try.pinned (OpenSpec.upto bookingBlockedSpec)

/-- 'mailboatlaw27.BookingAdd', WHERE WHAT IT READS IS OF BULK AT MOST 1048576: true; the input reads as it did. -/
def bookingAddUptoRow : OpenClaim := { program := "ytlgphbnkicihgaa", sum := "9ce2575a41594ebbc65423031fe592e24f581da159b55b525342c291ce319054", func := "mailboat/mailboatlaw27.BookingAdd", spec := "bookingAdd", inPlace := ["slices.overlaps[mailboat/api.Booking]"], unfollowed := true, recurses := true, apart := false, narrowed := true }
def BookingAddUptoSaid : Prop := bookingAddUptoRow.holds Try.pinned (OpenSpec.upto bookingAddSpec)

/-- 'mailboatlaw27.BookingRestored', WHERE WHAT IT READS IS OF BULK AT MOST 1048576: true; the input reads as it did. -/
def bookingRestoredUptoRow : OpenClaim := { program := "ytlgphbnkicihgaa", sum := "9ce2575a41594ebbc65423031fe592e24f581da159b55b525342c291ce319054", func := "mailboat/mailboatlaw27.BookingRestored", spec := "bookingRestored", inPlace := ["slices.overlaps[mailboat/api.Booking]"], unfollowed := true, recurses := true, apart := false, narrowed := true }
def BookingRestoredUptoSaid : Prop := bookingRestoredUptoRow.holds Try.pinned (OpenSpec.upto bookingRestoredSpec)

end Rows
end Go.Proofs.Ytlgphbnkicihgaa
