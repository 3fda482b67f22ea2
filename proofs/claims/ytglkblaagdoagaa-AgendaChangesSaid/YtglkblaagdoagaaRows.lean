/-
  No cell of these rows narrows 'for every input' (looked for: loops, veiled, ifaces, maps, wideKeys, modest, calm, conditions, laid).
  DERIVED. THE GIVEN ROWS OF THIS SEAT. 7 by the template 'for every input the law returns true; each argument reads behind the call as it read before'; 0 by the template 'total and deterministic' (their statements: YtglkblaagdoagaaTotals.lean).
  GIVEN WITH THE SEED: the statements are not yours to turn. If you find one false, say at which input.
  Laid BY PROGRAM, IN A SANDBOX (cutbox-rows.mjs): the forced cells as the released guide's own fill.sh prints them over the translation 7b4a59f43cd40dbb… (all of the seat's roots in one cut). By AI agents, Wed Nov 11 2026. No macro, syntax, notation, axiom, sorry.
-/
import Derived.Test.YtglkblaagdoagaaChecked
import GoSem.Claim
import GoSem.ClaimJoined
import GoSem.ClaimMapViews
import Derived.JoinedTies
import Derived.KernelRfl
namespace Go.Proofs.Ytglkblaagdoagaa
/- THE CELL 'sum', in the pinned program and in every row, IS THE sha256 OF THE DUMP (.gsa) THAT YtglkblaagdoagaaProg.lean LOADS. Nothing in Lean hashes anything: it is a label: what it is worth is what the hold of that sum in a sandbox is worth. -/
noncomputable def Try.pinned : Pinned := { name := "ytglkblaagdoagaa", sum := "7b4a59f43cd40dbb94381b94eb6fd32ec844f8964d0af9442f879daf65e33798", checked := Try.checked }
namespace Rows
def none {H : Type} : Left H := { results := [], args := [] }

/-- 'mailboatlaw08.AgendaPops': WHATEVER THE INPUT: true; the input reads as it did. -/
def agendaPopsSpec : ChangeSpec := { name := "agendaPops", fn := fun _ => fun
  | [d] => { results := [.lit (.bool true)], args := [d] }
  | _ => none }
def agendaPopsRow : OpenClaim := { program := "ytglkblaagdoagaa", sum := "7b4a59f43cd40dbb94381b94eb6fd32ec844f8964d0af9442f879daf65e33798", func := "mailboat/mailboatlaw08.AgendaPops", spec := "agendaPops", inPlace := ["slices.overlaps[mailboat/api.Event]"], unfollowed := true, recurses := true, apart := false }
def AgendaPopsSaid : Prop := agendaPopsRow.holds Try.pinned (OpenSpec.ofChange agendaPopsSpec)

/-- ITS FALSE NEIGHBOUR: 'it returns false'. Refute it at one input. -/
def agendaPopsWrong : ChangeSpec := { name := "agendaPops", fn := fun _ => fun
  | [d] => { results := [.lit (.bool false)], args := [d] }
  | _ => none }
def AgendaPopsWrongFalsely : Prop := agendaPopsRow.holds Try.pinned (OpenSpec.ofChange agendaPopsWrong)

/-- 'mailboatlaw08.AgendaParts': WHATEVER THE INPUT: true; the input reads as it did. -/
def agendaPartsSpec : ChangeSpec := { name := "agendaParts", fn := fun _ => fun
  | [d1, d2] => { results := [.lit (.bool true)], args := [d1, d2] }
  | _ => none }
def agendaPartsRow : OpenClaim := { program := "ytglkblaagdoagaa", sum := "7b4a59f43cd40dbb94381b94eb6fd32ec844f8964d0af9442f879daf65e33798", func := "mailboat/mailboatlaw08.AgendaParts", spec := "agendaParts", inPlace := ["slices.overlaps[mailboat/api.Event]"], unfollowed := true, recurses := true, apart := false }
def AgendaPartsSaid : Prop := agendaPartsRow.holds Try.pinned (OpenSpec.ofChange agendaPartsSpec)

/-- ITS FALSE NEIGHBOUR: 'it returns false'. Refute it at one input. -/
def agendaPartsWrong : ChangeSpec := { name := "agendaParts", fn := fun _ => fun
  | [d1, d2] => { results := [.lit (.bool false)], args := [d1, d2] }
  | _ => none }
def AgendaPartsWrongFalsely : Prop := agendaPartsRow.holds Try.pinned (OpenSpec.ofChange agendaPartsWrong)

/-- 'mailboatlaw08.AgendaChanges': WHATEVER THE INPUT: true; the input reads as it did. -/
def agendaChangesSpec : ChangeSpec := { name := "agendaChanges", fn := fun _ => fun
  | [d1, d2] => { results := [.lit (.bool true)], args := [d1, d2] }
  | _ => none }
def agendaChangesRow : OpenClaim := { program := "ytglkblaagdoagaa", sum := "7b4a59f43cd40dbb94381b94eb6fd32ec844f8964d0af9442f879daf65e33798", func := "mailboat/mailboatlaw08.AgendaChanges", spec := "agendaChanges", inPlace := ["slices.overlaps[mailboat/api.Event]"], unfollowed := true, recurses := true, apart := false }
def AgendaChangesSaid : Prop := agendaChangesRow.holds Try.pinned (OpenSpec.ofChange agendaChangesSpec)

/-- ITS FALSE NEIGHBOUR: 'it returns false'. Refute it at one input. -/
def agendaChangesWrong : ChangeSpec := { name := "agendaChanges", fn := fun _ => fun
  | [d1, d2] => { results := [.lit (.bool false)], args := [d1, d2] }
  | _ => none }
def AgendaChangesWrongFalsely : Prop := agendaChangesRow.holds Try.pinned (OpenSpec.ofChange agendaChangesWrong)

/-- 'mailboatlaw08.AgendaSplits': WHATEVER THE INPUT: true; the input reads as it did. -/
def agendaSplitsSpec : ChangeSpec := { name := "agendaSplits", fn := fun _ => fun
  | [d1, d2, d3] => { results := [.lit (.bool true)], args := [d1, d2, d3] }
  | _ => none }
def agendaSplitsRow : OpenClaim := { program := "ytglkblaagdoagaa", sum := "7b4a59f43cd40dbb94381b94eb6fd32ec844f8964d0af9442f879daf65e33798", func := "mailboat/mailboatlaw08.AgendaSplits", spec := "agendaSplits", inPlace := ["slices.overlaps[mailboat/api.Event]"], unfollowed := true, recurses := true, apart := false }
def AgendaSplitsSaid : Prop := agendaSplitsRow.holds Try.pinned (OpenSpec.ofChange agendaSplitsSpec)

/-- ITS FALSE NEIGHBOUR: 'it returns false'. Refute it at one input. -/
def agendaSplitsWrong : ChangeSpec := { name := "agendaSplits", fn := fun _ => fun
  | [d1, d2, d3] => { results := [.lit (.bool false)], args := [d1, d2, d3] }
  | _ => none }
def AgendaSplitsWrongFalsely : Prop := agendaSplitsRow.holds Try.pinned (OpenSpec.ofChange agendaSplitsWrong)

/-- 'mailboatlaw08.AgendaMerge': WHATEVER THE INPUT: true; the input reads as it did. -/
def agendaMergeSpec : ChangeSpec := { name := "agendaMerge", fn := fun _ => fun
  | [d1, d2] => { results := [.lit (.bool true)], args := [d1, d2] }
  | _ => none }
def agendaMergeRow : OpenClaim := { program := "ytglkblaagdoagaa", sum := "7b4a59f43cd40dbb94381b94eb6fd32ec844f8964d0af9442f879daf65e33798", func := "mailboat/mailboatlaw08.AgendaMerge", spec := "agendaMerge", inPlace := ["slices.overlaps[mailboat/api.Event]"], unfollowed := true, recurses := true, apart := false }
def AgendaMergeSaid : Prop := agendaMergeRow.holds Try.pinned (OpenSpec.ofChange agendaMergeSpec)

/-- ITS FALSE NEIGHBOUR: 'it returns false'. Refute it at one input. -/
def agendaMergeWrong : ChangeSpec := { name := "agendaMerge", fn := fun _ => fun
  | [d1, d2] => { results := [.lit (.bool false)], args := [d1, d2] }
  | _ => none }
def AgendaMergeWrongFalsely : Prop := agendaMergeRow.holds Try.pinned (OpenSpec.ofChange agendaMergeWrong)

/-- 'mailboatlaw08.AgendaSets': WHATEVER THE INPUT: true; the input reads as it did. -/
def agendaSetsSpec : ChangeSpec := { name := "agendaSets", fn := fun _ => fun
  | [d1, d2] => { results := [.lit (.bool true)], args := [d1, d2] }
  | _ => none }
def agendaSetsRow : OpenClaim := { program := "ytglkblaagdoagaa", sum := "7b4a59f43cd40dbb94381b94eb6fd32ec844f8964d0af9442f879daf65e33798", func := "mailboat/mailboatlaw08.AgendaSets", spec := "agendaSets", inPlace := ["slices.overlaps[mailboat/api.Event]"], unfollowed := true, recurses := true, apart := false }
def AgendaSetsSaid : Prop := agendaSetsRow.holds Try.pinned (OpenSpec.ofChange agendaSetsSpec)

/-- ITS FALSE NEIGHBOUR: 'it returns false'. Refute it at one input. -/
def agendaSetsWrong : ChangeSpec := { name := "agendaSets", fn := fun _ => fun
  | [d1, d2] => { results := [.lit (.bool false)], args := [d1, d2] }
  | _ => none }
def AgendaSetsWrongFalsely : Prop := agendaSetsRow.holds Try.pinned (OpenSpec.ofChange agendaSetsWrong)

/-- 'mailboatlaw08.AgendaJoin': WHATEVER THE INPUT: true; the input reads as it did. -/
def agendaJoinSpec : ChangeSpec := { name := "agendaJoin", fn := fun _ => fun
  | [d1, d2, d3] => { results := [.lit (.bool true)], args := [d1, d2, d3] }
  | _ => none }
def agendaJoinRow : OpenClaim := { program := "ytglkblaagdoagaa", sum := "7b4a59f43cd40dbb94381b94eb6fd32ec844f8964d0af9442f879daf65e33798", func := "mailboat/mailboatlaw08.AgendaJoin", spec := "agendaJoin", inPlace := ["slices.overlaps[mailboat/api.Event]"], unfollowed := true, recurses := true, apart := false }
def AgendaJoinSaid : Prop := agendaJoinRow.holds Try.pinned (OpenSpec.ofChange agendaJoinSpec)

/-- ITS FALSE NEIGHBOUR: 'it returns false'. Refute it at one input. -/
def agendaJoinWrong : ChangeSpec := { name := "agendaJoin", fn := fun _ => fun
  | [d1, d2, d3] => { results := [.lit (.bool false)], args := [d1, d2, d3] }
  | _ => none }
def AgendaJoinWrongFalsely : Prop := agendaJoinRow.holds Try.pinned (OpenSpec.ofChange agendaJoinWrong)

/- THE SECOND FORM. 'bulk': how many values and letters a reading holds, each counted each time it is reached (what is shared counts as often as it is met; a slice's spare places count too). A statement '..UptoSaid' is the law's where the arguments, and the package variables that the reading takes, are together of bulk at most 1048576: NARROWER than '..Said'. Prove '..Said' where nothing that the law and all that it calls make is longer than what came in: it says more and counts as full. Else prove '..UptoSaid'. A law counts once. -/
mutual
def uptoBulk {H : Type} : DataW H → Nat
  | .lit (.string bytes) => bytes.length + 1
  | .lit _ => 1
  | .nil => 1
  | .ptr d => uptoBulk d + 1
  | .slice elems spare => uptoBulkAll elems + uptoBulkAll spare + 1
  | .agg parts => uptoBulkAll parts + 1
  | .iface _ d => uptoBulk d + 1
  | .map entries => uptoBulkEntries entries + 1
  | .held _ => 1
def uptoBulkAll {H : Type} : List (DataW H) → Nat
  | [] => 0
  | d :: r => uptoBulk d + uptoBulkAll r
def uptoBulkEntries {H : Type} : List (Lit × DataW H) → Nat
  | [] => 0
  | x :: r => uptoBulkEntry x + uptoBulkEntries r
def uptoBulkEntry {H : Type} : Lit × DataW H → Nat
  | (.string bytes, d) => bytes.length + uptoBulk d + 1
  | (_, d) => uptoBulk d + 1
 end
def uptoSmall : (H : Type) → List (DataW H) → Bool := fun _ ds => decide (uptoBulkAll ds ≤ 1048576)
def OpenSpec.upto (s : _root_.Go.ChangeSpec) : _root_.Go.OpenSpec := { _root_.Go.OpenSpec.ofChange s with cond := some uptoSmall }

/-- 'mailboatlaw08.AgendaPops', WHERE WHAT IT READS IS OF BULK AT MOST 1048576: true; the input reads as it did. -/
def agendaPopsUptoRow : OpenClaim := { program := "ytglkblaagdoagaa", sum := "7b4a59f43cd40dbb94381b94eb6fd32ec844f8964d0af9442f879daf65e33798", func := "mailboat/mailboatlaw08.AgendaPops", spec := "agendaPops", inPlace := ["slices.overlaps[mailboat/api.Event]"], unfollowed := true, recurses := true, apart := false, narrowed := true }
def AgendaPopsUptoSaid : Prop := agendaPopsUptoRow.holds Try.pinned (OpenSpec.upto agendaPopsSpec)

/-- 'mailboatlaw08.AgendaParts', WHERE WHAT IT READS IS OF BULK AT MOST 1048576: true; the input reads as it did. -/
def agendaPartsUptoRow : OpenClaim := { program := "ytglkblaagdoagaa", sum := "7b4a59f43cd40dbb94381b94eb6fd32ec844f8964d0af9442f879daf65e33798", func := "mailboat/mailboatlaw08.AgendaParts", spec := "agendaParts", inPlace := ["slices.overlaps[mailboat/api.Event]"], unfollowed := true, recurses := true, apart := false, narrowed := true }
def AgendaPartsUptoSaid : Prop := agendaPartsUptoRow.holds Try.pinned (OpenSpec.upto agendaPartsSpec)

/-- 'mailboatlaw08.AgendaChanges', WHERE WHAT IT READS IS OF BULK AT MOST 1048576: true; the input reads as it did. -/
def agendaChangesUptoRow : OpenClaim := { program := "ytglkblaagdoagaa", sum := "7b4a59f43cd40dbb94381b94eb6fd32ec844f8964d0af9442f879daf65e33798", func := "mailboat/mailboatlaw08.AgendaChanges", spec := "agendaChanges", inPlace := ["slices.overlaps[mailboat/api.Event]"], unfollowed := true, recurses := true, apart := false, narrowed := true }
def AgendaChangesUptoSaid : Prop := agendaChangesUptoRow.holds Try.pinned (OpenSpec.upto agendaChangesSpec)

/-- 'mailboatlaw08.AgendaSplits', WHERE WHAT IT READS IS OF BULK AT MOST 1048576: true; the input reads as it did. -/
def agendaSplitsUptoRow : OpenClaim := { program := "ytglkblaagdoagaa", sum := "7b4a59f43cd40dbb94381b94eb6fd32ec844f8964d0af9442f879daf65e33798", func := "mailboat/mailboatlaw08.AgendaSplits", spec := "agendaSplits", inPlace := ["slices.overlaps[mailboat/api.Event]"], unfollowed := true, recurses := true, apart := false, narrowed := true }
def AgendaSplitsUptoSaid : Prop := agendaSplitsUptoRow.holds Try.pinned (OpenSpec.upto agendaSplitsSpec)

/-- 'mailboatlaw08.AgendaMerge', WHERE WHAT IT READS IS OF BULK AT MOST 1048576: true; the input reads as it did. -/
def agendaMergeUptoRow : OpenClaim := { program := "ytglkblaagdoagaa", sum := "7b4a59f43cd40dbb94381b94eb6fd32ec844f8964d0af9442f879daf65e33798", func := "mailboat/mailboatlaw08.AgendaMerge", spec := "agendaMerge", inPlace := ["slices.overlaps[mailboat/api.Event]"], unfollowed := true, recurses := true, apart := false, narrowed := true }
def AgendaMergeUptoSaid : Prop := agendaMergeUptoRow.holds Try.pinned (OpenSpec.upto agendaMergeSpec)

/-- 'mailboatlaw08.AgendaSets', WHERE WHAT IT READS IS OF BULK AT MOST 1048576: true; the input reads as it did. -/
def agendaSetsUptoRow : OpenClaim := { program := "ytglkblaagdoagaa", sum := "7b4a59f43cd40dbb94381b94eb6fd32ec844f8964d0af9442f879daf65e33798", func := "mailboat/mailboatlaw08.AgendaSets", spec := "agendaSets", inPlace := ["slices.overlaps[mailboat/api.Event]"], unfollowed := true, recurses := true, apart := false, narrowed := true }
def AgendaSetsUptoSaid : Prop := agendaSetsUptoRow.holds Try.pinned (OpenSpec.upto agendaSetsSpec)

/-- 'mailboatlaw08.AgendaJoin', WHERE WHAT IT READS IS OF BULK AT MOST 1048576: true; the input reads as it did. -/
def agendaJoinUptoRow : OpenClaim := { program := "ytglkblaagdoagaa", sum := "7b4a59f43cd40dbb94381b94eb6fd32ec844f8964d0af9442f879daf65e33798", func := "mailboat/mailboatlaw08.AgendaJoin", spec := "agendaJoin", inPlace := ["slices.overlaps[mailboat/api.Event]"], unfollowed := true, recurses := true, apart := false, narrowed := true }
def AgendaJoinUptoSaid : Prop := agendaJoinUptoRow.holds Try.pinned (OpenSpec.upto agendaJoinSpec)

end Rows
end Go.Proofs.Ytglkblaagdoagaa
