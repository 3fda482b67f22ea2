/-
  No cell of these rows narrows 'for every input' (looked for: loops, veiled, ifaces, maps, wideKeys, modest, calm, conditions, laid).
  DERIVED. THE GIVEN ROWS OF THIS SEAT. 8 by the template 'for every input the law returns true; each argument reads behind the call as it read before'; 0 by the template 'total and deterministic' (their statements: YtblkfmemhpjbgaaTotals.lean).
  GIVEN WITH THE SEED: the statements are not yours to turn. If you find one false, say at which input.
  Laid BY PROGRAM, IN A SANDBOX (cutbox-rows.mjs): the forced cells as the released guide's own fill.sh prints them over the translation 156133e12364b8bb… (all of the seat's roots in one cut). By AI agents, Wed Nov 11 2026. No macro, syntax, notation, axiom, sorry.
-/
import Derived.Test.YtblkfmemhpjbgaaChecked
import GoSem.Claim
import GoSem.ClaimJoined
import GoSem.ClaimMapViews
import Derived.JoinedTies
import Derived.KernelRfl
namespace Go.Proofs.Ytblkfmemhpjbgaa
/- THE CELL 'sum', in the pinned program and in every row, IS THE sha256 OF THE DUMP (.gsa) THAT YtblkfmemhpjbgaaProg.lean LOADS. Nothing in Lean hashes anything: it is a label: what it is worth is what the hold of that sum in a sandbox is worth. -/
noncomputable def Try.pinned : Pinned := { name := "ytblkfmemhpjbgaa", sum := "156133e12364b8bb647afd57f360672097097fba64a45def604035a08a375868", checked := Try.checked }
namespace Rows
def none {H : Type} : Left H := { results := [], args := [] }

/-- 'mailboatlaw46.QueueServes': WHATEVER THE INPUT: true; the input reads as it did. -/
def queueServesSpec : ChangeSpec := { name := "queueServes", fn := fun _ => fun
  | [d1, d2] => { results := [.lit (.bool true)], args := [d1, d2] }
  | _ => none }
def queueServesRow : OpenClaim := { program := "ytblkfmemhpjbgaa", sum := "156133e12364b8bb647afd57f360672097097fba64a45def604035a08a375868", func := "mailboat/mailboatlaw46.QueueServes", spec := "queueServes", unfollowed := true, recurses := true, apart := false }
def QueueServesSaid : Prop := queueServesRow.holds Try.pinned (OpenSpec.ofChange queueServesSpec)

/-- ITS FALSE NEIGHBOUR: 'it returns false'. Refute it at one input. -/
def queueServesWrong : ChangeSpec := { name := "queueServes", fn := fun _ => fun
  | [d1, d2] => { results := [.lit (.bool false)], args := [d1, d2] }
  | _ => none }
def QueueServesWrongFalsely : Prop := queueServesRow.holds Try.pinned (OpenSpec.ofChange queueServesWrong)

/-- 'mailboatlaw46.QueueExpedited': WHATEVER THE INPUT: true; the input reads as it did. -/
def queueExpeditedSpec : ChangeSpec := { name := "queueExpedited", fn := fun _ => fun
  | [d1, d2] => { results := [.lit (.bool true)], args := [d1, d2] }
  | _ => none }
def queueExpeditedRow : OpenClaim := { program := "ytblkfmemhpjbgaa", sum := "156133e12364b8bb647afd57f360672097097fba64a45def604035a08a375868", func := "mailboat/mailboatlaw46.QueueExpedited", spec := "queueExpedited", unfollowed := true, recurses := true, apart := false }
def QueueExpeditedSaid : Prop := queueExpeditedRow.holds Try.pinned (OpenSpec.ofChange queueExpeditedSpec)

/-- ITS FALSE NEIGHBOUR: 'it returns false'. Refute it at one input. -/
def queueExpeditedWrong : ChangeSpec := { name := "queueExpedited", fn := fun _ => fun
  | [d1, d2] => { results := [.lit (.bool false)], args := [d1, d2] }
  | _ => none }
def QueueExpeditedWrongFalsely : Prop := queueExpeditedRow.holds Try.pinned (OpenSpec.ofChange queueExpeditedWrong)

/-- 'mailboatlaw46.QueueSingle': WHATEVER THE INPUT: true; the input reads as it did. -/
def queueSingleSpec : ChangeSpec := { name := "queueSingle", fn := fun _ => fun
  | [d1, d2] => { results := [.lit (.bool true)], args := [d1, d2] }
  | _ => none }
def queueSingleRow : OpenClaim := { program := "ytblkfmemhpjbgaa", sum := "156133e12364b8bb647afd57f360672097097fba64a45def604035a08a375868", func := "mailboat/mailboatlaw46.QueueSingle", spec := "queueSingle", unfollowed := true, recurses := true, apart := false }
def QueueSingleSaid : Prop := queueSingleRow.holds Try.pinned (OpenSpec.ofChange queueSingleSpec)

/-- ITS FALSE NEIGHBOUR: 'it returns false'. Refute it at one input. -/
def queueSingleWrong : ChangeSpec := { name := "queueSingle", fn := fun _ => fun
  | [d1, d2] => { results := [.lit (.bool false)], args := [d1, d2] }
  | _ => none }
def QueueSingleWrongFalsely : Prop := queueSingleRow.holds Try.pinned (OpenSpec.ofChange queueSingleWrong)

/-- 'mailboatlaw46.QueueLater': WHATEVER THE INPUT: true; the input reads as it did. -/
def queueLaterSpec : ChangeSpec := { name := "queueLater", fn := fun _ => fun
  | [d1, d2, d3] => { results := [.lit (.bool true)], args := [d1, d2, d3] }
  | _ => none }
def queueLaterRow : OpenClaim := { program := "ytblkfmemhpjbgaa", sum := "156133e12364b8bb647afd57f360672097097fba64a45def604035a08a375868", func := "mailboat/mailboatlaw46.QueueLater", spec := "queueLater", unfollowed := true, recurses := true, apart := false }
def QueueLaterSaid : Prop := queueLaterRow.holds Try.pinned (OpenSpec.ofChange queueLaterSpec)

/-- ITS FALSE NEIGHBOUR: 'it returns false'. Refute it at one input. -/
def queueLaterWrong : ChangeSpec := { name := "queueLater", fn := fun _ => fun
  | [d1, d2, d3] => { results := [.lit (.bool false)], args := [d1, d2, d3] }
  | _ => none }
def QueueLaterWrongFalsely : Prop := queueLaterRow.holds Try.pinned (OpenSpec.ofChange queueLaterWrong)

/-- 'mailboatlaw46.QueueSimple': WHATEVER THE INPUT: true; the input reads as it did. -/
def queueSimpleSpec : ChangeSpec := { name := "queueSimple", fn := fun _ => fun
  | [d1, d2, d3] => { results := [.lit (.bool true)], args := [d1, d2, d3] }
  | _ => none }
def queueSimpleRow : OpenClaim := { program := "ytblkfmemhpjbgaa", sum := "156133e12364b8bb647afd57f360672097097fba64a45def604035a08a375868", func := "mailboat/mailboatlaw46.QueueSimple", spec := "queueSimple", inPlace := ["slices.overlaps[mailboat/api.Entry]"], unfollowed := true, recurses := true, apart := false }
def QueueSimpleSaid : Prop := queueSimpleRow.holds Try.pinned (OpenSpec.ofChange queueSimpleSpec)

/-- ITS FALSE NEIGHBOUR: 'it returns false'. Refute it at one input. -/
def queueSimpleWrong : ChangeSpec := { name := "queueSimple", fn := fun _ => fun
  | [d1, d2, d3] => { results := [.lit (.bool false)], args := [d1, d2, d3] }
  | _ => none }
def QueueSimpleWrongFalsely : Prop := queueSimpleRow.holds Try.pinned (OpenSpec.ofChange queueSimpleWrong)

/-- 'mailboatlaw46.QueueChanges': WHATEVER THE INPUT: true; the input reads as it did. -/
def queueChangesSpec : ChangeSpec := { name := "queueChanges", fn := fun _ => fun
  | [d1, d2, d3, d4] => { results := [.lit (.bool true)], args := [d1, d2, d3, d4] }
  | _ => none }
def queueChangesRow : OpenClaim := { program := "ytblkfmemhpjbgaa", sum := "156133e12364b8bb647afd57f360672097097fba64a45def604035a08a375868", func := "mailboat/mailboatlaw46.QueueChanges", spec := "queueChanges", inPlace := ["slices.overlaps[mailboat/api.Entry]"], unfollowed := true, recurses := true, apart := false }
def QueueChangesSaid : Prop := queueChangesRow.holds Try.pinned (OpenSpec.ofChange queueChangesSpec)

/-- ITS FALSE NEIGHBOUR: 'it returns false'. Refute it at one input. -/
def queueChangesWrong : ChangeSpec := { name := "queueChanges", fn := fun _ => fun
  | [d1, d2, d3, d4] => { results := [.lit (.bool false)], args := [d1, d2, d3, d4] }
  | _ => none }
def QueueChangesWrongFalsely : Prop := queueChangesRow.holds Try.pinned (OpenSpec.ofChange queueChangesWrong)

/-- 'mailboatlaw46.QueueOrder': WHATEVER THE INPUT: true; the input reads as it did. -/
def queueOrderSpec : ChangeSpec := { name := "queueOrder", fn := fun _ => fun
  | [d1, d2, d3] => { results := [.lit (.bool true)], args := [d1, d2, d3] }
  | _ => none }
def queueOrderRow : OpenClaim := { program := "ytblkfmemhpjbgaa", sum := "156133e12364b8bb647afd57f360672097097fba64a45def604035a08a375868", func := "mailboat/mailboatlaw46.QueueOrder", spec := "queueOrder", inPlace := ["slices.overlaps[mailboat/api.Entry]"], unfollowed := true, recurses := true, apart := false }
def QueueOrderSaid : Prop := queueOrderRow.holds Try.pinned (OpenSpec.ofChange queueOrderSpec)

/-- ITS FALSE NEIGHBOUR: 'it returns false'. Refute it at one input. -/
def queueOrderWrong : ChangeSpec := { name := "queueOrder", fn := fun _ => fun
  | [d1, d2, d3] => { results := [.lit (.bool false)], args := [d1, d2, d3] }
  | _ => none }
def QueueOrderWrongFalsely : Prop := queueOrderRow.holds Try.pinned (OpenSpec.ofChange queueOrderWrong)

/-- 'mailboatlaw46.QueueUndoes': WHATEVER THE INPUT: true; the input reads as it did. -/
def queueUndoesSpec : ChangeSpec := { name := "queueUndoes", fn := fun _ => fun
  | [d1, d2] => { results := [.lit (.bool true)], args := [d1, d2] }
  | _ => none }
def queueUndoesRow : OpenClaim := { program := "ytblkfmemhpjbgaa", sum := "156133e12364b8bb647afd57f360672097097fba64a45def604035a08a375868", func := "mailboat/mailboatlaw46.QueueUndoes", spec := "queueUndoes", inPlace := ["slices.overlaps[mailboat/api.Entry]"], unfollowed := true, recurses := true, apart := false }
def QueueUndoesSaid : Prop := queueUndoesRow.holds Try.pinned (OpenSpec.ofChange queueUndoesSpec)

/-- ITS FALSE NEIGHBOUR: 'it returns false'. Refute it at one input. -/
def queueUndoesWrong : ChangeSpec := { name := "queueUndoes", fn := fun _ => fun
  | [d1, d2] => { results := [.lit (.bool false)], args := [d1, d2] }
  | _ => none }
def QueueUndoesWrongFalsely : Prop := queueUndoesRow.holds Try.pinned (OpenSpec.ofChange queueUndoesWrong)

/- THE SECOND FORM. 'bulk': how many values and letters a reading holds, each counted each time it is reached (what is shared counts as often as it is met; a slice's spare places count too). A statement '..UptoSaid' is the law's where the arguments, and the package variables that the reading takes, are together of bulk at most 1048576: NARROWER than '..Said'. Prove '..Said' where nothing that the law and all that it calls make is longer than what came in: it says more and counts as full. Else prove '..UptoSaid'. A law counts once. -/
mutual
def uptoBulk {H : Type} : DataW H → Nat
  | .lit (.string bytes) => bytes.length + 1
  | .lit _ => 1
  | .nil => 1
  | .ptr d => uptoBulk d + 1
  | .slice elems spare => uptoBulkAll elems + uptoBulkAll spare + 1
  | .agg parts => uptoBulkAll parts + 1
  | .iface _ d => uptoBulk d + 1
  | .map entries => uptoBulkEntries entries + 1
  | .held _ => 1
def uptoBulkAll {H : Type} : List (DataW H) → Nat
  | [] => 0
  | d :: r => uptoBulk d + uptoBulkAll r
def uptoBulkEntries {H : Type} : List (Lit × DataW H) → Nat
  | [] => 0
  | x :: r => uptoBulkEntry x + uptoBulkEntries r
def uptoBulkEntry {H : Type} : Lit × DataW H → Nat
  | (.string bytes, d) => bytes.length + uptoBulk d + 1
  | (_, d) => uptoBulk d + 1
 end
def uptoSmall : (H : Type) → List (DataW H) → Bool := fun _ ds => decide (uptoBulkAll ds ≤ 1048576)
def OpenSpec.upto (s : _root_.Go.ChangeSpec) : _root_.Go.OpenSpec := { _root_.Go.OpenSpec.ofChange s with cond := some uptoSmall }

/-- 'mailboatlaw46.QueueServes', WHERE WHAT IT READS IS OF BULK AT MOST 1048576: true; the input reads as it did. -/
def queueServesUptoRow : OpenClaim := { program := "ytblkfmemhpjbgaa", sum := "156133e12364b8bb647afd57f360672097097fba64a45def604035a08a375868", func := "mailboat/mailboatlaw46.QueueServes", spec := "queueServes", unfollowed := true, recurses := true, apart := false, narrowed := true }
def QueueServesUptoSaid : Prop := queueServesUptoRow.holds Try.pinned (OpenSpec.upto queueServesSpec)

/-- 'mailboatlaw46.QueueExpedited', WHERE WHAT IT READS IS OF BULK AT MOST 1048576: true; the input reads as it did. -/
def queueExpeditedUptoRow : OpenClaim := { program := "ytblkfmemhpjbgaa", sum := "156133e12364b8bb647afd57f360672097097fba64a45def604035a08a375868", func := "mailboat/mailboatlaw46.QueueExpedited", spec := "queueExpedited", unfollowed := true, recurses := true, apart := false, narrowed := true }
def QueueExpeditedUptoSaid : Prop := queueExpeditedUptoRow.holds Try.pinned (OpenSpec.upto queueExpeditedSpec)

/-- 'mailboatlaw46.QueueSingle', WHERE WHAT IT READS IS OF BULK AT MOST 1048576: true; the input reads as it did. -/
def queueSingleUptoRow : OpenClaim := { program := "ytblkfmemhpjbgaa", sum := "156133e12364b8bb647afd57f360672097097fba64a45def604035a08a375868", func := "mailboat/mailboatlaw46.QueueSingle", spec := "queueSingle", unfollowed := true, recurses := true, apart := false, narrowed := true }
def QueueSingleUptoSaid : Prop := queueSingleUptoRow.holds Try.pinned (OpenSpec.upto queueSingleSpec)

/-- 'mailboatlaw46.QueueLater', WHERE WHAT IT READS IS OF BULK AT MOST 1048576: true; the input reads as it did. -/
def queueLaterUptoRow : OpenClaim := { program := "ytblkfmemhpjbgaa", sum := "156133e12364b8bb647afd57f360672097097fba64a45def604035a08a375868", func := "mailboat/mailboatlaw46.QueueLater", spec := "queueLater", unfollowed := true, recurses := true, apart := false, narrowed := true }
def QueueLaterUptoSaid : Prop := queueLaterUptoRow.holds Try.pinned (OpenSpec.upto queueLaterSpec)

/-- 'mailboatlaw46.QueueSimple', WHERE WHAT IT READS IS OF BULK AT MOST 1048576: true; the input reads as it did. -/
def queueSimpleUptoRow : OpenClaim := { program := "ytblkfmemhpjbgaa", sum := "156133e12364b8bb647afd57f360672097097fba64a45def604035a08a375868", func := "mailboat/mailboatlaw46.QueueSimple", spec := "queueSimple", inPlace := ["slices.overlaps[mailboat/api.Entry]"], unfollowed := true, recurses := true, apart := false, narrowed := true }
def QueueSimpleUptoSaid : Prop := queueSimpleUptoRow.holds Try.pinned (OpenSpec.upto queueSimpleSpec)

/-- 'mailboatlaw46.QueueChanges', WHERE WHAT IT READS IS OF BULK AT MOST 1048576: true; the input reads as it did. -/
def queueChangesUptoRow : OpenClaim := { program := "ytblkfmemhpjbgaa", sum := "156133e12364b8bb647afd57f360672097097fba64a45def604035a08a375868", func := "mailboat/mailboatlaw46.QueueChanges", spec := "queueChanges", inPlace := ["slices.overlaps[mailboat/api.Entry]"], unfollowed := true, recurses := true, apart := false, narrowed := true }
def QueueChangesUptoSaid : Prop := queueChangesUptoRow.holds Try.pinned (OpenSpec.upto queueChangesSpec)

/-- 'mailboatlaw46.QueueOrder', WHERE WHAT IT READS IS OF BULK AT MOST 1048576: true; the input reads as it did. -/
def queueOrderUptoRow : OpenClaim := { program := "ytblkfmemhpjbgaa", sum := "156133e12364b8bb647afd57f360672097097fba64a45def604035a08a375868", func := "mailboat/mailboatlaw46.QueueOrder", spec := "queueOrder", inPlace := ["slices.overlaps[mailboat/api.Entry]"], unfollowed := true, recurses := true, apart := false, narrowed := true }
def QueueOrderUptoSaid : Prop := queueOrderUptoRow.holds Try.pinned (OpenSpec.upto queueOrderSpec)

/-- 'mailboatlaw46.QueueUndoes', WHERE WHAT IT READS IS OF BULK AT MOST 1048576: true; the input reads as it did. -/
def queueUndoesUptoRow : OpenClaim := { program := "ytblkfmemhpjbgaa", sum := "156133e12364b8bb647afd57f360672097097fba64a45def604035a08a375868", func := "mailboat/mailboatlaw46.QueueUndoes", spec := "queueUndoes", inPlace := ["slices.overlaps[mailboat/api.Entry]"], unfollowed := true, recurses := true, apart := false, narrowed := true }
def QueueUndoesUptoSaid : Prop := queueUndoesUptoRow.holds Try.pinned (OpenSpec.upto queueUndoesSpec)

end Rows
end Go.Proofs.Ytblkfmemhpjbgaa
