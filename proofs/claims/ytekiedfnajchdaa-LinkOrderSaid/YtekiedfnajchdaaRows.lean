/-
  No cell of these rows narrows 'for every input' (looked for: loops, veiled, ifaces, maps, wideKeys, modest, calm, conditions, laid).
  DERIVED. THE GIVEN ROWS OF THIS SEAT. 3 by the template 'for every input the law returns true; each argument reads behind the call as it read before'; 0 by the template 'total and deterministic' (their statements: YtekiedfnajchdaaTotals.lean).
  GIVEN WITH THE SEED: the statements are not yours to turn. If you find one false, say at which input.
  Laid BY PROGRAM, IN A SANDBOX (cutbox-rows.mjs): the forced cells as the released guide's own fill.sh prints them over the translation ca7d7dac352c4fc6… (all of the seat's roots in one cut). By AI agents, Wed Nov 11 2026. No macro, syntax, notation, axiom, sorry.
-/
import Derived.Test.YtekiedfnajchdaaChecked
import GoSem.Claim
import GoSem.ClaimJoined
import GoSem.ClaimMapViews
import Derived.JoinedTies
import Derived.KernelRfl
namespace Go.Proofs.Ytekiedfnajchdaa
/- THE CELL 'sum', in the pinned program and in every row, IS THE sha256 OF THE DUMP (.gsa) THAT YtekiedfnajchdaaProg.lean LOADS. Nothing in Lean hashes anything: it is a label: what it is worth is what the hold of that sum in a sandbox is worth. -/
noncomputable def Try.pinned : Pinned := { name := "ytekiedfnajchdaa", sum := "ca7d7dac352c4fc681bf5b3dc3369ffacd505431f13dd984dbef503ef5cacc49", checked := Try.checked }
namespace Rows
def none {H : Type} : Left H := { results := [], args := [] }

/-- 'mailboatlaw38.LinkDelays': WHATEVER THE INPUT: true; the input reads as it did. -/
def linkDelaysSpec : ChangeSpec := { name := "linkDelays", fn := fun _ => fun
  | [d1, d2] => { results := [.lit (.bool true)], args := [d1, d2] }
  | _ => none }
def linkDelaysRow : OpenClaim := { program := "ytekiedfnajchdaa", sum := "ca7d7dac352c4fc681bf5b3dc3369ffacd505431f13dd984dbef503ef5cacc49", func := "mailboat/mailboatlaw38.LinkDelays", spec := "linkDelays", inPlace := ["slices.overlaps[mailboat/api.Frame]"], unfollowed := true, recurses := true, apart := false }
def LinkDelaysSaid : Prop := linkDelaysRow.holds Try.pinned (OpenSpec.ofChange linkDelaysSpec)

/-- ITS FALSE NEIGHBOUR: 'it returns false'. Refute it at one input. -/
def linkDelaysWrong : ChangeSpec := { name := "linkDelays", fn := fun _ => fun
  | [d1, d2] => { results := [.lit (.bool false)], args := [d1, d2] }
  | _ => none }
def LinkDelaysWrongFalsely : Prop := linkDelaysRow.holds Try.pinned (OpenSpec.ofChange linkDelaysWrong)

/-- 'mailboatlaw38.LinkOrder': WHATEVER THE INPUT: true; the input reads as it did. -/
def linkOrderSpec : ChangeSpec := { name := "linkOrder", fn := fun _ => fun
  | [d1, d2] => { results := [.lit (.bool true)], args := [d1, d2] }
  | _ => none }
def linkOrderRow : OpenClaim := { program := "ytekiedfnajchdaa", sum := "ca7d7dac352c4fc681bf5b3dc3369ffacd505431f13dd984dbef503ef5cacc49", func := "mailboat/mailboatlaw38.LinkOrder", spec := "linkOrder", inPlace := ["slices.overlaps[mailboat/api.Frame]"], unfollowed := true, recurses := true, apart := false }
def LinkOrderSaid : Prop := linkOrderRow.holds Try.pinned (OpenSpec.ofChange linkOrderSpec)

/-- ITS FALSE NEIGHBOUR: 'it returns false'. Refute it at one input. -/
def linkOrderWrong : ChangeSpec := { name := "linkOrder", fn := fun _ => fun
  | [d1, d2] => { results := [.lit (.bool false)], args := [d1, d2] }
  | _ => none }
def LinkOrderWrongFalsely : Prop := linkOrderRow.holds Try.pinned (OpenSpec.ofChange linkOrderWrong)

/-- 'mailboatlaw38.LinkConserves': WHATEVER THE INPUT: true; the input reads as it did. -/
def linkConservesSpec : ChangeSpec := { name := "linkConserves", fn := fun _ => fun
  | [d1, d2, d3] => { results := [.lit (.bool true)], args := [d1, d2, d3] }
  | _ => none }
def linkConservesRow : OpenClaim := { program := "ytekiedfnajchdaa", sum := "ca7d7dac352c4fc681bf5b3dc3369ffacd505431f13dd984dbef503ef5cacc49", func := "mailboat/mailboatlaw38.LinkConserves", spec := "linkConserves", inPlace := ["slices.overlaps[mailboat/api.Frame]"], unfollowed := true, recurses := true, apart := false }
def LinkConservesSaid : Prop := linkConservesRow.holds Try.pinned (OpenSpec.ofChange linkConservesSpec)

/-- ITS FALSE NEIGHBOUR: 'it returns false'. Refute it at one input. -/
def linkConservesWrong : ChangeSpec := { name := "linkConserves", fn := fun _ => fun
  | [d1, d2, d3] => { results := [.lit (.bool false)], args := [d1, d2, d3] }
  | _ => none }
def LinkConservesWrongFalsely : Prop := linkConservesRow.holds Try.pinned (OpenSpec.ofChange linkConservesWrong)

/- THE SECOND FORM. 'bulk': how many values and letters a reading holds, each counted each time it is reached (what is shared counts as often as it is met; a slice's spare places count too). A statement '..UptoSaid' is the law's where the arguments, and the package variables that the reading takes, are together of bulk at most 1048576: NARROWER than '..Said'. Prove '..Said' where nothing that the law and all that it calls make is longer than what came in: it says more and counts as full. Else prove '..UptoSaid'. A law counts once. -/
mutual
def uptoBulk {H : Type} : DataW H → Nat
  | .lit (.string bytes) => bytes.length + 1
  | .lit _ => 1
  | .nil => 1
  | .ptr d => uptoBulk d + 1
  | .slice elems spare => uptoBulkAll elems + uptoBulkAll spare + 1
  | .agg parts => uptoBulkAll parts + 1
  | .iface _ d => uptoBulk d + 1
  | .map entries => uptoBulkEntries entries + 1
  | .held _ => 1
def uptoBulkAll {H : Type} : List (DataW H) → Nat
  | [] => 0
  | d :: r => uptoBulk d + uptoBulkAll r
def uptoBulkEntries {H : Type} : List (Lit × DataW H) → Nat
  | [] => 0
  | x :: r => uptoBulkEntry x + uptoBulkEntries r
def uptoBulkEntry {H : Type} : Lit × DataW H → Nat
  | (.string bytes, d) => bytes.length + uptoBulk d + 1
  | (_, d) => uptoBulk d + 1
 end
def uptoSmall : (H : Type) → List (DataW H) → Bool := fun _ ds => decide (uptoBulkAll ds ≤ 1048576)
def OpenSpec.upto (s : _root_.Go.ChangeSpec) : _root_.Go.OpenSpec := { _root_.Go.OpenSpec.ofChange s with cond := some uptoSmall }

/-- 'mailboatlaw38.LinkDelays', WHERE WHAT IT READS IS OF BULK AT MOST 1048576: true; the input reads as it did. -/
def linkDelaysUptoRow : OpenClaim := { program := "ytekiedfnajchdaa", sum := "ca7d7dac352c4fc681bf5b3dc3369ffacd505431f13dd984dbef503ef5cacc49", func := "mailboat/mailboatlaw38.LinkDelays", spec := "linkDelays", inPlace := ["slices.overlaps[mailboat/api.Frame]"], unfollowed := true, recurses := true, apart := false, narrowed := true }
def LinkDelaysUptoSaid : Prop := linkDelaysUptoRow.holds Try.pinned (OpenSpec.upto linkDelaysSpec)

/-- 'mailboatlaw38.LinkOrder', WHERE WHAT IT READS IS OF BULK AT MOST 1048576: true; the input reads as it did. -/
def linkOrderUptoRow : OpenClaim := { program := "ytekiedfnajchdaa", sum := "ca7d7dac352c4fc681bf5b3dc3369ffacd505431f13dd984dbef503ef5cacc49", func := "mailboat/mailboatlaw38.LinkOrder", spec := "linkOrder", inPlace := ["slices.overlaps[mailboat/api.Frame]"], unfollowed := true, recurses := true, apart := false, narrowed := true }
def LinkOrderUptoSaid : Prop := linkOrderUptoRow.holds Try.pinned (OpenSpec.upto linkOrderSpec)

/-- 'mailboatlaw38.LinkConserves', WHERE WHAT IT READS IS OF BULK AT MOST 1048576: true; the input reads as it did. -/
def linkConservesUptoRow : OpenClaim := { program := "ytekiedfnajchdaa", sum := "ca7d7dac352c4fc681bf5b3dc3369ffacd505431f13dd984dbef503ef5cacc49", func := "mailboat/mailboatlaw38.LinkConserves", spec := "linkConserves", inPlace := ["slices.overlaps[mailboat/api.Frame]"], unfollowed := true, recurses := true, apart := false, narrowed := true }
def LinkConservesUptoSaid : Prop := linkConservesUptoRow.holds Try.pinned (OpenSpec.upto linkConservesSpec)

end Rows
end Go.Proofs.Ytekiedfnajchdaa
