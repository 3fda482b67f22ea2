/-
  NARROWER THAN 'FOR EVERY INPUT', by the rows' own cells (each row's printed sentence says how): ReceiverHear: laid · ReceiverData: laid · ReceiverKnown: laid · ReceiverKeeps: laid · ReceiverOrder: laid · ReceiverComplete: laid.
  DERIVED. THE GIVEN ROWS OF THIS SEAT. 6 by the template 'for every input the law returns true; each argument reads behind the call as it read before'; 0 by the template 'total and deterministic' (their statements: YthgemjameiibpaaDoorTotals.lean).
  GIVEN WITH THE SEED: the statements are not yours to turn. If you find one false, say at which input.
  Laid BY PROGRAM, IN A SANDBOX (cutbox-rows.mjs): the forced cells as the released guide's own fill.sh prints them over the translation 8171c682c7000fb3… (all of the seat's roots in one cut). By AI agents, Wed Nov 11 2026. No macro, syntax, notation, axiom, sorry.
-/
import Derived.Test.YthgemjameiibpaaDoorChecked
import GoSem.PinnedTables
import GoSem.Claim
import GoSem.ClaimJoined
import GoSem.ClaimMapViews
import Derived.JoinedTies
import Derived.KernelRfl
namespace Go.Proofs.YthgemjameiibpaaDoor
/- THE CELL 'sum', in the pinned program and in every row, IS THE sha256 OF THE DUMP (.gsa) THAT YthgemjameiibpaaDoorProg.lean LOADS. Nothing in Lean hashes anything: it is a label: what it is worth is what the hold of that sum in a sandbox is worth. -/
noncomputable def Tryd.pinned : Pinned := { name := "ythgemjameiibpaadoor", sum := "8171c682c7000fb31e24f04130cca65938424a08558d2b073f5baca054651ff5", checked := Tryd.checked }
namespace Rows
def none {H : Type} : Left H := { results := [], args := [] }

/- WHAT THE LISTED PACKAGE-LEVEL VARIABLES READ AS WHEN THE CALL BEGINS. Each datum BY PROGRAM (the guide's laid-datum.mjs) off the statement by which the dump's own 'gosem.cut.vars' lays the variable. In a bare row this is a premise. The card (YthgemjameiibpaaDoorCards.lean) ties it to the program's text. -/
def laid_unicode_utf8_acceptRanges {H : Type} : DataW H := .agg [.agg [.lit (.int .u8 128), .lit (.int .u8 191)], .agg [.lit (.int .u8 160), .lit (.int .u8 191)], .agg [.lit (.int .u8 128), .lit (.int .u8 159)], .agg [.lit (.int .u8 144), .lit (.int .u8 191)], .agg [.lit (.int .u8 128), .lit (.int .u8 143)], .agg [.lit (.int .u8 0), .lit (.int .u8 0)], .agg [.lit (.int .u8 0), .lit (.int .u8 0)], .agg [.lit (.int .u8 0), .lit (.int .u8 0)], .agg [.lit (.int .u8 0), .lit (.int .u8 0)], .agg [.lit (.int .u8 0), .lit (.int .u8 0)], .agg [.lit (.int .u8 0), .lit (.int .u8 0)], .agg [.lit (.int .u8 0), .lit (.int .u8 0)], .agg [.lit (.int .u8 0), .lit (.int .u8 0)], .agg [.lit (.int .u8 0), .lit (.int .u8 0)], .agg [.lit (.int .u8 0), .lit (.int .u8 0)], .agg [.lit (.int .u8 0), .lit (.int .u8 0)]]
/-- One of Go's own tables, pinned by name: the form's constant. -/
def laid_unicode_utf8_first : DataW Unit := Go.Pinned.utf8First

/-- 'mailboatlaw40.ReceiverHear': WHATEVER THE INPUT: true; the input reads as it did. -/
def receiverHearSpec : ChangeSpec := { name := "receiverHear", fn := fun _ => fun
  | [d1, d2, d3] => { results := [.lit (.bool true)], args := [d1, d2, d3] }
  | _ => none }
def receiverHearRow : OpenClaim := { program := "ythgemjameiibpaadoor", sum := "8171c682c7000fb31e24f04130cca65938424a08558d2b073f5baca054651ff5", func := "mailboat/mailboatlaw40.ReceiverHear", spec := "receiverHear", inPlace := ["internal/bytealg.IndexByteString", "internal/bytealg.IndexString"], unfollowed := true, recurses := true, named := ["unicode/utf8.first", "unicode/utf8.acceptRanges", "internal/bytealg.MaxLen"], apart := false, laid := [("unicode/utf8.acceptRanges", laid_unicode_utf8_acceptRanges), ("unicode/utf8.first", laid_unicode_utf8_first)] }
def ReceiverHearSaid : Prop := receiverHearRow.holds Tryd.pinned (OpenSpec.ofChange receiverHearSpec)

/-- ITS FALSE NEIGHBOUR: 'it returns false'. Refute it at one input. -/
def receiverHearWrong : ChangeSpec := { name := "receiverHear", fn := fun _ => fun
  | [d1, d2, d3] => { results := [.lit (.bool false)], args := [d1, d2, d3] }
  | _ => none }
def ReceiverHearWrongFalsely : Prop := receiverHearRow.holds Tryd.pinned (OpenSpec.ofChange receiverHearWrong)

/-- 'mailboatlaw40.ReceiverData': WHATEVER THE INPUT: true; the input reads as it did. -/
def receiverDataSpec : ChangeSpec := { name := "receiverData", fn := fun _ => fun
  | [d] => { results := [.lit (.bool true)], args := [d] }
  | _ => none }
def receiverDataRow : OpenClaim := { program := "ythgemjameiibpaadoor", sum := "8171c682c7000fb31e24f04130cca65938424a08558d2b073f5baca054651ff5", func := "mailboat/mailboatlaw40.ReceiverData", spec := "receiverData", inPlace := ["internal/bytealg.IndexByteString", "internal/bytealg.IndexString"], unfollowed := true, recurses := true, named := ["unicode/utf8.first", "unicode/utf8.acceptRanges", "internal/bytealg.MaxLen"], apart := false, laid := [("unicode/utf8.acceptRanges", laid_unicode_utf8_acceptRanges), ("unicode/utf8.first", laid_unicode_utf8_first)] }
def ReceiverDataSaid : Prop := receiverDataRow.holds Tryd.pinned (OpenSpec.ofChange receiverDataSpec)

/-- ITS FALSE NEIGHBOUR: 'it returns false'. Refute it at one input. -/
def receiverDataWrong : ChangeSpec := { name := "receiverData", fn := fun _ => fun
  | [d] => { results := [.lit (.bool false)], args := [d] }
  | _ => none }
def ReceiverDataWrongFalsely : Prop := receiverDataRow.holds Tryd.pinned (OpenSpec.ofChange receiverDataWrong)

/-- 'mailboatlaw40.ReceiverKnown': WHATEVER THE INPUT: true; the input reads as it did. -/
def receiverKnownSpec : ChangeSpec := { name := "receiverKnown", fn := fun _ => fun
  | [d1, d2] => { results := [.lit (.bool true)], args := [d1, d2] }
  | _ => none }
def receiverKnownRow : OpenClaim := { program := "ythgemjameiibpaadoor", sum := "8171c682c7000fb31e24f04130cca65938424a08558d2b073f5baca054651ff5", func := "mailboat/mailboatlaw40.ReceiverKnown", spec := "receiverKnown", inPlace := ["internal/bytealg.IndexByteString", "internal/bytealg.IndexString"], unfollowed := true, recurses := true, named := ["unicode/utf8.first", "unicode/utf8.acceptRanges", "internal/bytealg.MaxLen"], apart := false, laid := [("unicode/utf8.acceptRanges", laid_unicode_utf8_acceptRanges), ("unicode/utf8.first", laid_unicode_utf8_first)] }
def ReceiverKnownSaid : Prop := receiverKnownRow.holds Tryd.pinned (OpenSpec.ofChange receiverKnownSpec)

/-- ITS FALSE NEIGHBOUR: 'it returns false'. Refute it at one input. -/
def receiverKnownWrong : ChangeSpec := { name := "receiverKnown", fn := fun _ => fun
  | [d1, d2] => { results := [.lit (.bool false)], args := [d1, d2] }
  | _ => none }
def ReceiverKnownWrongFalsely : Prop := receiverKnownRow.holds Tryd.pinned (OpenSpec.ofChange receiverKnownWrong)

/-- 'mailboatlaw40.ReceiverKeeps': WHATEVER THE INPUT: true; the input reads as it did. -/
def receiverKeepsSpec : ChangeSpec := { name := "receiverKeeps", fn := fun _ => fun
  | [d1, d2] => { results := [.lit (.bool true)], args := [d1, d2] }
  | _ => none }
def receiverKeepsRow : OpenClaim := { program := "ythgemjameiibpaadoor", sum := "8171c682c7000fb31e24f04130cca65938424a08558d2b073f5baca054651ff5", func := "mailboat/mailboatlaw40.ReceiverKeeps", spec := "receiverKeeps", inPlace := ["internal/bytealg.IndexByteString", "internal/bytealg.IndexString"], unfollowed := true, recurses := true, named := ["unicode/utf8.first", "unicode/utf8.acceptRanges", "internal/bytealg.MaxLen"], apart := false, laid := [("unicode/utf8.acceptRanges", laid_unicode_utf8_acceptRanges), ("unicode/utf8.first", laid_unicode_utf8_first)] }
def ReceiverKeepsSaid : Prop := receiverKeepsRow.holds Tryd.pinned (OpenSpec.ofChange receiverKeepsSpec)

/-- ITS FALSE NEIGHBOUR: 'it returns false'. Refute it at one input. -/
def receiverKeepsWrong : ChangeSpec := { name := "receiverKeeps", fn := fun _ => fun
  | [d1, d2] => { results := [.lit (.bool false)], args := [d1, d2] }
  | _ => none }
def ReceiverKeepsWrongFalsely : Prop := receiverKeepsRow.holds Tryd.pinned (OpenSpec.ofChange receiverKeepsWrong)

/-- 'mailboatlaw40.ReceiverOrder': WHATEVER THE INPUT: true; the input reads as it did. -/
def receiverOrderSpec : ChangeSpec := { name := "receiverOrder", fn := fun _ => fun
  | [d1, d2, d3] => { results := [.lit (.bool true)], args := [d1, d2, d3] }
  | _ => none }
def receiverOrderRow : OpenClaim := { program := "ythgemjameiibpaadoor", sum := "8171c682c7000fb31e24f04130cca65938424a08558d2b073f5baca054651ff5", func := "mailboat/mailboatlaw40.ReceiverOrder", spec := "receiverOrder", inPlace := ["internal/bytealg.IndexByteString", "internal/bytealg.IndexString"], unfollowed := true, recurses := true, named := ["unicode/utf8.first", "unicode/utf8.acceptRanges", "internal/bytealg.MaxLen"], apart := false, laid := [("unicode/utf8.acceptRanges", laid_unicode_utf8_acceptRanges), ("unicode/utf8.first", laid_unicode_utf8_first)] }
def ReceiverOrderSaid : Prop := receiverOrderRow.holds Tryd.pinned (OpenSpec.ofChange receiverOrderSpec)

/-- ITS FALSE NEIGHBOUR: 'it returns false'. Refute it at one input. -/
def receiverOrderWrong : ChangeSpec := { name := "receiverOrder", fn := fun _ => fun
  | [d1, d2, d3] => { results := [.lit (.bool false)], args := [d1, d2, d3] }
  | _ => none }
def ReceiverOrderWrongFalsely : Prop := receiverOrderRow.holds Tryd.pinned (OpenSpec.ofChange receiverOrderWrong)

/-- 'mailboatlaw40.ReceiverComplete': WHATEVER THE INPUT: true; the input reads as it did. -/
def receiverCompleteSpec : ChangeSpec := { name := "receiverComplete", fn := fun _ => fun
  | [d1, d2, d3] => { results := [.lit (.bool true)], args := [d1, d2, d3] }
  | _ => none }
def receiverCompleteRow : OpenClaim := { program := "ythgemjameiibpaadoor", sum := "8171c682c7000fb31e24f04130cca65938424a08558d2b073f5baca054651ff5", func := "mailboat/mailboatlaw40.ReceiverComplete", spec := "receiverComplete", inPlace := ["internal/bytealg.IndexByteString", "internal/bytealg.IndexString"], unfollowed := true, recurses := true, named := ["unicode/utf8.first", "unicode/utf8.acceptRanges", "internal/bytealg.MaxLen"], apart := false, laid := [("unicode/utf8.acceptRanges", laid_unicode_utf8_acceptRanges), ("unicode/utf8.first", laid_unicode_utf8_first)] }
def ReceiverCompleteSaid : Prop := receiverCompleteRow.holds Tryd.pinned (OpenSpec.ofChange receiverCompleteSpec)

/-- ITS FALSE NEIGHBOUR: 'it returns false'. Refute it at one input. -/
def receiverCompleteWrong : ChangeSpec := { name := "receiverComplete", fn := fun _ => fun
  | [d1, d2, d3] => { results := [.lit (.bool false)], args := [d1, d2, d3] }
  | _ => none }
def ReceiverCompleteWrongFalsely : Prop := receiverCompleteRow.holds Tryd.pinned (OpenSpec.ofChange receiverCompleteWrong)

/- THE SECOND FORM. 'bulk': how many values and letters a reading holds, each counted each time it is reached (what is shared counts as often as it is met; a slice's spare places count too). A statement '..UptoSaid' is the law's where the arguments, and the package variables that the reading takes, are together of bulk at most 1048576: NARROWER than '..Said'. Prove '..Said' where nothing that the law and all that it calls make is longer than what came in: it says more and counts as full. Else prove '..UptoSaid'. A law counts once. -/
mutual
def uptoBulk {H : Type} : DataW H → Nat
  | .lit (.string bytes) => bytes.length + 1
  | .lit _ => 1
  | .nil => 1
  | .ptr d => uptoBulk d + 1
  | .slice elems spare => uptoBulkAll elems + uptoBulkAll spare + 1
  | .agg parts => uptoBulkAll parts + 1
  | .iface _ d => uptoBulk d + 1
  | .map entries => uptoBulkEntries entries + 1
  | .held _ => 1
def uptoBulkAll {H : Type} : List (DataW H) → Nat
  | [] => 0
  | d :: r => uptoBulk d + uptoBulkAll r
def uptoBulkEntries {H : Type} : List (Lit × DataW H) → Nat
  | [] => 0
  | x :: r => uptoBulkEntry x + uptoBulkEntries r
def uptoBulkEntry {H : Type} : Lit × DataW H → Nat
  | (.string bytes, d) => bytes.length + uptoBulk d + 1
  | (_, d) => uptoBulk d + 1
 end
def uptoSmall : (H : Type) → List (DataW H) → Bool := fun _ ds => decide (uptoBulkAll ds ≤ 1048576)
def OpenSpec.upto (s : _root_.Go.ChangeSpec) : _root_.Go.OpenSpec := { _root_.Go.OpenSpec.ofChange s with cond := some uptoSmall }

/-- 'mailboatlaw40.ReceiverHear', WHERE WHAT IT READS IS OF BULK AT MOST 1048576: true; the input reads as it did. -/
def receiverHearUptoRow : OpenClaim := { program := "ythgemjameiibpaadoor", sum := "8171c682c7000fb31e24f04130cca65938424a08558d2b073f5baca054651ff5", func := "mailboat/mailboatlaw40.ReceiverHear", spec := "receiverHear", inPlace := ["internal/bytealg.IndexByteString", "internal/bytealg.IndexString"], unfollowed := true, recurses := true, named := ["unicode/utf8.first", "unicode/utf8.acceptRanges", "internal/bytealg.MaxLen"], apart := false, laid := [("unicode/utf8.acceptRanges", laid_unicode_utf8_acceptRanges), ("unicode/utf8.first", laid_unicode_utf8_first)], narrowed := true }
def ReceiverHearUptoSaid : Prop := receiverHearUptoRow.holds Tryd.pinned (OpenSpec.upto receiverHearSpec)

/-- 'mailboatlaw40.ReceiverData', WHERE WHAT IT READS IS OF BULK AT MOST 1048576: true; the input reads as it did. -/
def receiverDataUptoRow : OpenClaim := { program := "ythgemjameiibpaadoor", sum := "8171c682c7000fb31e24f04130cca65938424a08558d2b073f5baca054651ff5", func := "mailboat/mailboatlaw40.ReceiverData", spec := "receiverData", inPlace := ["internal/bytealg.IndexByteString", "internal/bytealg.IndexString"], unfollowed := true, recurses := true, named := ["unicode/utf8.first", "unicode/utf8.acceptRanges", "internal/bytealg.MaxLen"], apart := false, laid := [("unicode/utf8.acceptRanges", laid_unicode_utf8_acceptRanges), ("unicode/utf8.first", laid_unicode_utf8_first)], narrowed := true }
def ReceiverDataUptoSaid : Prop := receiverDataUptoRow.holds Tryd.pinned (OpenSpec.upto receiverDataSpec)

/-- 'mailboatlaw40.ReceiverKnown', WHERE WHAT IT READS IS OF BULK AT MOST 1048576: true; the input reads as it did. -/
def receiverKnownUptoRow : OpenClaim := { program := "ythgemjameiibpaadoor", sum := "8171c682c7000fb31e24f04130cca65938424a08558d2b073f5baca054651ff5", func := "mailboat/mailboatlaw40.ReceiverKnown", spec := "receiverKnown", inPlace := ["internal/bytealg.IndexByteString", "internal/bytealg.IndexString"], unfollowed := true, recurses := true, named := ["unicode/utf8.first", "unicode/utf8.acceptRanges", "internal/bytealg.MaxLen"], apart := false, laid := [("unicode/utf8.acceptRanges", laid_unicode_utf8_acceptRanges), ("unicode/utf8.first", laid_unicode_utf8_first)], narrowed := true }
def ReceiverKnownUptoSaid : Prop := receiverKnownUptoRow.holds Tryd.pinned (OpenSpec.upto receiverKnownSpec)

/-- 'mailboatlaw40.ReceiverKeeps', WHERE WHAT IT READS IS OF BULK AT MOST 1048576: true; the input reads as it did. -/
def receiverKeepsUptoRow : OpenClaim := { program := "ythgemjameiibpaadoor", sum := "8171c682c7000fb31e24f04130cca65938424a08558d2b073f5baca054651ff5", func := "mailboat/mailboatlaw40.ReceiverKeeps", spec := "receiverKeeps", inPlace := ["internal/bytealg.IndexByteString", "internal/bytealg.IndexString"], unfollowed := true, recurses := true, named := ["unicode/utf8.first", "unicode/utf8.acceptRanges", "internal/bytealg.MaxLen"], apart := false, laid := [("unicode/utf8.acceptRanges", laid_unicode_utf8_acceptRanges), ("unicode/utf8.first", laid_unicode_utf8_first)], narrowed := true }
def ReceiverKeepsUptoSaid : Prop := receiverKeepsUptoRow.holds Tryd.pinned (OpenSpec.upto receiverKeepsSpec)

/-- 'mailboatlaw40.ReceiverOrder', WHERE WHAT IT READS IS OF BULK AT MOST 1048576: true; the input reads as it did. -/
def receiverOrderUptoRow : OpenClaim := { program := "ythgemjameiibpaadoor", sum := "8171c682c7000fb31e24f04130cca65938424a08558d2b073f5baca054651ff5", func := "mailboat/mailboatlaw40.ReceiverOrder", spec := "receiverOrder", inPlace := ["internal/bytealg.IndexByteString", "internal/bytealg.IndexString"], unfollowed := true, recurses := true, named := ["unicode/utf8.first", "unicode/utf8.acceptRanges", "internal/bytealg.MaxLen"], apart := false, laid := [("unicode/utf8.acceptRanges", laid_unicode_utf8_acceptRanges), ("unicode/utf8.first", laid_unicode_utf8_first)], narrowed := true }
def ReceiverOrderUptoSaid : Prop := receiverOrderUptoRow.holds Tryd.pinned (OpenSpec.upto receiverOrderSpec)

/-- 'mailboatlaw40.ReceiverComplete', WHERE WHAT IT READS IS OF BULK AT MOST 1048576: true; the input reads as it did. -/
def receiverCompleteUptoRow : OpenClaim := { program := "ythgemjameiibpaadoor", sum := "8171c682c7000fb31e24f04130cca65938424a08558d2b073f5baca054651ff5", func := "mailboat/mailboatlaw40.ReceiverComplete", spec := "receiverComplete", inPlace := ["internal/bytealg.IndexByteString", "internal/bytealg.IndexString"], unfollowed := true, recurses := true, named := ["unicode/utf8.first", "unicode/utf8.acceptRanges", "internal/bytealg.MaxLen"], apart := false, laid := [("unicode/utf8.acceptRanges", laid_unicode_utf8_acceptRanges), ("unicode/utf8.first", laid_unicode_utf8_first)], narrowed := true }
def ReceiverCompleteUptoSaid : Prop := receiverCompleteUptoRow.holds Tryd.pinned (OpenSpec.upto receiverCompleteSpec)

end Rows
end Go.Proofs.YthgemjameiibpaaDoor
