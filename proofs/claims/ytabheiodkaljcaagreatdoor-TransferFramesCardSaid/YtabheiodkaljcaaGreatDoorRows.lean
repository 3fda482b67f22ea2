/-
  NARROWER THAN 'FOR EVERY INPUT', by the rows' own cells (each row's printed sentence says how): TransferRun: laid · TransferKnown: laid · TransferLater: laid · TransferInterval: laid · TransferData: laid · TransferQuiet: laid · TransferFrames: laid · TransferBound: laid.
  DERIVED. THE GIVEN ROWS OF THIS SEAT. 8 by the template 'for every input the law returns true; each argument reads behind the call as it read before'; 0 by the template 'total and deterministic' (their statements: YtabheiodkaljcaaGreatDoorTotals.lean).
  GIVEN WITH THE SEED: the statements are not yours to turn. If you find one false, say at which input.
  Laid BY PROGRAM, IN A SANDBOX (cutbox-rows.mjs): the forced cells as the released guide's own fill.sh prints them over the translation 4292106520e3b8df… (all of the seat's roots in one cut). By AI agents, Wed Nov 11 2026. No macro, syntax, notation, axiom, sorry.
-/
import Derived.Test.YtabheiodkaljcaaGreatDoorChecked
import GoSem.PinnedTables
import GoSem.Claim
import GoSem.ClaimJoined
import GoSem.ClaimMapViews
import Derived.JoinedTies
import Derived.KernelRfl
namespace Go.Proofs.YtabheiodkaljcaaGreatDoor
/- THE CELL 'sum', in the pinned program and in every row, IS THE sha256 OF THE DUMP (.gsa) THAT YtabheiodkaljcaaGreatDoorProg.lean LOADS. Nothing in Lean hashes anything: it is a label: what it is worth is what the hold of that sum in a sandbox is worth. -/
noncomputable def Tryz.pinned : Pinned := { name := "ytabheiodkaljcaagreatdoor", sum := "4292106520e3b8dffe540aefb0d8abbc06350a22dd3ea597938c6465ad833375", checked := Tryz.checked }
namespace Rows
def none {H : Type} : Left H := { results := [], args := [] }

/- WHAT THE LISTED PACKAGE-LEVEL VARIABLES READ AS WHEN THE CALL BEGINS. Each datum BY PROGRAM (the guide's laid-datum.mjs) off the statement by which the dump's own 'gosem.cut.vars' lays the variable. In a bare row this is a premise. The card (YtabheiodkaljcaaGreatDoorCards.lean) ties it to the program's text. -/
def laid_unicode_utf8_acceptRanges {H : Type} : DataW H := .agg [.agg [.lit (.int .u8 128), .lit (.int .u8 191)], .agg [.lit (.int .u8 160), .lit (.int .u8 191)], .agg [.lit (.int .u8 128), .lit (.int .u8 159)], .agg [.lit (.int .u8 144), .lit (.int .u8 191)], .agg [.lit (.int .u8 128), .lit (.int .u8 143)], .agg [.lit (.int .u8 0), .lit (.int .u8 0)], .agg [.lit (.int .u8 0), .lit (.int .u8 0)], .agg [.lit (.int .u8 0), .lit (.int .u8 0)], .agg [.lit (.int .u8 0), .lit (.int .u8 0)], .agg [.lit (.int .u8 0), .lit (.int .u8 0)], .agg [.lit (.int .u8 0), .lit (.int .u8 0)], .agg [.lit (.int .u8 0), .lit (.int .u8 0)], .agg [.lit (.int .u8 0), .lit (.int .u8 0)], .agg [.lit (.int .u8 0), .lit (.int .u8 0)], .agg [.lit (.int .u8 0), .lit (.int .u8 0)], .agg [.lit (.int .u8 0), .lit (.int .u8 0)]]
/-- One of Go's own tables, pinned by name: the form's constant. -/
def laid_unicode_utf8_first : DataW Unit := Go.Pinned.utf8First

/-- 'mailboatlaw41.TransferRun': WHATEVER THE INPUT: true; the input reads as it did. -/
def transferRunSpec : ChangeSpec := { name := "transferRun", fn := fun _ => fun
  | [d] => { results := [.lit (.bool true)], args := [d] }
  | _ => none }
def transferRunRow : OpenClaim := { program := "ytabheiodkaljcaagreatdoor", sum := "4292106520e3b8dffe540aefb0d8abbc06350a22dd3ea597938c6465ad833375", func := "mailboat/mailboatlaw41.TransferRun", spec := "transferRun", inPlace := ["internal/abi.NoEscape", "internal/bytealg.MakeNoZero", "slices.overlaps[mailboat/api.Frame]", "internal/bytealg.IndexByteString", "internal/bytealg.IndexString"], unfollowed := true, recurses := true, named := ["unicode/utf8.first", "unicode/utf8.acceptRanges", "internal/bytealg.MaxLen"], apart := false, laid := [("unicode/utf8.acceptRanges", laid_unicode_utf8_acceptRanges), ("unicode/utf8.first", laid_unicode_utf8_first)] }
def TransferRunSaid : Prop := transferRunRow.holds Tryz.pinned (OpenSpec.ofChange transferRunSpec)

/-- ITS FALSE NEIGHBOUR: 'it returns false'. Refute it at one input. -/
def transferRunWrong : ChangeSpec := { name := "transferRun", fn := fun _ => fun
  | [d] => { results := [.lit (.bool false)], args := [d] }
  | _ => none }
def TransferRunWrongFalsely : Prop := transferRunRow.holds Tryz.pinned (OpenSpec.ofChange transferRunWrong)

/-- 'mailboatlaw41.TransferKnown': WHATEVER THE INPUT: true; the input reads as it did. -/
def transferKnownSpec : ChangeSpec := { name := "transferKnown", fn := fun _ => fun
  | [d] => { results := [.lit (.bool true)], args := [d] }
  | _ => none }
def transferKnownRow : OpenClaim := { program := "ytabheiodkaljcaagreatdoor", sum := "4292106520e3b8dffe540aefb0d8abbc06350a22dd3ea597938c6465ad833375", func := "mailboat/mailboatlaw41.TransferKnown", spec := "transferKnown", inPlace := ["internal/abi.NoEscape", "internal/bytealg.MakeNoZero", "slices.overlaps[mailboat/api.Frame]", "internal/bytealg.IndexByteString", "internal/bytealg.IndexString"], unfollowed := true, recurses := true, named := ["unicode/utf8.first", "unicode/utf8.acceptRanges", "internal/bytealg.MaxLen"], apart := false, laid := [("unicode/utf8.acceptRanges", laid_unicode_utf8_acceptRanges), ("unicode/utf8.first", laid_unicode_utf8_first)] }
def TransferKnownSaid : Prop := transferKnownRow.holds Tryz.pinned (OpenSpec.ofChange transferKnownSpec)

/-- ITS FALSE NEIGHBOUR: 'it returns false'. Refute it at one input. -/
def transferKnownWrong : ChangeSpec := { name := "transferKnown", fn := fun _ => fun
  | [d] => { results := [.lit (.bool false)], args := [d] }
  | _ => none }
def TransferKnownWrongFalsely : Prop := transferKnownRow.holds Tryz.pinned (OpenSpec.ofChange transferKnownWrong)

/-- 'mailboatlaw41.TransferLater': WHATEVER THE INPUT: true; the input reads as it did. -/
def transferLaterSpec : ChangeSpec := { name := "transferLater", fn := fun _ => fun
  | [d1, d2] => { results := [.lit (.bool true)], args := [d1, d2] }
  | _ => none }
def transferLaterRow : OpenClaim := { program := "ytabheiodkaljcaagreatdoor", sum := "4292106520e3b8dffe540aefb0d8abbc06350a22dd3ea597938c6465ad833375", func := "mailboat/mailboatlaw41.TransferLater", spec := "transferLater", inPlace := ["internal/abi.NoEscape", "internal/bytealg.MakeNoZero", "slices.overlaps[mailboat/api.Frame]", "internal/bytealg.IndexByteString", "internal/bytealg.IndexString"], unfollowed := true, recurses := true, named := ["unicode/utf8.first", "unicode/utf8.acceptRanges", "internal/bytealg.MaxLen"], apart := false, laid := [("unicode/utf8.acceptRanges", laid_unicode_utf8_acceptRanges), ("unicode/utf8.first", laid_unicode_utf8_first)] }
def TransferLaterSaid : Prop := transferLaterRow.holds Tryz.pinned (OpenSpec.ofChange transferLaterSpec)

/-- ITS FALSE NEIGHBOUR: 'it returns false'. Refute it at one input. -/
def transferLaterWrong : ChangeSpec := { name := "transferLater", fn := fun _ => fun
  | [d1, d2] => { results := [.lit (.bool false)], args := [d1, d2] }
  | _ => none }
def TransferLaterWrongFalsely : Prop := transferLaterRow.holds Tryz.pinned (OpenSpec.ofChange transferLaterWrong)

/-- 'mailboatlaw41.TransferInterval': WHATEVER THE INPUT: true; the input reads as it did. -/
def transferIntervalSpec : ChangeSpec := { name := "transferInterval", fn := fun _ => fun
  | [d] => { results := [.lit (.bool true)], args := [d] }
  | _ => none }
def transferIntervalRow : OpenClaim := { program := "ytabheiodkaljcaagreatdoor", sum := "4292106520e3b8dffe540aefb0d8abbc06350a22dd3ea597938c6465ad833375", func := "mailboat/mailboatlaw41.TransferInterval", spec := "transferInterval", inPlace := ["internal/abi.NoEscape", "internal/bytealg.MakeNoZero", "slices.overlaps[mailboat/api.Frame]", "internal/bytealg.IndexByteString", "internal/bytealg.IndexString"], unfollowed := true, recurses := true, named := ["unicode/utf8.first", "unicode/utf8.acceptRanges", "internal/bytealg.MaxLen"], apart := false, laid := [("unicode/utf8.acceptRanges", laid_unicode_utf8_acceptRanges), ("unicode/utf8.first", laid_unicode_utf8_first)] }
def TransferIntervalSaid : Prop := transferIntervalRow.holds Tryz.pinned (OpenSpec.ofChange transferIntervalSpec)

/-- ITS FALSE NEIGHBOUR: 'it returns false'. Refute it at one input. -/
def transferIntervalWrong : ChangeSpec := { name := "transferInterval", fn := fun _ => fun
  | [d] => { results := [.lit (.bool false)], args := [d] }
  | _ => none }
def TransferIntervalWrongFalsely : Prop := transferIntervalRow.holds Tryz.pinned (OpenSpec.ofChange transferIntervalWrong)

/-- 'mailboatlaw41.TransferData': WHATEVER THE INPUT: true; the input reads as it did. -/
def transferDataSpec : ChangeSpec := { name := "transferData", fn := fun _ => fun
  | [d] => { results := [.lit (.bool true)], args := [d] }
  | _ => none }
def transferDataRow : OpenClaim := { program := "ytabheiodkaljcaagreatdoor", sum := "4292106520e3b8dffe540aefb0d8abbc06350a22dd3ea597938c6465ad833375", func := "mailboat/mailboatlaw41.TransferData", spec := "transferData", inPlace := ["internal/abi.NoEscape", "internal/bytealg.MakeNoZero", "slices.overlaps[mailboat/api.Frame]", "internal/bytealg.IndexByteString", "internal/bytealg.IndexString"], unfollowed := true, recurses := true, named := ["unicode/utf8.first", "unicode/utf8.acceptRanges", "internal/bytealg.MaxLen"], apart := false, laid := [("unicode/utf8.acceptRanges", laid_unicode_utf8_acceptRanges), ("unicode/utf8.first", laid_unicode_utf8_first)] }
def TransferDataSaid : Prop := transferDataRow.holds Tryz.pinned (OpenSpec.ofChange transferDataSpec)

/-- ITS FALSE NEIGHBOUR: 'it returns false'. Refute it at one input. -/
def transferDataWrong : ChangeSpec := { name := "transferData", fn := fun _ => fun
  | [d] => { results := [.lit (.bool false)], args := [d] }
  | _ => none }
def TransferDataWrongFalsely : Prop := transferDataRow.holds Tryz.pinned (OpenSpec.ofChange transferDataWrong)

/-- 'mailboatlaw41.TransferQuiet': WHATEVER THE INPUT: true; the input reads as it did. -/
def transferQuietSpec : ChangeSpec := { name := "transferQuiet", fn := fun _ => fun
  | [d] => { results := [.lit (.bool true)], args := [d] }
  | _ => none }
def transferQuietRow : OpenClaim := { program := "ytabheiodkaljcaagreatdoor", sum := "4292106520e3b8dffe540aefb0d8abbc06350a22dd3ea597938c6465ad833375", func := "mailboat/mailboatlaw41.TransferQuiet", spec := "transferQuiet", inPlace := ["internal/abi.NoEscape", "internal/bytealg.MakeNoZero", "slices.overlaps[mailboat/api.Frame]", "internal/bytealg.IndexByteString", "internal/bytealg.IndexString"], unfollowed := true, recurses := true, named := ["unicode/utf8.first", "unicode/utf8.acceptRanges", "internal/bytealg.MaxLen"], apart := false, laid := [("unicode/utf8.acceptRanges", laid_unicode_utf8_acceptRanges), ("unicode/utf8.first", laid_unicode_utf8_first)] }
def TransferQuietSaid : Prop := transferQuietRow.holds Tryz.pinned (OpenSpec.ofChange transferQuietSpec)

/-- ITS FALSE NEIGHBOUR: 'it returns false'. Refute it at one input. -/
def transferQuietWrong : ChangeSpec := { name := "transferQuiet", fn := fun _ => fun
  | [d] => { results := [.lit (.bool false)], args := [d] }
  | _ => none }
def TransferQuietWrongFalsely : Prop := transferQuietRow.holds Tryz.pinned (OpenSpec.ofChange transferQuietWrong)

/-- 'mailboatlaw41.TransferFrames': WHATEVER THE INPUT: true; the input reads as it did. -/
def transferFramesSpec : ChangeSpec := { name := "transferFrames", fn := fun _ => fun
  | [d1, d2] => { results := [.lit (.bool true)], args := [d1, d2] }
  | _ => none }
def transferFramesRow : OpenClaim := { program := "ytabheiodkaljcaagreatdoor", sum := "4292106520e3b8dffe540aefb0d8abbc06350a22dd3ea597938c6465ad833375", func := "mailboat/mailboatlaw41.TransferFrames", spec := "transferFrames", inPlace := ["internal/abi.NoEscape", "internal/bytealg.MakeNoZero", "slices.overlaps[mailboat/api.Frame]", "internal/bytealg.IndexByteString", "internal/bytealg.IndexString"], unfollowed := true, recurses := true, named := ["unicode/utf8.first", "unicode/utf8.acceptRanges", "internal/bytealg.MaxLen"], apart := false, laid := [("unicode/utf8.acceptRanges", laid_unicode_utf8_acceptRanges), ("unicode/utf8.first", laid_unicode_utf8_first)] }
def TransferFramesSaid : Prop := transferFramesRow.holds Tryz.pinned (OpenSpec.ofChange transferFramesSpec)

/-- ITS FALSE NEIGHBOUR: 'it returns false'. Refute it at one input. -/
def transferFramesWrong : ChangeSpec := { name := "transferFrames", fn := fun _ => fun
  | [d1, d2] => { results := [.lit (.bool false)], args := [d1, d2] }
  | _ => none }
def TransferFramesWrongFalsely : Prop := transferFramesRow.holds Tryz.pinned (OpenSpec.ofChange transferFramesWrong)

/-- 'mailboatlaw41.TransferBound': WHATEVER THE INPUT: true; the input reads as it did. -/
def transferBoundSpec : ChangeSpec := { name := "transferBound", fn := fun _ => fun
  | [d1, d2] => { results := [.lit (.bool true)], args := [d1, d2] }
  | _ => none }
def transferBoundRow : OpenClaim := { program := "ytabheiodkaljcaagreatdoor", sum := "4292106520e3b8dffe540aefb0d8abbc06350a22dd3ea597938c6465ad833375", func := "mailboat/mailboatlaw41.TransferBound", spec := "transferBound", inPlace := ["internal/abi.NoEscape", "internal/bytealg.MakeNoZero", "slices.overlaps[mailboat/api.Frame]", "internal/bytealg.IndexByteString", "internal/bytealg.IndexString"], unfollowed := true, recurses := true, named := ["unicode/utf8.first", "unicode/utf8.acceptRanges", "internal/bytealg.MaxLen"], apart := false, laid := [("unicode/utf8.acceptRanges", laid_unicode_utf8_acceptRanges), ("unicode/utf8.first", laid_unicode_utf8_first)] }
def TransferBoundSaid : Prop := transferBoundRow.holds Tryz.pinned (OpenSpec.ofChange transferBoundSpec)

/-- ITS FALSE NEIGHBOUR: 'it returns false'. Refute it at one input. -/
def transferBoundWrong : ChangeSpec := { name := "transferBound", fn := fun _ => fun
  | [d1, d2] => { results := [.lit (.bool false)], args := [d1, d2] }
  | _ => none }
def TransferBoundWrongFalsely : Prop := transferBoundRow.holds Tryz.pinned (OpenSpec.ofChange transferBoundWrong)

/- THE SECOND FORM. 'bulk': how many values and letters a reading holds, each counted each time it is reached (what is shared counts as often as it is met; a slice's spare places count too). A statement '..UptoSaid' is the law's where the arguments, and the package variables that the reading takes, are together of bulk at most 1048576: NARROWER than '..Said'. Prove '..Said' where nothing that the law and all that it calls make is longer than what came in: it says more and counts as full. Else prove '..UptoSaid'. A law counts once. -/
mutual
def uptoBulk {H : Type} : DataW H → Nat
  | .lit (.string bytes) => bytes.length + 1
  | .lit _ => 1
  | .nil => 1
  | .ptr d => uptoBulk d + 1
  | .slice elems spare => uptoBulkAll elems + uptoBulkAll spare + 1
  | .agg parts => uptoBulkAll parts + 1
  | .iface _ d => uptoBulk d + 1
  | .map entries => uptoBulkEntries entries + 1
  | .held _ => 1
def uptoBulkAll {H : Type} : List (DataW H) → Nat
  | [] => 0
  | d :: r => uptoBulk d + uptoBulkAll r
def uptoBulkEntries {H : Type} : List (Lit × DataW H) → Nat
  | [] => 0
  | x :: r => uptoBulkEntry x + uptoBulkEntries r
def uptoBulkEntry {H : Type} : Lit × DataW H → Nat
  | (.string bytes, d) => bytes.length + uptoBulk d + 1
  | (_, d) => uptoBulk d + 1
 end
def uptoSmall : (H : Type) → List (DataW H) → Bool := fun _ ds => decide (uptoBulkAll ds ≤ 1048576)
def OpenSpec.upto (s : _root_.Go.ChangeSpec) : _root_.Go.OpenSpec := { _root_.Go.OpenSpec.ofChange s with cond := some uptoSmall }

/-- 'mailboatlaw41.TransferRun', WHERE WHAT IT READS IS OF BULK AT MOST 1048576: true; the input reads as it did. -/
def transferRunUptoRow : OpenClaim := { program := "ytabheiodkaljcaagreatdoor", sum := "4292106520e3b8dffe540aefb0d8abbc06350a22dd3ea597938c6465ad833375", func := "mailboat/mailboatlaw41.TransferRun", spec := "transferRun", inPlace := ["internal/abi.NoEscape", "internal/bytealg.MakeNoZero", "slices.overlaps[mailboat/api.Frame]", "internal/bytealg.IndexByteString", "internal/bytealg.IndexString"], unfollowed := true, recurses := true, named := ["unicode/utf8.first", "unicode/utf8.acceptRanges", "internal/bytealg.MaxLen"], apart := false, laid := [("unicode/utf8.acceptRanges", laid_unicode_utf8_acceptRanges), ("unicode/utf8.first", laid_unicode_utf8_first)], narrowed := true }
def TransferRunUptoSaid : Prop := transferRunUptoRow.holds Tryz.pinned (OpenSpec.upto transferRunSpec)

/-- 'mailboatlaw41.TransferKnown', WHERE WHAT IT READS IS OF BULK AT MOST 1048576: true; the input reads as it did. -/
def transferKnownUptoRow : OpenClaim := { program := "ytabheiodkaljcaagreatdoor", sum := "4292106520e3b8dffe540aefb0d8abbc06350a22dd3ea597938c6465ad833375", func := "mailboat/mailboatlaw41.TransferKnown", spec := "transferKnown", inPlace := ["internal/abi.NoEscape", "internal/bytealg.MakeNoZero", "slices.overlaps[mailboat/api.Frame]", "internal/bytealg.IndexByteString", "internal/bytealg.IndexString"], unfollowed := true, recurses := true, named := ["unicode/utf8.first", "unicode/utf8.acceptRanges", "internal/bytealg.MaxLen"], apart := false, laid := [("unicode/utf8.acceptRanges", laid_unicode_utf8_acceptRanges), ("unicode/utf8.first", laid_unicode_utf8_first)], narrowed := true }
def TransferKnownUptoSaid : Prop := transferKnownUptoRow.holds Tryz.pinned (OpenSpec.upto transferKnownSpec)

/-- 'mailboatlaw41.TransferLater', WHERE WHAT IT READS IS OF BULK AT MOST 1048576: true; the input reads as it did. -/
def transferLaterUptoRow : OpenClaim := { program := "ytabheiodkaljcaagreatdoor", sum := "4292106520e3b8dffe540aefb0d8abbc06350a22dd3ea597938c6465ad833375", func := "mailboat/mailboatlaw41.TransferLater", spec := "transferLater", inPlace := ["internal/abi.NoEscape", "internal/bytealg.MakeNoZero", "slices.overlaps[mailboat/api.Frame]", "internal/bytealg.IndexByteString", "internal/bytealg.IndexString"], unfollowed := true, recurses := true, named := ["unicode/utf8.first", "unicode/utf8.acceptRanges", "internal/bytealg.MaxLen"], apart := false, laid := [("unicode/utf8.acceptRanges", laid_unicode_utf8_acceptRanges), ("unicode/utf8.first", laid_unicode_utf8_first)], narrowed := true }
def TransferLaterUptoSaid : Prop := transferLaterUptoRow.holds Tryz.pinned (OpenSpec.upto transferLaterSpec)

/-- 'mailboatlaw41.TransferInterval', WHERE WHAT IT READS IS OF BULK AT MOST 1048576: true; the input reads as it did. -/
def transferIntervalUptoRow : OpenClaim := { program := "ytabheiodkaljcaagreatdoor", sum := "4292106520e3b8dffe540aefb0d8abbc06350a22dd3ea597938c6465ad833375", func := "mailboat/mailboatlaw41.TransferInterval", spec := "transferInterval", inPlace := ["internal/abi.NoEscape", "internal/bytealg.MakeNoZero", "slices.overlaps[mailboat/api.Frame]", "internal/bytealg.IndexByteString", "internal/bytealg.IndexString"], unfollowed := true, recurses := true, named := ["unicode/utf8.first", "unicode/utf8.acceptRanges", "internal/bytealg.MaxLen"], apart := false, laid := [("unicode/utf8.acceptRanges", laid_unicode_utf8_acceptRanges), ("unicode/utf8.first", laid_unicode_utf8_first)], narrowed := true }
def TransferIntervalUptoSaid : Prop := transferIntervalUptoRow.holds Tryz.pinned (OpenSpec.upto transferIntervalSpec)

/-- 'mailboatlaw41.TransferData', WHERE WHAT IT READS IS OF BULK AT MOST 1048576: true; the input reads as it did. -/
def transferDataUptoRow : OpenClaim := { program := "ytabheiodkaljcaagreatdoor", sum := "4292106520e3b8dffe540aefb0d8abbc06350a22dd3ea597938c6465ad833375", func := "mailboat/mailboatlaw41.TransferData", spec := "transferData", inPlace := ["internal/abi.NoEscape", "internal/bytealg.MakeNoZero", "slices.overlaps[mailboat/api.Frame]", "internal/bytealg.IndexByteString", "internal/bytealg.IndexString"], unfollowed := true, recurses := true, named := ["unicode/utf8.first", "unicode/utf8.acceptRanges", "internal/bytealg.MaxLen"], apart := false, laid := [("unicode/utf8.acceptRanges", laid_unicode_utf8_acceptRanges), ("unicode/utf8.first", laid_unicode_utf8_first)], narrowed := true }
def TransferDataUptoSaid : Prop := transferDataUptoRow.holds Tryz.pinned (OpenSpec.upto transferDataSpec)

/-- 'mailboatlaw41.TransferQuiet', WHERE WHAT IT READS IS OF BULK AT MOST 1048576: true; the input reads as it did. -/
def transferQuietUptoRow : OpenClaim := { program := "ytabheiodkaljcaagreatdoor", sum := "4292106520e3b8dffe540aefb0d8abbc06350a22dd3ea597938c6465ad833375", func := "mailboat/mailboatlaw41.TransferQuiet", spec := "transferQuiet", inPlace := ["internal/abi.NoEscape", "internal/bytealg.MakeNoZero", "slices.overlaps[mailboat/api.Frame]", "internal/bytealg.IndexByteString", "internal/bytealg.IndexString"], unfollowed := true, recurses := true, named := ["unicode/utf8.first", "unicode/utf8.acceptRanges", "internal/bytealg.MaxLen"], apart := false, laid := [("unicode/utf8.acceptRanges", laid_unicode_utf8_acceptRanges), ("unicode/utf8.first", laid_unicode_utf8_first)], narrowed := true }
def TransferQuietUptoSaid : Prop := transferQuietUptoRow.holds Tryz.pinned (OpenSpec.upto transferQuietSpec)

/-- 'mailboatlaw41.TransferFrames', WHERE WHAT IT READS IS OF BULK AT MOST 1048576: true; the input reads as it did. -/
def transferFramesUptoRow : OpenClaim := { program := "ytabheiodkaljcaagreatdoor", sum := "4292106520e3b8dffe540aefb0d8abbc06350a22dd3ea597938c6465ad833375", func := "mailboat/mailboatlaw41.TransferFrames", spec := "transferFrames", inPlace := ["internal/abi.NoEscape", "internal/bytealg.MakeNoZero", "slices.overlaps[mailboat/api.Frame]", "internal/bytealg.IndexByteString", "internal/bytealg.IndexString"], unfollowed := true, recurses := true, named := ["unicode/utf8.first", "unicode/utf8.acceptRanges", "internal/bytealg.MaxLen"], apart := false, laid := [("unicode/utf8.acceptRanges", laid_unicode_utf8_acceptRanges), ("unicode/utf8.first", laid_unicode_utf8_first)], narrowed := true }
def TransferFramesUptoSaid : Prop := transferFramesUptoRow.holds Tryz.pinned (OpenSpec.upto transferFramesSpec)

/-- 'mailboatlaw41.TransferBound', WHERE WHAT IT READS IS OF BULK AT MOST 1048576: true; the input reads as it did. -/
def transferBoundUptoRow : OpenClaim := { program := "ytabheiodkaljcaagreatdoor", sum := "4292106520e3b8dffe540aefb0d8abbc06350a22dd3ea597938c6465ad833375", func := "mailboat/mailboatlaw41.TransferBound", spec := "transferBound", inPlace := ["internal/abi.NoEscape", "internal/bytealg.MakeNoZero", "slices.overlaps[mailboat/api.Frame]", "internal/bytealg.IndexByteString", "internal/bytealg.IndexString"], unfollowed := true, recurses := true, named := ["unicode/utf8.first", "unicode/utf8.acceptRanges", "internal/bytealg.MaxLen"], apart := false, laid := [("unicode/utf8.acceptRanges", laid_unicode_utf8_acceptRanges), ("unicode/utf8.first", laid_unicode_utf8_first)], narrowed := true }
def TransferBoundUptoSaid : Prop := transferBoundUptoRow.holds Tryz.pinned (OpenSpec.upto transferBoundSpec)

end Rows
end Go.Proofs.YtabheiodkaljcaaGreatDoor
