/-
  No cell of these rows narrows 'for every input' (looked for: loops, veiled, ifaces, maps, wideKeys, modest, calm, conditions, laid).
  DERIVED. THE GIVEN ROWS OF THIS SEAT. 7 by the template 'for every input the law returns true; each argument reads behind the call as it read before'; 0 by the template 'total and deterministic' (their statements: YtdgkjmcggiihgaaTotals.lean).
  GIVEN WITH THE SEED: the statements are not yours to turn. If you find one false, say at which input.
  Laid BY PROGRAM, IN A SANDBOX (cutbox-rows.mjs): the forced cells as the released guide's own fill.sh prints them over the translation fd4e1c2e545702bb… (all of the seat's roots in one cut). By AI agents, Wed Nov 11 2026. No macro, syntax, notation, axiom, sorry.
-/
import Derived.Test.YtdgkjmcggiihgaaChecked
import GoSem.Claim
import GoSem.ClaimJoined
import GoSem.ClaimMapViews
import Derived.JoinedTies
import Derived.KernelRfl
namespace Go.Proofs.Ytdgkjmcggiihgaa
/- THE CELL 'sum', in the pinned program and in every row, IS THE sha256 OF THE DUMP (.gsa) THAT YtdgkjmcggiihgaaProg.lean LOADS. Nothing in Lean hashes anything: it is a label: what it is worth is what the hold of that sum in a sandbox is worth. -/
noncomputable def Try.pinned : Pinned := { name := "ytdgkjmcggiihgaa", sum := "fd4e1c2e545702bbb3ef8588b881e46fb96675841653c71a8e6376f33c0abe74", checked := Try.checked }
namespace Rows
def none {H : Type} : Left H := { results := [], args := [] }

/-- 'mailboatlaw39.SenderStart': WHATEVER THE INPUT: true; the input reads as it did. -/
def senderStartSpec : ChangeSpec := { name := "senderStart", fn := fun _ => fun
  | [d1, d2, d3, d4, d5] => { results := [.lit (.bool true)], args := [d1, d2, d3, d4, d5] }
  | _ => none }
def senderStartRow : OpenClaim := { program := "ytdgkjmcggiihgaa", sum := "fd4e1c2e545702bbb3ef8588b881e46fb96675841653c71a8e6376f33c0abe74", func := "mailboat/mailboatlaw39.SenderStart", spec := "senderStart", inPlace := ["internal/abi.NoEscape", "internal/bytealg.MakeNoZero"], unfollowed := true, recurses := true, apart := false }
def SenderStartSaid : Prop := senderStartRow.holds Try.pinned (OpenSpec.ofChange senderStartSpec)

/-- ITS FALSE NEIGHBOUR: 'it returns false'. Refute it at one input. -/
def senderStartWrong : ChangeSpec := { name := "senderStart", fn := fun _ => fun
  | [d1, d2, d3, d4, d5] => { results := [.lit (.bool false)], args := [d1, d2, d3, d4, d5] }
  | _ => none }
def SenderStartWrongFalsely : Prop := senderStartRow.holds Try.pinned (OpenSpec.ofChange senderStartWrong)

/-- 'mailboatlaw39.SenderHear': WHATEVER THE INPUT: true; the input reads as it did. -/
def senderHearSpec : ChangeSpec := { name := "senderHear", fn := fun _ => fun
  | [d1, d2, d3] => { results := [.lit (.bool true)], args := [d1, d2, d3] }
  | _ => none }
def senderHearRow : OpenClaim := { program := "ytdgkjmcggiihgaa", sum := "fd4e1c2e545702bbb3ef8588b881e46fb96675841653c71a8e6376f33c0abe74", func := "mailboat/mailboatlaw39.SenderHear", spec := "senderHear", inPlace := ["internal/abi.NoEscape", "internal/bytealg.MakeNoZero"], unfollowed := true, recurses := true, apart := false }
def SenderHearSaid : Prop := senderHearRow.holds Try.pinned (OpenSpec.ofChange senderHearSpec)

/-- ITS FALSE NEIGHBOUR: 'it returns false'. Refute it at one input. -/
def senderHearWrong : ChangeSpec := { name := "senderHear", fn := fun _ => fun
  | [d1, d2, d3] => { results := [.lit (.bool false)], args := [d1, d2, d3] }
  | _ => none }
def SenderHearWrongFalsely : Prop := senderHearRow.holds Try.pinned (OpenSpec.ofChange senderHearWrong)

/-- 'mailboatlaw39.SenderReports': WHATEVER THE INPUT: true; the input reads as it did. -/
def senderReportsSpec : ChangeSpec := { name := "senderReports", fn := fun _ => fun
  | [d1, d2, d3] => { results := [.lit (.bool true)], args := [d1, d2, d3] }
  | _ => none }
def senderReportsRow : OpenClaim := { program := "ytdgkjmcggiihgaa", sum := "fd4e1c2e545702bbb3ef8588b881e46fb96675841653c71a8e6376f33c0abe74", func := "mailboat/mailboatlaw39.SenderReports", spec := "senderReports", inPlace := ["internal/abi.NoEscape", "internal/bytealg.MakeNoZero"], unfollowed := true, recurses := true, apart := false }
def SenderReportsSaid : Prop := senderReportsRow.holds Try.pinned (OpenSpec.ofChange senderReportsSpec)

/-- ITS FALSE NEIGHBOUR: 'it returns false'. Refute it at one input. -/
def senderReportsWrong : ChangeSpec := { name := "senderReports", fn := fun _ => fun
  | [d1, d2, d3] => { results := [.lit (.bool false)], args := [d1, d2, d3] }
  | _ => none }
def SenderReportsWrongFalsely : Prop := senderReportsRow.holds Try.pinned (OpenSpec.ofChange senderReportsWrong)

/-- 'mailboatlaw39.SenderBatches': WHATEVER THE INPUT: true; the input reads as it did. -/
def senderBatchesSpec : ChangeSpec := { name := "senderBatches", fn := fun _ => fun
  | [d1, d2, d3, d4, d5, d6] => { results := [.lit (.bool true)], args := [d1, d2, d3, d4, d5, d6] }
  | _ => none }
def senderBatchesRow : OpenClaim := { program := "ytdgkjmcggiihgaa", sum := "fd4e1c2e545702bbb3ef8588b881e46fb96675841653c71a8e6376f33c0abe74", func := "mailboat/mailboatlaw39.SenderBatches", spec := "senderBatches", inPlace := ["internal/abi.NoEscape", "internal/bytealg.MakeNoZero"], unfollowed := true, recurses := true, apart := false }
def SenderBatchesSaid : Prop := senderBatchesRow.holds Try.pinned (OpenSpec.ofChange senderBatchesSpec)

/-- ITS FALSE NEIGHBOUR: 'it returns false'. Refute it at one input. -/
def senderBatchesWrong : ChangeSpec := { name := "senderBatches", fn := fun _ => fun
  | [d1, d2, d3, d4, d5, d6] => { results := [.lit (.bool false)], args := [d1, d2, d3, d4, d5, d6] }
  | _ => none }
def SenderBatchesWrongFalsely : Prop := senderBatchesRow.holds Try.pinned (OpenSpec.ofChange senderBatchesWrong)

/-- 'mailboatlaw39.SenderWait': WHATEVER THE INPUT: true; the input reads as it did. -/
def senderWaitSpec : ChangeSpec := { name := "senderWait", fn := fun _ => fun
  | [d1, d2] => { results := [.lit (.bool true)], args := [d1, d2] }
  | _ => none }
def senderWaitRow : OpenClaim := { program := "ytdgkjmcggiihgaa", sum := "fd4e1c2e545702bbb3ef8588b881e46fb96675841653c71a8e6376f33c0abe74", func := "mailboat/mailboatlaw39.SenderWait", spec := "senderWait", inPlace := ["internal/abi.NoEscape", "internal/bytealg.MakeNoZero"], unfollowed := true, recurses := true, apart := false }
def SenderWaitSaid : Prop := senderWaitRow.holds Try.pinned (OpenSpec.ofChange senderWaitSpec)

/-- ITS FALSE NEIGHBOUR: 'it returns false'. Refute it at one input. -/
def senderWaitWrong : ChangeSpec := { name := "senderWait", fn := fun _ => fun
  | [d1, d2] => { results := [.lit (.bool false)], args := [d1, d2] }
  | _ => none }
def SenderWaitWrongFalsely : Prop := senderWaitRow.holds Try.pinned (OpenSpec.ofChange senderWaitWrong)

/-- 'mailboatlaw39.SenderTimer': WHATEVER THE INPUT: true; the input reads as it did. -/
def senderTimerSpec : ChangeSpec := { name := "senderTimer", fn := fun _ => fun
  | [d1, d2] => { results := [.lit (.bool true)], args := [d1, d2] }
  | _ => none }
def senderTimerRow : OpenClaim := { program := "ytdgkjmcggiihgaa", sum := "fd4e1c2e545702bbb3ef8588b881e46fb96675841653c71a8e6376f33c0abe74", func := "mailboat/mailboatlaw39.SenderTimer", spec := "senderTimer", inPlace := ["internal/abi.NoEscape", "internal/bytealg.MakeNoZero"], unfollowed := true, recurses := true, apart := false }
def SenderTimerSaid : Prop := senderTimerRow.holds Try.pinned (OpenSpec.ofChange senderTimerSpec)

/-- ITS FALSE NEIGHBOUR: 'it returns false'. Refute it at one input. -/
def senderTimerWrong : ChangeSpec := { name := "senderTimer", fn := fun _ => fun
  | [d1, d2] => { results := [.lit (.bool false)], args := [d1, d2] }
  | _ => none }
def SenderTimerWrongFalsely : Prop := senderTimerRow.holds Try.pinned (OpenSpec.ofChange senderTimerWrong)

/-- 'mailboatlaw39.SenderProgress': WHATEVER THE INPUT: true; the input reads as it did. -/
def senderProgressSpec : ChangeSpec := { name := "senderProgress", fn := fun _ => fun
  | [d1, d2, d3, d4] => { results := [.lit (.bool true)], args := [d1, d2, d3, d4] }
  | _ => none }
def senderProgressRow : OpenClaim := { program := "ytdgkjmcggiihgaa", sum := "fd4e1c2e545702bbb3ef8588b881e46fb96675841653c71a8e6376f33c0abe74", func := "mailboat/mailboatlaw39.SenderProgress", spec := "senderProgress", inPlace := ["internal/abi.NoEscape", "internal/bytealg.MakeNoZero"], unfollowed := true, recurses := true, apart := false }
def SenderProgressSaid : Prop := senderProgressRow.holds Try.pinned (OpenSpec.ofChange senderProgressSpec)

/-- ITS FALSE NEIGHBOUR: 'it returns false'. Refute it at one input. -/
def senderProgressWrong : ChangeSpec := { name := "senderProgress", fn := fun _ => fun
  | [d1, d2, d3, d4] => { results := [.lit (.bool false)], args := [d1, d2, d3, d4] }
  | _ => none }
def SenderProgressWrongFalsely : Prop := senderProgressRow.holds Try.pinned (OpenSpec.ofChange senderProgressWrong)

/- THE SECOND FORM. 'bulk': how many values and letters a reading holds, each counted each time it is reached (what is shared counts as often as it is met; a slice's spare places count too). A statement '..UptoSaid' is the law's where the arguments, and the package variables that the reading takes, are together of bulk at most 1048576: NARROWER than '..Said'. Prove '..Said' where nothing that the law and all that it calls make is longer than what came in: it says more and counts as full. Else prove '..UptoSaid'. A law counts once. -/
mutual
def uptoBulk {H : Type} : DataW H → Nat
  | .lit (.string bytes) => bytes.length + 1
  | .lit _ => 1
  | .nil => 1
  | .ptr d => uptoBulk d + 1
  | .slice elems spare => uptoBulkAll elems + uptoBulkAll spare + 1
  | .agg parts => uptoBulkAll parts + 1
  | .iface _ d => uptoBulk d + 1
  | .map entries => uptoBulkEntries entries + 1
  | .held _ => 1
def uptoBulkAll {H : Type} : List (DataW H) → Nat
  | [] => 0
  | d :: r => uptoBulk d + uptoBulkAll r
def uptoBulkEntries {H : Type} : List (Lit × DataW H) → Nat
  | [] => 0
  | x :: r => uptoBulkEntry x + uptoBulkEntries r
def uptoBulkEntry {H : Type} : Lit × DataW H → Nat
  | (.string bytes, d) => bytes.length + uptoBulk d + 1
  | (_, d) => uptoBulk d + 1
 end
def uptoSmall : (H : Type) → List (DataW H) → Bool := fun _ ds => decide (uptoBulkAll ds ≤ 1048576)
def OpenSpec.upto (s : _root_.Go.ChangeSpec) : _root_.Go.OpenSpec := { _root_.Go.OpenSpec.ofChange s with cond := some uptoSmall }

/-- 'mailboatlaw39.SenderStart', WHERE WHAT IT READS IS OF BULK AT MOST 1048576: true; the input reads as it did. -/
def senderStartUptoRow : OpenClaim := { program := "ytdgkjmcggiihgaa", sum := "fd4e1c2e545702bbb3ef8588b881e46fb96675841653c71a8e6376f33c0abe74", func := "mailboat/mailboatlaw39.SenderStart", spec := "senderStart", inPlace := ["internal/abi.NoEscape", "internal/bytealg.MakeNoZero"], unfollowed := true, recurses := true, apart := false, narrowed := true }
def SenderStartUptoSaid : Prop := senderStartUptoRow.holds Try.pinned (OpenSpec.upto senderStartSpec)

/-- 'mailboatlaw39.SenderHear', WHERE WHAT IT READS IS OF BULK AT MOST 1048576: true; the input reads as it did. -/
def senderHearUptoRow : OpenClaim := { program := "ytdgkjmcggiihgaa", sum := "fd4e1c2e545702bbb3ef8588b881e46fb96675841653c71a8e6376f33c0abe74", func := "mailboat/mailboatlaw39.SenderHear", spec := "senderHear", inPlace := ["internal/abi.NoEscape", "internal/bytealg.MakeNoZero"], unfollowed := true, recurses := true, apart := false, narrowed := true }
def SenderHearUptoSaid : Prop := senderHearUptoRow.holds Try.pinned (OpenSpec.upto senderHearSpec)

/-- 'mailboatlaw39.SenderReports', WHERE WHAT IT READS IS OF BULK AT MOST 1048576: true; the input reads as it did. -/
def senderReportsUptoRow : OpenClaim := { program := "ytdgkjmcggiihgaa", sum := "fd4e1c2e545702bbb3ef8588b881e46fb96675841653c71a8e6376f33c0abe74", func := "mailboat/mailboatlaw39.SenderReports", spec := "senderReports", inPlace := ["internal/abi.NoEscape", "internal/bytealg.MakeNoZero"], unfollowed := true, recurses := true, apart := false, narrowed := true }
def SenderReportsUptoSaid : Prop := senderReportsUptoRow.holds Try.pinned (OpenSpec.upto senderReportsSpec)

/-- 'mailboatlaw39.SenderBatches', WHERE WHAT IT READS IS OF BULK AT MOST 1048576: true; the input reads as it did. -/
def senderBatchesUptoRow : OpenClaim := { program := "ytdgkjmcggiihgaa", sum := "fd4e1c2e545702bbb3ef8588b881e46fb96675841653c71a8e6376f33c0abe74", func := "mailboat/mailboatlaw39.SenderBatches", spec := "senderBatches", inPlace := ["internal/abi.NoEscape", "internal/bytealg.MakeNoZero"], unfollowed := true, recurses := true, apart := false, narrowed := true }
def SenderBatchesUptoSaid : Prop := senderBatchesUptoRow.holds Try.pinned (OpenSpec.upto senderBatchesSpec)

/-- 'mailboatlaw39.SenderWait', WHERE WHAT IT READS IS OF BULK AT MOST 1048576: true; the input reads as it did. -/
def senderWaitUptoRow : OpenClaim := { program := "ytdgkjmcggiihgaa", sum := "fd4e1c2e545702bbb3ef8588b881e46fb96675841653c71a8e6376f33c0abe74", func := "mailboat/mailboatlaw39.SenderWait", spec := "senderWait", inPlace := ["internal/abi.NoEscape", "internal/bytealg.MakeNoZero"], unfollowed := true, recurses := true, apart := false, narrowed := true }
def SenderWaitUptoSaid : Prop := senderWaitUptoRow.holds Try.pinned (OpenSpec.upto senderWaitSpec)

/-- 'mailboatlaw39.SenderTimer', WHERE WHAT IT READS IS OF BULK AT MOST 1048576: true; the input reads as it did. -/
def senderTimerUptoRow : OpenClaim := { program := "ytdgkjmcggiihgaa", sum := "fd4e1c2e545702bbb3ef8588b881e46fb96675841653c71a8e6376f33c0abe74", func := "mailboat/mailboatlaw39.SenderTimer", spec := "senderTimer", inPlace := ["internal/abi.NoEscape", "internal/bytealg.MakeNoZero"], unfollowed := true, recurses := true, apart := false, narrowed := true }
def SenderTimerUptoSaid : Prop := senderTimerUptoRow.holds Try.pinned (OpenSpec.upto senderTimerSpec)

/-- 'mailboatlaw39.SenderProgress', WHERE WHAT IT READS IS OF BULK AT MOST 1048576: true; the input reads as it did. -/
def senderProgressUptoRow : OpenClaim := { program := "ytdgkjmcggiihgaa", sum := "fd4e1c2e545702bbb3ef8588b881e46fb96675841653c71a8e6376f33c0abe74", func := "mailboat/mailboatlaw39.SenderProgress", spec := "senderProgress", inPlace := ["internal/abi.NoEscape", "internal/bytealg.MakeNoZero"], unfollowed := true, recurses := true, apart := false, narrowed := true }
def SenderProgressUptoSaid : Prop := senderProgressUptoRow.holds Try.pinned (OpenSpec.upto senderProgressSpec)

end Rows
end Go.Proofs.Ytdgkjmcggiihgaa
