/- The law SenderBatches returns true for every contact, data, times and claims; no condition. -/
import Derived.Test.YtdgkjmcggiihgaaSeW5
import Derived.Test.YtdgkjmcggiihgaaSeDec
import Derived.Test.YtdgkjmcggiihgaaRows
import Derived.WalkKit
import Derived.ProofKit
import Derived.OpenShut
import Derived.JoinedCond
set_option linter.unusedVariables false

namespace Go.Proofs.Ytdgkjmcggiihgaa.senderBatches
open Go Go.ChangeShapes Go.WideShapes Go.ChangeAt Go.RowKit Ab

set_option maxRecDepth 100000 in
theorem law (xs : List Tree) (h : TypedL (Typed Ab.C.P 4) [23, 9, 3, 3, 3, 25] xs) : ∃ n, apure Ab.C n 6 xs = some [.bool true] := by
  obtain ⟨_, t1, rfl, x1, g1⟩ := typedL_cons h
  obtain ⟨c, rfl, _⟩ := dec_con x1
  obtain ⟨_, t2, rfl, x2, g2⟩ := typedL_cons g1
  obtain ⟨dd, rfl, _⟩ := dec_str x2
  obtain ⟨_, t3, rfl, x3, g3⟩ := typedL_cons g2
  obtain ⟨bb, rfl, _⟩ := dec_int x3
  obtain ⟨_, t4, rfl, x4, g4⟩ := typedL_cons g3
  obtain ⟨ee, rfl, _⟩ := dec_int x4
  obtain ⟨_, t5, rfl, x5, g5⟩ := typedL_cons g4
  obtain ⟨af, rfl, _⟩ := dec_int x5
  obtain ⟨_, t6, rfl, x6, g6⟩ := typedL_cons g5
  obtain ⟨l, rfl, _⟩ := dec_spans x6
  obtain rfl := typedL_nil g6
  obtain ⟨N, hN⟩ := law6 c dd bb ee af l
  exact ⟨N, hN N (Nat.le_refl _)⟩

set_option maxRecDepth 100000 in
theorem lifted (os : Os) (started : os.Started) (H : Type) (enc : TypeId × Value → H) :
    ReturnsInHanded {} Try.checked os 6 .any (Rows.senderBatchesSpec.pre6 enc Try.prog Try.f6 Rows.senderBatchesRow.domain false) (Rows.senderBatchesSpec.post enc Try.prog Try.f6 false true false false) := by
  refine returnsInHanded_of_change (C := Try.checked) Ab.own started (by kernel_rfl) Try.func6
    (ChangeSpec.witness6 (enc := enc) (C := Try.checked) false ⟨#[], #[.agg #[.int .i64 0, .int .i64 0, .int .i64 0, .int .i64 0, .int .i64 0, .int .i64 0, .int .i64 0], .string (ByteArray.mk #[]), .int .i64 0, .int .i64 0, .int .i64 0, .slice none 0 0], []⟩ 8 (by kernel_rfl) (by kernel_rfl) (by kernel_rfl) (by kernel_rfl)) ?_
  intro W base args ds gs before hval hW _ _
  exact law_contract (C := Ab.C) Ab.mix Ab.extOk (d := 4) (bt := 4) (by decide) Try.func6 rfl (by kernel_rfl) (by kernel_rfl) (by kernel_rfl) (by kernel_rfl)
    (fun H ds hl => by
      match ds, hl with
      | [_, _, _, _, _, _], _ => exact ⟨rfl, rfl, rfl⟩)
    law W base args ds gs before hval hW

theorem over : Rows.senderBatchesRow.holds Try.pinned (OpenSpec.ofChange Rows.senderBatchesSpec) :=
  OpenClaim.holds_of_wide 6 Try.f6 rfl rfl rfl rfl rfl rfl rfl ⟨rfl, rfl, rfl, rfl, rfl⟩ rfl rfl rfl rfl rfl (by kernel_rfl) Try.func6 (by kernel_rfl)
    (of_decide_eq_true (by kernel_rfl)) (by unfold Func.isWrapper; first | (rw [if_pos (by decide +kernel)]; kernel_rfl) | (rw [if_neg (by decide +kernel)]; exact ⟨rfl, rfl⟩))
    (fun os started H enc _ => lifted os started H enc)

theorem proved : Rows.SenderBatchesSaid :=
  over
end Go.Proofs.Ytdgkjmcggiihgaa.senderBatches
#print axioms Go.Proofs.Ytdgkjmcggiihgaa.senderBatches.proved
