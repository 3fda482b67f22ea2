/- The law QueueSingle returns true for every list of arrivals and every rate; no condition. -/
import Derived.Test.YtblkfmemhpjbgaaQuT
import Derived.Test.YtblkfmemhpjbgaaQuDec
import Derived.Test.YtblkfmemhpjbgaaRows
import Derived.WalkKit
import Derived.ProofKit
import Derived.OpenShut
import Derived.JoinedCond
set_option linter.unusedVariables false

namespace Go.Proofs.Ytblkfmemhpjbgaa.queueSingle
open Go Go.ChangeShapes Go.WideShapes Go.ChangeAt Go.RowKit Ab

set_option maxRecDepth 100000 in
theorem law (xs : List Tree) (h : TypedL (Typed Ab.C.P 4) [22, 3] xs) : ∃ n, apure Ab.C n 5 xs = some [.bool true] := by
  obtain ⟨_, t1, rfl, x1, g1⟩ := typedL_cons h
  obtain ⟨l, rfl, hl⟩ := dec_arrs x1
  obtain ⟨_, t2, rfl, x2, g2⟩ := typedL_cons g1
  obtain ⟨rate, rfl, hrate⟩ := dec_int x2
  obtain rfl := typedL_nil g2
  obtain ⟨N, hN⟩ := law5 l rate
  exact ⟨N, hN N (Nat.le_refl _)⟩

set_option maxRecDepth 100000 in
theorem lifted (os : Os) (started : os.Started) (H : Type) (enc : TypeId × Value → H) :
    ReturnsInHanded {} Try.checked os 5 .any (Rows.queueSingleSpec.pre6 enc Try.prog Try.f5 Rows.queueSingleRow.domain false) (Rows.queueSingleSpec.post enc Try.prog Try.f5 false true false false) := by
  refine returnsInHanded_of_change (C := Try.checked) Ab.own started (by kernel_rfl) Try.func5
    (ChangeSpec.witness6 (enc := enc) (C := Try.checked) false ⟨#[], #[.slice none 0 0, .int .i64 0], []⟩ 8 (by kernel_rfl) (by kernel_rfl) (by kernel_rfl) (by kernel_rfl)) ?_
  intro W base args ds gs before hval hW _ _
  exact law_contract (C := Ab.C) Ab.mix Ab.extOk (d := 4) (bt := 4) (by decide) Try.func5 rfl (by kernel_rfl) (by kernel_rfl) (by kernel_rfl) (by kernel_rfl)
    (fun H ds hl => by
      match ds, hl with
      | [_, _], _ => exact ⟨rfl, rfl, rfl⟩)
    law W base args ds gs before hval hW

theorem over : Rows.queueSingleRow.holds Try.pinned (OpenSpec.ofChange Rows.queueSingleSpec) :=
  OpenClaim.holds_of_wide 5 Try.f5 rfl rfl rfl rfl rfl rfl rfl ⟨rfl, rfl, rfl, rfl, rfl⟩ rfl rfl rfl rfl rfl (by kernel_rfl) Try.func5 (by kernel_rfl)
    (of_decide_eq_true (by kernel_rfl)) (by unfold Func.isWrapper; first | (rw [if_pos (by decide +kernel)]; kernel_rfl) | (rw [if_neg (by decide +kernel)]; exact ⟨rfl, rfl⟩))
    (fun os started H enc _ => lifted os started H enc)

theorem proved : Rows.QueueSingleSaid :=
  over
end Go.Proofs.Ytblkfmemhpjbgaa.queueSingle
#print axioms Go.Proofs.Ytblkfmemhpjbgaa.queueSingle.proved
