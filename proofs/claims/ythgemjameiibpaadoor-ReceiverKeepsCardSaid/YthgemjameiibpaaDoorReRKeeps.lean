/- The law ReceiverKeeps returns true for every receiver and segment; the two tables of unicode/utf8 that the row lists are laid; no other condition. -/
import Derived.Test.YthgemjameiibpaaDoorReL3
import Derived.Test.YthgemjameiibpaaDoorReDec
import Derived.Test.YthgemjameiibpaaDoorRows
import Derived.Test.YthgemjameiibpaaDoorCards
import Derived.Test.YthgemjameiibpaaDoorTie
import Derived.WalkKit
import Derived.ProofKit
import Derived.OpenShut
import Derived.LaidMore
import Derived.Lay
import Derived.SevenTiedAt
import Derived.Stop.Joined
import Derived.JoinedCond
set_option linter.unusedVariables false

namespace Go.Proofs.YthgemjameiibpaaDoor.receiverKeeps
open Go Go.ChangeShapes Go.WideShapes Go.ChangeAt Go.RowKit Ab

set_option maxRecDepth 100000 in
theorem law (xs : List Tree) (h : TypedL (Typed Ab.C.P 6) [24, 26] xs) : ∃ n, apure Ab.C n 6 xs = some [.bool true] := by
  obtain ⟨_, t1, rfl, x1, g1⟩ := typedL_cons h
  obtain ⟨r, rfl, _⟩ := dec_rcv x1
  obtain ⟨_, t2, rfl, x2, g2⟩ := typedL_cons g1
  obtain ⟨x, rfl, _⟩ := dec_seg x2
  obtain rfl := typedL_nil g2
  obtain ⟨N, hN⟩ := s6 r x
  exact ⟨N, hN N (Nat.le_refl _)⟩

set_option maxRecDepth 100000 in
theorem lifted (os : Os) (started : os.Started) (H : Type) (enc : TypeId × Value → H) :
    ReturnsInHanded {} Tryd.checked os 6 .any (fun w args => (Rows.receiverKeepsSpec.pre enc Tryd.prog Tryd.f6 Rows.receiverKeepsRow.domain false w args ∧ laidMetH Tryd.prog Rows.receiverKeepsRow.laid w) ∧ sizedMet enc Tryd.prog Tryd.f6 (OpenSpec.ofChange Rows.receiverKeepsSpec) false w args)
      (Rows.receiverKeepsSpec.post enc Tryd.prog Tryd.f6 false true false false) := by
  refine returnsInHanded_of_change_and (C := Tryd.checked) (X := fun w _ => laidMetH Tryd.prog Rows.receiverKeepsRow.laid w) (fun _ _ _ hh h => h.of_heap hh) Ab.own started (by kernel_rfl) Tryd.func6
    (ChangeSpec.witness_shaped (enc := enc) (C := Tryd.checked) (os := os) (X := fun w _ => laidMetH Tryd.prog Rows.receiverKeepsRow.laid w) false (World.laidAll Tryd.prog os Rows.receiverKeepsRow.laid) #[.agg #[.int .i64 0, .int .i64 0, .slice none 0 0, .string (ByteArray.mk #[])], .agg #[.int .i64 0, .int .i64 0, .int .i64 0, .int .i64 0, .int .i64 0, .bool false, .string (ByteArray.mk #[]), .slice none 0 0]] 8 (World.laidAll_os _ _ _)
      (World.shaped_of_ZipB (by kernel_rfl) (by kernel_rfl)) (by kernel_rfl) (by kernel_rfl) (by kernel_rfl)
      (by rw [MakeChecks.laidMetH_plain _ _ _ (by kernel_rfl)]; exact laidMet_laidAll _ (by kernel_rfl) (by kernel_rfl))) ?_
  intro W base args ds gs before hval hW hc _ hL _
  exact law_contract (C := Ab.C) Ab.mix Ab.extOk (d := 6) (bt := 4) (by decide) Tryd.func6 rfl (by kernel_rfl) (by kernel_rfl) (by kernel_rfl) (by kernel_rfl)
    (fun H ds hl => by
      match ds, hl with
      | [_, _], _ => exact ⟨rfl, rfl, rfl⟩)
    law W base args ds gs before hval hW

theorem over : Rows.receiverKeepsRow.holds Tryd.pinned (OpenSpec.ofChange Rows.receiverKeepsSpec) :=
  OpenClaim.holds_of_wide 6 Tryd.f6 rfl rfl rfl rfl rfl rfl rfl ⟨rfl, rfl, rfl, rfl, rfl⟩ rfl rfl rfl rfl rfl (by kernel_rfl) Tryd.func6 (by kernel_rfl)
    (of_decide_eq_true (by kernel_rfl)) (by unfold Func.isWrapper; first | (rw [if_pos (by decide +kernel)]; kernel_rfl) | (rw [if_neg (by decide +kernel)]; exact ⟨rfl, rfl⟩))
    (fun os started H enc _ => lifted os started H enc)

theorem proved : Rows.ReceiverKeepsCardSaid :=
  Claim7.holds_tied_plain_at .later [] [.data, .pinned] true (true, "d45102392c99e57fb0d0f490618ca3ef8e165ea8014083d5ab7d73196c669b33") false
    over (fun _ h => by cases h) (by kernel_rfl) (fun _ h => by cases h) receiverKeeps_row_tie rfl ⟨rfl, rfl⟩ (by kernel_rfl) rfl
    (fun f fn hf hfn => by
      obtain rfl : f = 6 := Option.some.inj ((show Tryd.prog.funcNamed Rows.receiverKeepsRow.func = some 6 by kernel_rfl).symm.trans hf) |>.symm
      obtain rfl : fn = Tryd.f6 := (Option.some.inj (Tryd.func6.symm.trans hfn)).symm
      exact ⟨by kernel_rfl, fun j t ht => by
        rw [Tryd.params6] at ht
        have h3 : t = 24 ∨ t = 26 := by
          rcases j with _ | _ | j
          all_goals first | (simp at ht; subst ht; decide) | (simp at ht)
        rcases h3 with rfl | rfl
        · exact (show Tryd.prog.wantsStandIn 24 = false by kernel_rfl)
        · exact (show Tryd.prog.wantsStandIn 26 = false by kernel_rfl)⟩)
    (by kernel_rfl)
end Go.Proofs.YthgemjameiibpaaDoor.receiverKeeps
#print axioms Go.Proofs.YthgemjameiibpaaDoor.receiverKeeps.proved
