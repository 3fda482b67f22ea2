/- The law ReceiverKnown returns true for every data and picks; the two tables of unicode/utf8 that the row lists are laid; no other condition. -/
import Derived.Test.YthgemjameiibpaaDoorReL8
import Derived.Test.YthgemjameiibpaaDoorReDec
import Derived.Test.YthgemjameiibpaaDoorRows
import Derived.Test.YthgemjameiibpaaDoorCards
import Derived.Test.YthgemjameiibpaaDoorTie
import Derived.WalkKit
import Derived.ProofKit
import Derived.OpenShut
import Derived.LaidMore
import Derived.Lay
import Derived.SevenTiedAt
import Derived.Stop.Joined
import Derived.JoinedCond
set_option linter.unusedVariables false

namespace Go.Proofs.YthgemjameiibpaaDoor.receiverKnown
open Go Go.ChangeShapes Go.WideShapes Go.ChangeAt Go.RowKit Ab

set_option maxRecDepth 100000 in
theorem law (xs : List Tree) (h : TypedL (Typed Ab.C.P 6) [9, 42] xs) : ∃ n, apure Ab.C n 5 xs = some [.bool true] := by
  obtain ⟨_, t1, rfl, x1, g1⟩ := typedL_cons h
  obtain ⟨dd, rfl, _⟩ := dec_str x1
  obtain ⟨_, t2, rfl, x2, g2⟩ := typedL_cons g1
  obtain ⟨p, rfl, hp⟩ := dec_u16s x2
  obtain rfl := typedL_nil g2
  obtain ⟨N, hN⟩ := s5 dd p hp
  exact ⟨N, hN N (Nat.le_refl _)⟩

set_option maxRecDepth 100000 in
theorem lifted (os : Os) (started : os.Started) (H : Type) (enc : TypeId × Value → H) :
    ReturnsInHanded {} Tryd.checked os 5 .any (fun w args => (Rows.receiverKnownSpec.pre enc Tryd.prog Tryd.f5 Rows.receiverKnownRow.domain false w args ∧ laidMetH Tryd.prog Rows.receiverKnownRow.laid w) ∧ sizedMet enc Tryd.prog Tryd.f5 (OpenSpec.ofChange Rows.receiverKnownSpec) false w args)
      (Rows.receiverKnownSpec.post enc Tryd.prog Tryd.f5 false true false false) := by
  refine returnsInHanded_of_change_and (C := Tryd.checked) (X := fun w _ => laidMetH Tryd.prog Rows.receiverKnownRow.laid w) (fun _ _ _ hh h => h.of_heap hh) Ab.own started (by kernel_rfl) Tryd.func5
    (ChangeSpec.witness_shaped (enc := enc) (C := Tryd.checked) (os := os) (X := fun w _ => laidMetH Tryd.prog Rows.receiverKnownRow.laid w) false (World.laidAll Tryd.prog os Rows.receiverKnownRow.laid) #[.string (ByteArray.mk #[]), .slice none 0 0] 8 (World.laidAll_os _ _ _)
      (World.shaped_of_ZipB (by kernel_rfl) (by kernel_rfl)) (by kernel_rfl) (by kernel_rfl) (by kernel_rfl)
      (by rw [MakeChecks.laidMetH_plain _ _ _ (by kernel_rfl)]; exact laidMet_laidAll _ (by kernel_rfl) (by kernel_rfl))) ?_
  intro W base args ds gs before hval hW hc _ hL _
  exact law_contract (C := Ab.C) Ab.mix Ab.extOk (d := 6) (bt := 4) (by decide) Tryd.func5 rfl (by kernel_rfl) (by kernel_rfl) (by kernel_rfl) (by kernel_rfl)
    (fun H ds hl => by
      match ds, hl with
      | [_, _], _ => exact ⟨rfl, rfl, rfl⟩)
    law W base args ds gs before hval hW

theorem over : Rows.receiverKnownRow.holds Tryd.pinned (OpenSpec.ofChange Rows.receiverKnownSpec) :=
  OpenClaim.holds_of_wide 5 Tryd.f5 rfl rfl rfl rfl rfl rfl rfl ⟨rfl, rfl, rfl, rfl, rfl⟩ rfl rfl rfl rfl rfl (by kernel_rfl) Tryd.func5 (by kernel_rfl)
    (of_decide_eq_true (by kernel_rfl)) (by unfold Func.isWrapper; first | (rw [if_pos (by decide +kernel)]; kernel_rfl) | (rw [if_neg (by decide +kernel)]; exact ⟨rfl, rfl⟩))
    (fun os started H enc _ => lifted os started H enc)

theorem proved : Rows.ReceiverKnownCardSaid :=
  Claim7.holds_tied_plain_at .later [] [.data, .pinned] true (true, "d45102392c99e57fb0d0f490618ca3ef8e165ea8014083d5ab7d73196c669b33") false
    over (fun _ h => by cases h) (by kernel_rfl) (fun _ h => by cases h) receiverKnown_row_tie rfl ⟨rfl, rfl⟩ (by kernel_rfl) rfl
    (fun f fn hf hfn => by
      obtain rfl : f = 5 := Option.some.inj ((show Tryd.prog.funcNamed Rows.receiverKnownRow.func = some 5 by kernel_rfl).symm.trans hf) |>.symm
      obtain rfl : fn = Tryd.f5 := (Option.some.inj (Tryd.func5.symm.trans hfn)).symm
      exact ⟨by kernel_rfl, fun j t ht => by
        rw [Tryd.params5] at ht
        have h3 : t = 9 ∨ t = 42 := by
          rcases j with _ | _ | j
          all_goals first | (simp at ht; subst ht; decide) | (simp at ht)
        rcases h3 with rfl | rfl
        · exact (show Tryd.prog.wantsStandIn 9 = false by kernel_rfl)
        · exact (show Tryd.prog.wantsStandIn 42 = false by kernel_rfl)⟩)
    (by kernel_rfl)
end Go.Proofs.YthgemjameiibpaaDoor.receiverKnown
#print axioms Go.Proofs.YthgemjameiibpaaDoor.receiverKnown.proved
