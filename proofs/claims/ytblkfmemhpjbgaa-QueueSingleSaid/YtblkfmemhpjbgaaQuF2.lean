/- Queue: Repeat. -/
import Derived.Test.YtblkfmemhpjbgaaQuY2
import Derived.Test.YtblkfmemhpjbgaaQuF
set_option linter.unusedVariables false
set_option linter.unusedSimpArgs false
namespace Ab
open Go
theorem mul1 : ∀ k : Fin 65, (IntKind.wrap IntKind.u64 ((IntKind.wrap IntKind.u64 ((IntKind.wrap IntKind.u64 ((shrK IntKind.u64 (1 : Int) (32:Int)) * (shrK IntKind.u64 ((k.val : Nat) : Int) (32:Int)))) + (shrK IntKind.u64 (IntKind.wrap IntKind.u64 ((IntKind.wrap IntKind.u64 ((shrK IntKind.u64 (1 : Int) (32:Int)) * (andK IntKind.u64 ((k.val : Nat) : Int) (4294967295:Int)))) + (shrK IntKind.u64 (IntKind.wrap IntKind.u64 ((andK IntKind.u64 (1 : Int) (4294967295:Int)) * (andK IntKind.u64 ((k.val : Nat) : Int) (4294967295:Int)))) (32:Int)))) (32:Int)))) + (shrK IntKind.u64 (IntKind.wrap IntKind.u64 ((andK IntKind.u64 (IntKind.wrap IntKind.u64 ((IntKind.wrap IntKind.u64 ((shrK IntKind.u64 (1 : Int) (32:Int)) * (andK IntKind.u64 ((k.val : Nat) : Int) (4294967295:Int)))) + (shrK IntKind.u64 (IntKind.wrap IntKind.u64 ((andK IntKind.u64 (1 : Int) (4294967295:Int)) * (andK IntKind.u64 ((k.val : Nat) : Int) (4294967295:Int)))) (32:Int)))) (4294967295:Int)) + (IntKind.wrap IntKind.u64 ((andK IntKind.u64 (1 : Int) (4294967295:Int)) * (shrK IntKind.u64 ((k.val : Nat) : Int) (32:Int)))))) (32:Int)))) = 0 ∧ IntKind.wrap .u64 ((1 : Int) * ((k.val : Nat) : Int)) = ((k.val : Nat) : Int) := by decide +kernel
theorem s69 (k : Nat) (hk : k ≤ 64) : Runs C 69 [.int .u64 1, .int .u64 k] [.int .u64 0, .int .u64 k] := by
  refine Runs.of (fun n => e69 n _ _) (Ev.of fun n => ?_)
  have := mul1 ⟨k, by omega⟩
  simp only at this
  rw [this.1, this.2]
theorem s59 (k : Nat) (hk : k ≤ 64) : Runs C 59 [.int .u64 1, .int .u64 k] [.int .u64 0, .int .u64 k] := by
  refine Runs.of (fun n => e59 n _ _) ?_
  refine (s69 k hk).mono fun n h => ?_
  simp only [h, vv, reduceCtorEq, Nat.reduceAdd, Nat.reduceEqDiff]
/-- Doubling fills a row with one element. -/
def dblStep (k : Nat) (j : Nat) : Rd Nat Unit := if j < k then .next (min (2 * j) k) else .done ()
theorem s1000037 (k : Nat) (hk : k ≤ 64) : Runs C 1000037 [.sl 1 [[tI (-1)]], tI k] [.sl 1 (List.replicate k [tI (-1)])] := by
  refine Runs.of (fun n => e1000037 n _ _) ?_
  have hw1 : IntKind.wrap .u64 (1 : Int) = 1 := by rw [wrapU64]; omega
  have hw2 : IntKind.wrap .u64 (k : Int) = (k : Int) := by rw [wrapU64]; omega
  have hw3 : w64 (k : Int) = (k : Int) := w64_id (by omega) (by omega)
  refine Ev.rw (T' := ?TT) (s59 k hk) (fun n h => ?g1) ?g2
  case g1 =>
    simp only [List.length_cons, List.length_nil, Nat.zero_add, (show ((1 : Nat) : Int) = 1 from rfl), hw1, hw2, h, vv, reduceCtorEq, Nat.reduceAdd, Nat.reduceEqDiff, (show ¬ (k : Int) < 0 by omega), (show ¬ (0 : Int) < 0 by omega), (show ¬ (9223372036854775807 : Int) < (k : Int) by omega), J1000037_2, hw3, (show (k : Int) ≤ 1073741824 by omega)]
    rfl
  case g2 =>
    refine while_overQ (fun (_ : Unit) => [Tree.sl 1 (List.replicate k [tI (-1)])]) (fun (j : Nat) => (([.t (tI j)], [.row false 0 1 (List.replicate j [tI (-1)] ++ List.replicate (k - j) [tI 0])]) : List AV × Heap)) (dblStep k) (fun j => j ≤ k ∧ (0 < j ∨ k = 0)) (fun j => k - j) (fun _ => ()) (min 1 k) ?_ ⟨by omega, by omega⟩ rfl
      (fun j hI => Ev.of fun n again => ?_) (fun j j' hI hs => ?_) (fun j hI => ?_)
    · by_cases h0 : k = 0
      · subst h0; simp [rowSet]
      · obtain ⟨m, rfl⟩ : ∃ m, k = m + 1 := ⟨k - 1, by omega⟩
        have : min 1 (m + 1) = 1 := by omega
        rw [this]
        simp [rowSet, List.replicate_succ]
    · obtain ⟨h1, h2⟩ := hI
      have hlen : (List.replicate j [tI (-1)] ++ List.replicate (k - j) [tI 0]).length = k := by simp; omega
      have htk : List.take j (List.replicate j [tI (-1)] ++ List.replicate (k - j) [tI 0]) = List.replicate j [tI (-1)] := by
        rw [List.take_append_of_le_length (by simp)]; simp
      unfold dblStep
      by_cases hj : j < k
      · rw [if_pos hj]
        have hrow : rowSet (List.replicate j [tI (-1)] ++ List.replicate (k - j) [tI 0]) j (List.take (k - j) (List.replicate j [tI (-1)])) = List.replicate (min (2 * j) k) [tI (-1)] ++ List.replicate (k - min (2 * j) k) [tI 0] := by
          unfold rowSet
          rw [htk, List.take_replicate, List.length_replicate, List.drop_append, List.drop_eq_nil_of_le (by simp), List.nil_append, List.length_replicate, List.drop_replicate, List.replicate_append_replicate]
          congr 2 <;> omega
        have hmin : w64 ((j : Int) + ((min j (k - j) : Nat) : Int)) = ((min (2 * j) k : Nat) : Int) := by rw [w64_id (by omega) (by omega)]; omega
        simp only [L1000037_1, vv, reduceCtorEq, Nat.reduceAdd, Nat.reduceEqDiff, hw3, (show (j : Int) < (k : Int) by omega), (show (j : Int) ≤ (k : Int) by omega), hlen, hj, (show 0 < k by omega), htk, List.length_replicate, hmin, hrow, Rd.go_next]
      · rw [if_neg hj]
        have : j = k := by omega
        subst this
        have htk2 : List.take j (List.replicate j [tI (-1)] ++ List.replicate (j - j) [tI 0]) = List.replicate j [tI (-1)] := htk
        simp only [L1000037_1, vv, reduceCtorEq, Nat.reduceAdd, Nat.reduceEqDiff, hw3, Int.lt_irrefl, htk2, Rd.go_done]
    · unfold dblStep at hs
      split at hs
      · simp only [Rd.next.injEq] at hs
        subst hs
        refine ⟨⟨by omega, by omega⟩, by omega⟩
      · cases hs
    · unfold dblStep
      split <;> rfl
end Ab
