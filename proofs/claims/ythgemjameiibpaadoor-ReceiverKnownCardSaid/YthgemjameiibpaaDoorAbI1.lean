/- slices.Insert at elements of any number of cells. -/
import Derived.Shelf.Bodies2
import Derived.Shelf.SlGeneric
import Derived.Shelf.RegionOpenPlain
import Derived.WalkKit
import Derived.Lib.Walk
import Derived.Lib.SliceRun
import Derived.Lib.JoinLaws
import Derived.Lib.AppendZerosOnto
import Derived.Laws.Externs
import Derived.Laws.IdiomCopy
import Derived.Laws.NewBlocks
import Derived.Shelf.Spec.SlicesGrow
set_option linter.unusedVariables false
set_option linter.unusedSimpArgs false
namespace Go.Proofs
open Go.Shelf Go.RowKit Go.Lib
variable {P : Program} {ρ : Ren}

/-- What an instance of slices.Insert asks of its program. -/
structure InsLay (P : Program) (ρ : Ren) (z : Nat) : Prop where
  mixed : P.follows .mixedOrders = true
  f22 : Bears P (ρ.f 22) (Body2.n22 ρ)
  f29 : ∃ fn, P.funcs[ρ.f 29]? = some fn ∧ (fn.name == "runtime.NumGoroutine") = false ∧ fn.body.isNone = true ∧ Extern.findNext fn = none ∧ Extern.find fn = some (Extern.SlicesOverlaps.overlaps #[ρ.t 24, ρ.t 24] #[ρ.t 4])
  t3 : P.underlying (ρ.t 3) = some (TypeDesc.int IntKind.i64)
  a3 : ∀ w, (isAgg (ρ.t 3)).run P w = .ok false w
  z3 : ∀ w, (Go.sizeOf (ρ.t 3)).run P w = .ok 1 w
  v3 : ∀ w, (zeroValue (ρ.t 3)).run P w = .ok (Value.int IntKind.i64 0) w
  t4 : P.underlying (ρ.t 4) = some (TypeDesc.bool)
  a4 : ∀ w, (isAgg (ρ.t 4)).run P w = .ok false w
  z4 : ∀ w, (Go.sizeOf (ρ.t 4)).run P w = .ok 1 w
  v4 : ∀ w, (zeroValue (ρ.t 4)).run P w = .ok (Value.bool false) w
  z9 : ∀ w, (Go.sizeOf (ρ.t 9)).run P w = .ok z w
  t24 : P.underlying (ρ.t 24) = some (TypeDesc.slice (ρ.t 9))
  a24 : ∀ w, (isAgg (ρ.t 24)).run P w = .ok false w
  z24 : ∀ w, (Go.sizeOf (ρ.t 24)).run P w = .ok 1 w
  v24 : ∀ w, (zeroValue (ρ.t 24)).run P w = .ok (Value.slice none 0 0) w
  i9 : ∃ (i : TypeInfo) (zv : Value), P.info? (ρ.t 9) = some i ∧ i.zero = some zv ∧ i.size = z ∧ zv.cells.size = z ∧ i.bytes ≤ 65536
  pos : 0 < z

/-- What an instance of slices.Grow asks of its program. -/
structure GrowLay (P : Program) (ρ : Ren) (z : Nat) : Prop where
  lay : Lays8.n4 P ρ
  i25 : ∃ (i : TypeInfo) (zv : Value), P.info? (ρ.t 25) = some i ∧ i.zero = some zv ∧ i.size = z ∧ zv.cells.size = z ∧ i.bytes ≤ 65536
  pos : 0 < z

theorem run_copy_cellsZ (w : World) (dT sT ty elem : TypeId) (z : Nat) (b o dLen dCap : Nat) (a : Addr) (sLen sCap k : Nat) (cs : List Value)
    (hu : P.underlying dT = some (.slice elem)) (hs : ∀ w, (Go.sizeOf elem).run P w = .ok z w) (hk : k = Nat.min sLen dLen) (hn : cs.length = k * z)
    (hsrc : ∀ j v, cs[j]? = some v → w.cell? (a.add j) = some v) (hc : ∀ j, j < cs.length → (w.cell? ⟨b, o + j, none⟩).isSome = true) (hf : ∀ j, j < cs.length → w.frozen? ⟨b, o + j, none⟩ = false) (h1 : ∀ v ∈ cs, v.oneCell' = true) :
    (Builtin.copy_ #[dT, sT] ty #[.slice (some ⟨b, o, none⟩) dLen dCap, .slice (some a) sLen sCap]).run P w = .ok (goInt k) (w.setCells b o cs) := by
  have hl := run_loadCells_list (P := P) w a cs hsrc
  have hst := run_storeCells_cells (P := P) b o cs 0 w (by simpa using hc) (by simpa using hf) h1
  rw [hn] at hl
  simp [Builtin.copy_, run_underlying hu, Builtin.lenOf, Builtin.firstCells, hs, ← hk, hl, hst]

theorem run_overlaps_own (w : World) (tS tR e : TypeId) (ht : P.underlying tS = some (.slice e)) (size : Nat) (hz : ∀ w, (Go.sizeOf e).run P w = .ok size w)
    (a b : Addr) (la ca lb cb : Nat) (hne : a.block ≠ b.block) (tA tB : TypeId) (kA kB : Nat)
    (hsa : w.shape? a.block = some (tA, kA)) (hsb : w.shape? b.block = some (tB, kB)) (hkA : kA ≠ 0)
    (hfb : w.frozen? b = false) (hfe : w.frozen? { block := b.block, off := kB } = false) :
    (Extern.SlicesOverlaps.overlaps #[tS, tS] #[tR] #[.slice (some a) la ca, .slice (some b) lb cb]).run P w = .ok (.bool false) w := by
  have hnb : (a.block != b.block) = true := by simpa using hne
  have hnb' : (a.block == b.block) = false := by simpa using hne
  change Sem.run P (underlying tS >>= _) w = _
  rw [Sem.run_bind, run_underlying ht, Result.andThen_ok]
  change Sem.run P (Go.sizeOf e >>= _) w = _
  rw [Sem.run_bind, hz, Result.andThen_ok]
  dsimp only
  by_cases h0 : la = 0 ∨ lb = 0 ∨ size = 0
  · simp [h0]
  · cases kA with
    | zero => exact absurd rfl hkA
    | succ kA =>
      cases hfa : w.frozen? a <;> cases hfa2 : w.frozen? { block := a.block, off := kA + 1 } <;>
        simp [h0, hnb, hnb', frozen, noView, viewAt, mayBeOne, stringish, shape, Sem.run, hsa, hsb, hfb, hfe, hfa, hfa2]

end Go.Proofs
