/- Typed arguments, read. -/
import Derived.Test.YthgemjameiibpaaDoorAbT
set_option linter.unusedVariables false
namespace Ab
open Go
variable {P : Program}

theorem typed_int {d : Nat} {t : TypeId} {k : IntKind} (hu : P.underlying t = some (.int k)) {ts : List Tree} (h : Typed P d t ts) : ∃ n, ts = [.int k n] ∧ (Lit.int k n).wf = true := by
  cases d with
  | zero => cases h
  | succ d => unfold Typed at h; rw [hu] at h; exact h
theorem typed_bool {d : Nat} {t : TypeId} (hu : P.underlying t = some .bool) {ts : List Tree} (h : Typed P d t ts) : ∃ b, ts = [.bool b] := by
  cases d with
  | zero => cases h
  | succ d => unfold Typed at h; rw [hu] at h; exact h
theorem typed_str {d : Nat} {t : TypeId} (hu : P.underlying t = some .string) {ts : List Tree} (h : Typed P d t ts) : ∃ s : ByteArray, ts = [.str s] ∧ s.size ≤ maxLen := by
  cases d with
  | zero => cases h
  | succ d => unfold Typed at h; rw [hu] at h; exact h
theorem typed_slice {d : Nat} {t e : TypeId} (hu : P.underlying t = some (.slice e)) {ts : List Tree} (h : Typed P (d + 1) t ts) : ∃ es, ts = [.sl (P.cellsOf e) es] ∧ es.length ≤ maxLen ∧ ∀ x ∈ es, Typed P d e x := by
  unfold Typed at h; rw [hu] at h; exact h
theorem typed_struct {d : Nat} {t : TypeId} {fs : Array Field} (hu : P.underlying t = some (.struct fs)) {ts : List Tree} (h : Typed P (d + 1) t ts) : TypedL (Typed P d) (fs.toList.map (·.type)) ts := by
  unfold Typed at h; rw [hu] at h; exact h
/-- The types of a struct's fields. -/
def fieldTys (P : Program) (t : TypeId) : Option (List TypeId) :=
  match P.underlying t with
  | some (.struct fs) => some (fs.toList.map (·.type))
  | _ => none
theorem typed_fields {d : Nat} {t : TypeId} (l : List TypeId) (hu : fieldTys P t = some l) {ts : List Tree} (h : Typed P (d + 1) t ts) : TypedL (Typed P d) l ts := by
  unfold fieldTys at hu
  split at hu
  · rename_i fs hf
    cases hu
    exact typed_struct hf h
  · cases hu
theorem typedL_cons {Ty : TypeId → List Tree → Prop} {t : TypeId} {l : List TypeId} {ts : List Tree} (h : TypedL Ty (t :: l) ts) : ∃ a b, ts = a ++ b ∧ Ty t a ∧ TypedL Ty l b := h
theorem typedL_nil {Ty : TypeId → List Tree → Prop} {ts : List Tree} (h : TypedL Ty [] ts) : ts = [] := h
theorem decode_list {α : Type} {enc : α → List Tree} : ∀ {es : List (List Tree)}, (∀ x ∈ es, ∃ a, x = enc a) → ∃ l : List α, es = l.map enc
  | [], _ => ⟨[], rfl⟩
  | x :: es, h => by
    obtain ⟨a, ha⟩ := h x (by simp)
    obtain ⟨l, hl⟩ := decode_list (es := es) fun y hy => h y (by simp [hy])
    exact ⟨a :: l, by simp [ha, hl]⟩
/-- The same, with what is known of each element. -/
theorem decode_listP {α : Type} {enc : α → List Tree} {p : α → Prop} : ∀ {es : List (List Tree)}, (∀ x ∈ es, ∃ a, x = enc a ∧ p a) → ∃ l : List α, es = l.map enc ∧ ∀ a ∈ l, p a
  | [], _ => ⟨[], rfl, by simp⟩
  | x :: es, h => by
    obtain ⟨a, ha, pa⟩ := h x (by simp)
    obtain ⟨l, hl, pl⟩ := decode_listP (es := es) fun y hy => h y (by simp [hy])
    refine ⟨a :: l, by simp [ha, hl], fun b hb => ?_⟩
    rcases List.mem_cons.1 hb with rfl | hb
    · exact pa
    · exact pl b hb
theorem wf64 {n : Int} (h : (Lit.int .i64 n).wf = true) : -9223372036854775808 ≤ n ∧ n ≤ 9223372036854775807 := by
  simpa [Lit.wf, IntKind.min, IntKind.max, IntKind.signed, IntKind.bits] using h
end Ab
