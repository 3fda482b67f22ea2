/- A part of the proof: see the last text. -/
import Derived.Test.YthgemjameiibpaaDoorAbV
namespace Ab
open Go
def hk (l : List (Nat × List Nat)) (i : Nat) : List Nat := (l.lookup i).getD []
def kinds : List IntKind := [.i8, .i16, .i32, .i64, .u8, .u16, .u32, .u64]
def tmOf : Option Nat → AV
  | none => .undef
  | some 0 => .t (.bool false)
  | some (n + 1) => if n < 8 then .t (.int (kinds.getD n .i64) 0) else if n = 19 then .t (.str ByteArray.empty) else if 99 ≤ n then .t (.sl (n - 99) []) else .undef
abbrev HTab := List (Nat × List (Nat × List Nat) × List (Nat × List Nat) × List (Nat × List Nat) × List (Nat × List Nat) × List (Nat × Nat) × List Nat × List Nat × List Nat × List Nat × List (Nat × Nat))
def tabHints (tab : HTab) (f : Nat) : Hints :=
  match tab.lookup f with
  | some (a, b, c, d, r, t, i, j, k, m) => { loop := hk a, block := hk b, cond := hk c, reg := hk d, rowsz := fun x => (r.lookup x).getD 0, tree := t.contains, imm := i.contains, immT := j.contains, nilT := k.contains, tm := fun x => tmOf (m.lookup x) }
  | none => { loop := fun _ => [], block := fun _ => [], cond := fun _ => [], reg := fun _ => [], rowsz := fun _ => 0, tree := fun _ => false, imm := fun _ => false, immT := fun _ => false, nilT := fun _ => false, tm := fun _ => .undef }
end Ab
