/- A part of the proof: see the last text. -/
import Derived.Test.YtlgphbnkicihgaaAbV
namespace Ab
open Go
def hk (l : List (Nat × List Nat)) (i : Nat) : List Nat := (l.lookup i).getD []
abbrev HTab := List (Nat × List (Nat × List Nat) × List (Nat × List Nat) × List (Nat × List Nat) × List (Nat × List Nat) × List (Nat × Nat) × List Nat × List Nat × List Nat)
def tabHints (tab : HTab) (f : Nat) : Hints :=
  match tab.lookup f with
  | some (a, b, c, d, r, t, i, j) => { loop := hk a, block := hk b, cond := hk c, reg := hk d, rowsz := fun x => (r.lookup x).getD 0, tree := t.contains, imm := i.contains, immT := j.contains }
  | none => { loop := fun _ => [], block := fun _ => [], cond := fun _ => [], reg := fun _ => [], rowsz := fun _ => 0, tree := fun _ => false, imm := fun _ => false, immT := fun _ => false }
end Ab
