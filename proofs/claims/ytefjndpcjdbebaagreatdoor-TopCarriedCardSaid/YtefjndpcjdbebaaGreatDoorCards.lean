/-
  DERIVED. GIVEN WITH THE SEED: THE CARDS: each row of YtefjndpcjdbebaaGreatDoorRows.lean that lists a variable, with what it lists TIED to the program's text (the seventh form; the later family's looks); each row that meets fmt, with fmt's text TOLD by the authors' own Lean function (tested against real Go, not proved from fmt's source: count such statements apart). THE CARD IS WHAT COUNTS. Prove the row's statement (the work); the ties are given (YtefjndpcjdbebaaGreatDoorTie.lean); close each card by the builder's one call (the guide's Derived/Test/ToyasCard.lean, 'card_holds'). Laid BY PROGRAM, IN A SANDBOX (cutbox-door.mjs). By AI agents, Wed Nov 11 2026. No macro, syntax, notation, axiom, sorry.
-/
import Derived.Test.YtefjndpcjdbebaaGreatDoorRows
import GoSem.ClaimSeven
namespace Go.Proofs.YtefjndpcjdbebaaGreatDoor
namespace Rows

/-- THE TIED CARD OF 'mailboattop.TopCarried'. -/
def topCarriedCard : Claim7 := { stood := { row := topCarriedRow, standIns := [], harness := (true, "5d7cd6969ce2877985a1502782ecc26969eea2c3dc7f3e2d9115a9ebcc19cf23"), looks := false }, kinds := [], alts := [], laidByText := true, laidKinds := [.data, .pinned], laidTests := true, laidLooks := .later }
def TopCarriedCardSaid : Prop := Claim7.holds Tryz.pinned (.plain (OpenSpec.ofChange topCarriedSpec)) topCarriedCard

/-- THE SECOND FORM's CARD OF 'mailboattop.TopCarried'. -/
def topCarriedUptoCard : Claim7 := { stood := { row := topCarriedUptoRow, standIns := [], harness := (true, "5d7cd6969ce2877985a1502782ecc26969eea2c3dc7f3e2d9115a9ebcc19cf23"), looks := false }, kinds := [], alts := [], laidByText := true, laidKinds := [.data, .pinned], laidTests := true, laidLooks := .later }
def TopCarriedUptoCardSaid : Prop := Claim7.holds Tryz.pinned (.plain (OpenSpec.upto topCarriedSpec)) topCarriedUptoCard
end Rows
end Go.Proofs.YtefjndpcjdbebaaGreatDoor
