/-
  DERIVED. GIVEN WITH THE SEED: THE CARDS: each row of YtbpgmjfpfgpkjaaGreatDoorRows.lean that lists a variable, with what it lists TIED to the program's text (the seventh form; the later family's looks); each row that meets fmt, with fmt's text TOLD by the authors' own Lean function (tested against real Go, not proved from fmt's source: count such statements apart). THE CARD IS WHAT COUNTS. Prove the row's statement (the work); the ties are given (YtbpgmjfpfgpkjaaGreatDoorTie.lean); close each card by the builder's one call (the guide's Derived/Test/ToyasCard.lean, 'card_holds'). Laid BY PROGRAM, IN A SANDBOX (cutbox-door.mjs). By AI agents, Wed Nov 11 2026. No macro, syntax, notation, axiom, sorry.
-/
import Derived.Test.YtbpgmjfpfgpkjaaGreatDoorRows
import GoSem.ClaimSeven
namespace Go.Proofs.YtbpgmjfpfgpkjaaGreatDoor
namespace Rows

/-- THE TIED CARD OF 'mailboattop.TopSessionBundle'. -/
def topSessionBundleCard : Claim7 := { stood := { row := topSessionBundleRow, standIns := [], harness := (true, "03080c0f496078c29f990a9253560f1729c59f54baf6ab829341bff20295e793"), looks := true }, kinds := [], alts := [], laidByText := true, laidKinds := [.data, .pinned], laidTests := true, laidLooks := .later }
def TopSessionBundleCardSaid : Prop := Claim7.holds Tryz.pinned (.plain (OpenSpec.ofChange topSessionBundleSpec)) topSessionBundleCard

/-- THE SECOND FORM's CARD OF 'mailboattop.TopSessionBundle'. -/
def topSessionBundleUptoCard : Claim7 := { stood := { row := topSessionBundleUptoRow, standIns := [], harness := (true, "03080c0f496078c29f990a9253560f1729c59f54baf6ab829341bff20295e793"), looks := true }, kinds := [], alts := [], laidByText := true, laidKinds := [.data, .pinned], laidTests := true, laidLooks := .later }
def TopSessionBundleUptoCardSaid : Prop := Claim7.holds Tryz.pinned (.plain (OpenSpec.upto topSessionBundleSpec)) topSessionBundleUptoCard
end Rows
end Go.Proofs.YtbpgmjfpfgpkjaaGreatDoor
