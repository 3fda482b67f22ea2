/-
  DERIVED. GIVEN WITH THE SEED: THE CARDS: each row of YtehmfejagbcnbaaGreatDoorRows.lean that lists a variable, with what it lists TIED to the program's text (the seventh form; the later family's looks); each row that meets fmt, with fmt's text TOLD by the authors' own Lean function (tested against real Go, not proved from fmt's source: count such statements apart). THE CARD IS WHAT COUNTS. Prove the row's statement (the work); the ties are given (YtehmfejagbcnbaaGreatDoorTie.lean); close each card by the builder's one call (the guide's Derived/Test/ToyasCard.lean, 'card_holds'). Laid BY PROGRAM, IN A SANDBOX (cutbox-door.mjs). By AI agents, Wed Nov 11 2026. No macro, syntax, notation, axiom, sorry.
-/
import Derived.Test.YtehmfejagbcnbaaGreatDoorRows
import GoSem.ClaimSeven
namespace Go.Proofs.YtehmfejagbcnbaaGreatDoor
namespace Rows

/-- THE TIED CARD OF 'mailboattop.TopDisjointTogether'. -/
def topDisjointTogetherCard : Claim7 := { stood := { row := topDisjointTogetherRow, standIns := [], harness := (true, "2916834e1a2b76e607b4aa2517232dcd63207949d8cdb404503ce30a5c00a212"), looks := false }, kinds := [], alts := [], laidByText := true, laidKinds := [.data, .pinned], laidTests := true, laidLooks := .later }
def TopDisjointTogetherCardSaid : Prop := Claim7.holds Tryz.pinned (.plain (OpenSpec.ofChange topDisjointTogetherSpec)) topDisjointTogetherCard

/-- THE TIED CARD OF 'mailboattop.TopLongerContacts'. -/
def topLongerContactsCard : Claim7 := { stood := { row := topLongerContactsRow, standIns := [], harness := (true, "2916834e1a2b76e607b4aa2517232dcd63207949d8cdb404503ce30a5c00a212"), looks := false }, kinds := [], alts := [], laidByText := true, laidKinds := [.data, .pinned], laidTests := true, laidLooks := .later }
def TopLongerContactsCardSaid : Prop := Claim7.holds Tryz.pinned (.plain (OpenSpec.ofChange topLongerContactsSpec)) topLongerContactsCard

/-- THE TIED CARD OF 'mailboattop.TopAlternatesLeast'. -/
def topAlternatesLeastCard : Claim7 := { stood := { row := topAlternatesLeastRow, standIns := [], harness := (true, "2916834e1a2b76e607b4aa2517232dcd63207949d8cdb404503ce30a5c00a212"), looks := false }, kinds := [], alts := [], laidByText := true, laidKinds := [.data, .pinned], laidTests := true, laidLooks := .later }
def TopAlternatesLeastCardSaid : Prop := Claim7.holds Tryz.pinned (.plain (OpenSpec.ofChange topAlternatesLeastSpec)) topAlternatesLeastCard

/-- THE SECOND FORM's CARD OF 'mailboattop.TopDisjointTogether'. -/
def topDisjointTogetherUptoCard : Claim7 := { stood := { row := topDisjointTogetherUptoRow, standIns := [], harness := (true, "2916834e1a2b76e607b4aa2517232dcd63207949d8cdb404503ce30a5c00a212"), looks := false }, kinds := [], alts := [], laidByText := true, laidKinds := [.data, .pinned], laidTests := true, laidLooks := .later }
def TopDisjointTogetherUptoCardSaid : Prop := Claim7.holds Tryz.pinned (.plain (OpenSpec.upto topDisjointTogetherSpec)) topDisjointTogetherUptoCard

/-- THE SECOND FORM's CARD OF 'mailboattop.TopLongerContacts'. -/
def topLongerContactsUptoCard : Claim7 := { stood := { row := topLongerContactsUptoRow, standIns := [], harness := (true, "2916834e1a2b76e607b4aa2517232dcd63207949d8cdb404503ce30a5c00a212"), looks := false }, kinds := [], alts := [], laidByText := true, laidKinds := [.data, .pinned], laidTests := true, laidLooks := .later }
def TopLongerContactsUptoCardSaid : Prop := Claim7.holds Tryz.pinned (.plain (OpenSpec.upto topLongerContactsSpec)) topLongerContactsUptoCard

/-- THE SECOND FORM's CARD OF 'mailboattop.TopAlternatesLeast'. -/
def topAlternatesLeastUptoCard : Claim7 := { stood := { row := topAlternatesLeastUptoRow, standIns := [], harness := (true, "2916834e1a2b76e607b4aa2517232dcd63207949d8cdb404503ce30a5c00a212"), looks := false }, kinds := [], alts := [], laidByText := true, laidKinds := [.data, .pinned], laidTests := true, laidLooks := .later }
def TopAlternatesLeastUptoCardSaid : Prop := Claim7.holds Tryz.pinned (.plain (OpenSpec.upto topAlternatesLeastSpec)) topAlternatesLeastUptoCard
end Rows
end Go.Proofs.YtehmfejagbcnbaaGreatDoor
