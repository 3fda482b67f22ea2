/-
  DERIVED. GIVEN WITH THE SEED: THE CARDS: each row of YthgemjameiibpaaDoorRows.lean that lists a variable, with what it lists TIED to the program's text (the seventh form; the later family's looks); each row that meets fmt, with fmt's text TOLD by the authors' own Lean function (tested against real Go, not proved from fmt's source: count such statements apart). THE CARD IS WHAT COUNTS. Prove the row's statement (the work); the ties are given (YthgemjameiibpaaDoorTie.lean); close each card by the builder's one call (the guide's Derived/Test/ToyasCard.lean, 'card_holds'). Laid BY PROGRAM, IN A SANDBOX (cutbox-door.mjs). By AI agents, Wed Nov 11 2026. No macro, syntax, notation, axiom, sorry.
-/
import Derived.Test.YthgemjameiibpaaDoorRows
import GoSem.ClaimSeven
namespace Go.Proofs.YthgemjameiibpaaDoor
namespace Rows

/-- THE TIED CARD OF 'mailboatlaw40.ReceiverHear'. -/
def receiverHearCard : Claim7 := { stood := { row := receiverHearRow, standIns := [], harness := (true, "d45102392c99e57fb0d0f490618ca3ef8e165ea8014083d5ab7d73196c669b33"), looks := false }, kinds := [], alts := [], laidByText := true, laidKinds := [.data, .pinned], laidTests := true, laidLooks := .later }
def ReceiverHearCardSaid : Prop := Claim7.holds Tryd.pinned (.plain (OpenSpec.ofChange receiverHearSpec)) receiverHearCard

/-- THE TIED CARD OF 'mailboatlaw40.ReceiverData'. -/
def receiverDataCard : Claim7 := { stood := { row := receiverDataRow, standIns := [], harness := (true, "d45102392c99e57fb0d0f490618ca3ef8e165ea8014083d5ab7d73196c669b33"), looks := false }, kinds := [], alts := [], laidByText := true, laidKinds := [.data, .pinned], laidTests := true, laidLooks := .later }
def ReceiverDataCardSaid : Prop := Claim7.holds Tryd.pinned (.plain (OpenSpec.ofChange receiverDataSpec)) receiverDataCard

/-- THE TIED CARD OF 'mailboatlaw40.ReceiverKnown'. -/
def receiverKnownCard : Claim7 := { stood := { row := receiverKnownRow, standIns := [], harness := (true, "d45102392c99e57fb0d0f490618ca3ef8e165ea8014083d5ab7d73196c669b33"), looks := false }, kinds := [], alts := [], laidByText := true, laidKinds := [.data, .pinned], laidTests := true, laidLooks := .later }
def ReceiverKnownCardSaid : Prop := Claim7.holds Tryd.pinned (.plain (OpenSpec.ofChange receiverKnownSpec)) receiverKnownCard

/-- THE TIED CARD OF 'mailboatlaw40.ReceiverKeeps'. -/
def receiverKeepsCard : Claim7 := { stood := { row := receiverKeepsRow, standIns := [], harness := (true, "d45102392c99e57fb0d0f490618ca3ef8e165ea8014083d5ab7d73196c669b33"), looks := false }, kinds := [], alts := [], laidByText := true, laidKinds := [.data, .pinned], laidTests := true, laidLooks := .later }
def ReceiverKeepsCardSaid : Prop := Claim7.holds Tryd.pinned (.plain (OpenSpec.ofChange receiverKeepsSpec)) receiverKeepsCard

/-- THE TIED CARD OF 'mailboatlaw40.ReceiverOrder'. -/
def receiverOrderCard : Claim7 := { stood := { row := receiverOrderRow, standIns := [], harness := (true, "d45102392c99e57fb0d0f490618ca3ef8e165ea8014083d5ab7d73196c669b33"), looks := false }, kinds := [], alts := [], laidByText := true, laidKinds := [.data, .pinned], laidTests := true, laidLooks := .later }
def ReceiverOrderCardSaid : Prop := Claim7.holds Tryd.pinned (.plain (OpenSpec.ofChange receiverOrderSpec)) receiverOrderCard

/-- THE TIED CARD OF 'mailboatlaw40.ReceiverComplete'. -/
def receiverCompleteCard : Claim7 := { stood := { row := receiverCompleteRow, standIns := [], harness := (true, "d45102392c99e57fb0d0f490618ca3ef8e165ea8014083d5ab7d73196c669b33"), looks := false }, kinds := [], alts := [], laidByText := true, laidKinds := [.data, .pinned], laidTests := true, laidLooks := .later }
def ReceiverCompleteCardSaid : Prop := Claim7.holds Tryd.pinned (.plain (OpenSpec.ofChange receiverCompleteSpec)) receiverCompleteCard

/-- THE SECOND FORM's CARD OF 'mailboatlaw40.ReceiverHear'. -/
def receiverHearUptoCard : Claim7 := { stood := { row := receiverHearUptoRow, standIns := [], harness := (true, "d45102392c99e57fb0d0f490618ca3ef8e165ea8014083d5ab7d73196c669b33"), looks := false }, kinds := [], alts := [], laidByText := true, laidKinds := [.data, .pinned], laidTests := true, laidLooks := .later }
def ReceiverHearUptoCardSaid : Prop := Claim7.holds Tryd.pinned (.plain (OpenSpec.upto receiverHearSpec)) receiverHearUptoCard

/-- THE SECOND FORM's CARD OF 'mailboatlaw40.ReceiverData'. -/
def receiverDataUptoCard : Claim7 := { stood := { row := receiverDataUptoRow, standIns := [], harness := (true, "d45102392c99e57fb0d0f490618ca3ef8e165ea8014083d5ab7d73196c669b33"), looks := false }, kinds := [], alts := [], laidByText := true, laidKinds := [.data, .pinned], laidTests := true, laidLooks := .later }
def ReceiverDataUptoCardSaid : Prop := Claim7.holds Tryd.pinned (.plain (OpenSpec.upto receiverDataSpec)) receiverDataUptoCard

/-- THE SECOND FORM's CARD OF 'mailboatlaw40.ReceiverKnown'. -/
def receiverKnownUptoCard : Claim7 := { stood := { row := receiverKnownUptoRow, standIns := [], harness := (true, "d45102392c99e57fb0d0f490618ca3ef8e165ea8014083d5ab7d73196c669b33"), looks := false }, kinds := [], alts := [], laidByText := true, laidKinds := [.data, .pinned], laidTests := true, laidLooks := .later }
def ReceiverKnownUptoCardSaid : Prop := Claim7.holds Tryd.pinned (.plain (OpenSpec.upto receiverKnownSpec)) receiverKnownUptoCard

/-- THE SECOND FORM's CARD OF 'mailboatlaw40.ReceiverKeeps'. -/
def receiverKeepsUptoCard : Claim7 := { stood := { row := receiverKeepsUptoRow, standIns := [], harness := (true, "d45102392c99e57fb0d0f490618ca3ef8e165ea8014083d5ab7d73196c669b33"), looks := false }, kinds := [], alts := [], laidByText := true, laidKinds := [.data, .pinned], laidTests := true, laidLooks := .later }
def ReceiverKeepsUptoCardSaid : Prop := Claim7.holds Tryd.pinned (.plain (OpenSpec.upto receiverKeepsSpec)) receiverKeepsUptoCard

/-- THE SECOND FORM's CARD OF 'mailboatlaw40.ReceiverOrder'. -/
def receiverOrderUptoCard : Claim7 := { stood := { row := receiverOrderUptoRow, standIns := [], harness := (true, "d45102392c99e57fb0d0f490618ca3ef8e165ea8014083d5ab7d73196c669b33"), looks := false }, kinds := [], alts := [], laidByText := true, laidKinds := [.data, .pinned], laidTests := true, laidLooks := .later }
def ReceiverOrderUptoCardSaid : Prop := Claim7.holds Tryd.pinned (.plain (OpenSpec.upto receiverOrderSpec)) receiverOrderUptoCard

/-- THE SECOND FORM's CARD OF 'mailboatlaw40.ReceiverComplete'. -/
def receiverCompleteUptoCard : Claim7 := { stood := { row := receiverCompleteUptoRow, standIns := [], harness := (true, "d45102392c99e57fb0d0f490618ca3ef8e165ea8014083d5ab7d73196c669b33"), looks := false }, kinds := [], alts := [], laidByText := true, laidKinds := [.data, .pinned], laidTests := true, laidLooks := .later }
def ReceiverCompleteUptoCardSaid : Prop := Claim7.holds Tryd.pinned (.plain (OpenSpec.upto receiverCompleteSpec)) receiverCompleteUptoCard
end Rows
end Go.Proofs.YthgemjameiibpaaDoor
