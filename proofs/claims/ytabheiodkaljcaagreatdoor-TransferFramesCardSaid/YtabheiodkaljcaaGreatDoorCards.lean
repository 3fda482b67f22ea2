/-
  DERIVED. GIVEN WITH THE SEED: THE CARDS: each row of YtabheiodkaljcaaGreatDoorRows.lean that lists a variable, with what it lists TIED to the program's text (the seventh form; the later family's looks); each row that meets fmt, with fmt's text TOLD by the authors' own Lean function (tested against real Go, not proved from fmt's source: count such statements apart). THE CARD IS WHAT COUNTS. Prove the row's statement (the work); the ties are given (YtabheiodkaljcaaGreatDoorTie.lean); close each card by the builder's one call (the guide's Derived/Test/ToyasCard.lean, 'card_holds'). Laid BY PROGRAM, IN A SANDBOX (cutbox-door.mjs). By AI agents, Wed Nov 11 2026. No macro, syntax, notation, axiom, sorry.
-/
import Derived.Test.YtabheiodkaljcaaGreatDoorRows
import GoSem.ClaimSeven
namespace Go.Proofs.YtabheiodkaljcaaGreatDoor
namespace Rows

/-- THE TIED CARD OF 'mailboatlaw41.TransferRun'. -/
def transferRunCard : Claim7 := { stood := { row := transferRunRow, standIns := [], harness := (true, "2db058c7e406ff112f79e1d1768fa0ed70cc80b5a5d6ea23dec8bd1b624e12ad"), looks := false }, kinds := [], alts := [], laidByText := true, laidKinds := [.data, .pinned], laidTests := true, laidLooks := .later }
def TransferRunCardSaid : Prop := Claim7.holds Tryz.pinned (.plain (OpenSpec.ofChange transferRunSpec)) transferRunCard

/-- THE TIED CARD OF 'mailboatlaw41.TransferKnown'. -/
def transferKnownCard : Claim7 := { stood := { row := transferKnownRow, standIns := [], harness := (true, "2db058c7e406ff112f79e1d1768fa0ed70cc80b5a5d6ea23dec8bd1b624e12ad"), looks := false }, kinds := [], alts := [], laidByText := true, laidKinds := [.data, .pinned], laidTests := true, laidLooks := .later }
def TransferKnownCardSaid : Prop := Claim7.holds Tryz.pinned (.plain (OpenSpec.ofChange transferKnownSpec)) transferKnownCard

/-- THE TIED CARD OF 'mailboatlaw41.TransferLater'. -/
def transferLaterCard : Claim7 := { stood := { row := transferLaterRow, standIns := [], harness := (true, "2db058c7e406ff112f79e1d1768fa0ed70cc80b5a5d6ea23dec8bd1b624e12ad"), looks := false }, kinds := [], alts := [], laidByText := true, laidKinds := [.data, .pinned], laidTests := true, laidLooks := .later }
def TransferLaterCardSaid : Prop := Claim7.holds Tryz.pinned (.plain (OpenSpec.ofChange transferLaterSpec)) transferLaterCard

/-- THE TIED CARD OF 'mailboatlaw41.TransferInterval'. -/
def transferIntervalCard : Claim7 := { stood := { row := transferIntervalRow, standIns := [], harness := (true, "2db058c7e406ff112f79e1d1768fa0ed70cc80b5a5d6ea23dec8bd1b624e12ad"), looks := false }, kinds := [], alts := [], laidByText := true, laidKinds := [.data, .pinned], laidTests := true, laidLooks := .later }
def TransferIntervalCardSaid : Prop := Claim7.holds Tryz.pinned (.plain (OpenSpec.ofChange transferIntervalSpec)) transferIntervalCard

/-- THE TIED CARD OF 'mailboatlaw41.TransferData'. -/
def transferDataCard : Claim7 := { stood := { row := transferDataRow, standIns := [], harness := (true, "2db058c7e406ff112f79e1d1768fa0ed70cc80b5a5d6ea23dec8bd1b624e12ad"), looks := false }, kinds := [], alts := [], laidByText := true, laidKinds := [.data, .pinned], laidTests := true, laidLooks := .later }
def TransferDataCardSaid : Prop := Claim7.holds Tryz.pinned (.plain (OpenSpec.ofChange transferDataSpec)) transferDataCard

/-- THE TIED CARD OF 'mailboatlaw41.TransferQuiet'. -/
def transferQuietCard : Claim7 := { stood := { row := transferQuietRow, standIns := [], harness := (true, "2db058c7e406ff112f79e1d1768fa0ed70cc80b5a5d6ea23dec8bd1b624e12ad"), looks := false }, kinds := [], alts := [], laidByText := true, laidKinds := [.data, .pinned], laidTests := true, laidLooks := .later }
def TransferQuietCardSaid : Prop := Claim7.holds Tryz.pinned (.plain (OpenSpec.ofChange transferQuietSpec)) transferQuietCard

/-- THE TIED CARD OF 'mailboatlaw41.TransferFrames'. -/
def transferFramesCard : Claim7 := { stood := { row := transferFramesRow, standIns := [], harness := (true, "2db058c7e406ff112f79e1d1768fa0ed70cc80b5a5d6ea23dec8bd1b624e12ad"), looks := false }, kinds := [], alts := [], laidByText := true, laidKinds := [.data, .pinned], laidTests := true, laidLooks := .later }
def TransferFramesCardSaid : Prop := Claim7.holds Tryz.pinned (.plain (OpenSpec.ofChange transferFramesSpec)) transferFramesCard

/-- THE TIED CARD OF 'mailboatlaw41.TransferBound'. -/
def transferBoundCard : Claim7 := { stood := { row := transferBoundRow, standIns := [], harness := (true, "2db058c7e406ff112f79e1d1768fa0ed70cc80b5a5d6ea23dec8bd1b624e12ad"), looks := false }, kinds := [], alts := [], laidByText := true, laidKinds := [.data, .pinned], laidTests := true, laidLooks := .later }
def TransferBoundCardSaid : Prop := Claim7.holds Tryz.pinned (.plain (OpenSpec.ofChange transferBoundSpec)) transferBoundCard

/-- THE SECOND FORM's CARD OF 'mailboatlaw41.TransferRun'. -/
def transferRunUptoCard : Claim7 := { stood := { row := transferRunUptoRow, standIns := [], harness := (true, "2db058c7e406ff112f79e1d1768fa0ed70cc80b5a5d6ea23dec8bd1b624e12ad"), looks := false }, kinds := [], alts := [], laidByText := true, laidKinds := [.data, .pinned], laidTests := true, laidLooks := .later }
def TransferRunUptoCardSaid : Prop := Claim7.holds Tryz.pinned (.plain (OpenSpec.upto transferRunSpec)) transferRunUptoCard

/-- THE SECOND FORM's CARD OF 'mailboatlaw41.TransferKnown'. -/
def transferKnownUptoCard : Claim7 := { stood := { row := transferKnownUptoRow, standIns := [], harness := (true, "2db058c7e406ff112f79e1d1768fa0ed70cc80b5a5d6ea23dec8bd1b624e12ad"), looks := false }, kinds := [], alts := [], laidByText := true, laidKinds := [.data, .pinned], laidTests := true, laidLooks := .later }
def TransferKnownUptoCardSaid : Prop := Claim7.holds Tryz.pinned (.plain (OpenSpec.upto transferKnownSpec)) transferKnownUptoCard

/-- THE SECOND FORM's CARD OF 'mailboatlaw41.TransferLater'. -/
def transferLaterUptoCard : Claim7 := { stood := { row := transferLaterUptoRow, standIns := [], harness := (true, "2db058c7e406ff112f79e1d1768fa0ed70cc80b5a5d6ea23dec8bd1b624e12ad"), looks := false }, kinds := [], alts := [], laidByText := true, laidKinds := [.data, .pinned], laidTests := true, laidLooks := .later }
def TransferLaterUptoCardSaid : Prop := Claim7.holds Tryz.pinned (.plain (OpenSpec.upto transferLaterSpec)) transferLaterUptoCard

/-- THE SECOND FORM's CARD OF 'mailboatlaw41.TransferInterval'. -/
def transferIntervalUptoCard : Claim7 := { stood := { row := transferIntervalUptoRow, standIns := [], harness := (true, "2db058c7e406ff112f79e1d1768fa0ed70cc80b5a5d6ea23dec8bd1b624e12ad"), looks := false }, kinds := [], alts := [], laidByText := true, laidKinds := [.data, .pinned], laidTests := true, laidLooks := .later }
def TransferIntervalUptoCardSaid : Prop := Claim7.holds Tryz.pinned (.plain (OpenSpec.upto transferIntervalSpec)) transferIntervalUptoCard

/-- THE SECOND FORM's CARD OF 'mailboatlaw41.TransferData'. -/
def transferDataUptoCard : Claim7 := { stood := { row := transferDataUptoRow, standIns := [], harness := (true, "2db058c7e406ff112f79e1d1768fa0ed70cc80b5a5d6ea23dec8bd1b624e12ad"), looks := false }, kinds := [], alts := [], laidByText := true, laidKinds := [.data, .pinned], laidTests := true, laidLooks := .later }
def TransferDataUptoCardSaid : Prop := Claim7.holds Tryz.pinned (.plain (OpenSpec.upto transferDataSpec)) transferDataUptoCard

/-- THE SECOND FORM's CARD OF 'mailboatlaw41.TransferQuiet'. -/
def transferQuietUptoCard : Claim7 := { stood := { row := transferQuietUptoRow, standIns := [], harness := (true, "2db058c7e406ff112f79e1d1768fa0ed70cc80b5a5d6ea23dec8bd1b624e12ad"), looks := false }, kinds := [], alts := [], laidByText := true, laidKinds := [.data, .pinned], laidTests := true, laidLooks := .later }
def TransferQuietUptoCardSaid : Prop := Claim7.holds Tryz.pinned (.plain (OpenSpec.upto transferQuietSpec)) transferQuietUptoCard

/-- THE SECOND FORM's CARD OF 'mailboatlaw41.TransferFrames'. -/
def transferFramesUptoCard : Claim7 := { stood := { row := transferFramesUptoRow, standIns := [], harness := (true, "2db058c7e406ff112f79e1d1768fa0ed70cc80b5a5d6ea23dec8bd1b624e12ad"), looks := false }, kinds := [], alts := [], laidByText := true, laidKinds := [.data, .pinned], laidTests := true, laidLooks := .later }
def TransferFramesUptoCardSaid : Prop := Claim7.holds Tryz.pinned (.plain (OpenSpec.upto transferFramesSpec)) transferFramesUptoCard

/-- THE SECOND FORM's CARD OF 'mailboatlaw41.TransferBound'. -/
def transferBoundUptoCard : Claim7 := { stood := { row := transferBoundUptoRow, standIns := [], harness := (true, "2db058c7e406ff112f79e1d1768fa0ed70cc80b5a5d6ea23dec8bd1b624e12ad"), looks := false }, kinds := [], alts := [], laidByText := true, laidKinds := [.data, .pinned], laidTests := true, laidLooks := .later }
def TransferBoundUptoCardSaid : Prop := Claim7.holds Tryz.pinned (.plain (OpenSpec.upto transferBoundSpec)) transferBoundUptoCard
end Rows
end Go.Proofs.YtabheiodkaljcaaGreatDoor
