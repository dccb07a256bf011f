/-
  DERIVED. GIVEN WITH THE SEED: THE CARDS: each row of YthadicpjhmjkcaaDoorRows.lean that lists a variable, with what it lists TIED to the program's text (the seventh form; the later family's looks); each row that meets fmt, with fmt's text TOLD by the authors' own Lean function (tested against real Go, not proved from fmt's source: count such statements apart). THE CARD IS WHAT COUNTS. Prove the row's statement (the work); the ties are given (YthadicpjhmjkcaaDoorTie.lean); close each card by the builder's one call (the guide's Derived/Test/ToyasCard.lean, 'card_holds'). Laid BY PROGRAM, IN A SANDBOX (cutbox-door.mjs). By AI agents, Wed Nov 11 2026. No macro, syntax, notation, axiom, sorry.
-/
import Derived.Test.YthadicpjhmjkcaaDoorRows
import GoSem.ClaimSeven
namespace Go.Proofs.YthadicpjhmjkcaaDoor
namespace Rows

/-- THE TIED CARD OF 'truglaw01.CrcSums'. -/
def crcSumsCard : Claim7 := { stood := { row := crcSumsRow, standIns := [], harness := (true, "04750c20021f63e0bf1dd7265baba7e1902850d1a958cc97a4fe7804d3d7b0d1"), looks := false }, kinds := [], alts := [], laidByText := true, laidKinds := [.data], laidTests := true, laidLooks := .later }
def CrcSumsCardSaid : Prop := Claim7.holds Tryd.pinned (.plain (OpenSpec.ofChange crcSumsSpec)) crcSumsCard

/-- THE TIED CARD OF 'truglaw01.CrcPieces'. -/
def crcPiecesCard : Claim7 := { stood := { row := crcPiecesRow, standIns := [], harness := (true, "04750c20021f63e0bf1dd7265baba7e1902850d1a958cc97a4fe7804d3d7b0d1"), looks := false }, kinds := [], alts := [], laidByText := true, laidKinds := [.data], laidTests := true, laidLooks := .later }
def CrcPiecesCardSaid : Prop := Claim7.holds Tryd.pinned (.plain (OpenSpec.ofChange crcPiecesSpec)) crcPiecesCard

/-- THE TIED CARD OF 'truglaw01.CrcThree'. -/
def crcThreeCard : Claim7 := { stood := { row := crcThreeRow, standIns := [], harness := (true, "04750c20021f63e0bf1dd7265baba7e1902850d1a958cc97a4fe7804d3d7b0d1"), looks := false }, kinds := [], alts := [], laidByText := true, laidKinds := [.data], laidTests := true, laidLooks := .later }
def CrcThreeCardSaid : Prop := Claim7.holds Tryd.pinned (.plain (OpenSpec.ofChange crcThreeSpec)) crcThreeCard

/-- THE TIED CARD OF 'truglaw01.CrcTurned'. -/
def crcTurnedCard : Claim7 := { stood := { row := crcTurnedRow, standIns := [], harness := (true, "04750c20021f63e0bf1dd7265baba7e1902850d1a958cc97a4fe7804d3d7b0d1"), looks := false }, kinds := [], alts := [], laidByText := true, laidKinds := [.data], laidTests := true, laidLooks := .later }
def CrcTurnedCardSaid : Prop := Claim7.holds Tryd.pinned (.plain (OpenSpec.ofChange crcTurnedSpec)) crcTurnedCard

/-- THE TIED CARD OF 'truglaw01.CrcDiffer'. -/
def crcDifferCard : Claim7 := { stood := { row := crcDifferRow, standIns := [], harness := (true, "04750c20021f63e0bf1dd7265baba7e1902850d1a958cc97a4fe7804d3d7b0d1"), looks := false }, kinds := [], alts := [], laidByText := true, laidKinds := [.data], laidTests := true, laidLooks := .later }
def CrcDifferCardSaid : Prop := Claim7.holds Tryd.pinned (.plain (OpenSpec.ofChange crcDifferSpec)) crcDifferCard

/-- THE SECOND FORM's CARD OF 'truglaw01.CrcSums'. -/
def crcSumsUptoCard : Claim7 := { stood := { row := crcSumsUptoRow, standIns := [], harness := (true, "04750c20021f63e0bf1dd7265baba7e1902850d1a958cc97a4fe7804d3d7b0d1"), looks := false }, kinds := [], alts := [], laidByText := true, laidKinds := [.data], laidTests := true, laidLooks := .later }
def CrcSumsUptoCardSaid : Prop := Claim7.holds Tryd.pinned (.plain (OpenSpec.upto crcSumsSpec)) crcSumsUptoCard

/-- THE SECOND FORM's CARD OF 'truglaw01.CrcPieces'. -/
def crcPiecesUptoCard : Claim7 := { stood := { row := crcPiecesUptoRow, standIns := [], harness := (true, "04750c20021f63e0bf1dd7265baba7e1902850d1a958cc97a4fe7804d3d7b0d1"), looks := false }, kinds := [], alts := [], laidByText := true, laidKinds := [.data], laidTests := true, laidLooks := .later }
def CrcPiecesUptoCardSaid : Prop := Claim7.holds Tryd.pinned (.plain (OpenSpec.upto crcPiecesSpec)) crcPiecesUptoCard

/-- THE SECOND FORM's CARD OF 'truglaw01.CrcThree'. -/
def crcThreeUptoCard : Claim7 := { stood := { row := crcThreeUptoRow, standIns := [], harness := (true, "04750c20021f63e0bf1dd7265baba7e1902850d1a958cc97a4fe7804d3d7b0d1"), looks := false }, kinds := [], alts := [], laidByText := true, laidKinds := [.data], laidTests := true, laidLooks := .later }
def CrcThreeUptoCardSaid : Prop := Claim7.holds Tryd.pinned (.plain (OpenSpec.upto crcThreeSpec)) crcThreeUptoCard

/-- THE SECOND FORM's CARD OF 'truglaw01.CrcTurned'. -/
def crcTurnedUptoCard : Claim7 := { stood := { row := crcTurnedUptoRow, standIns := [], harness := (true, "04750c20021f63e0bf1dd7265baba7e1902850d1a958cc97a4fe7804d3d7b0d1"), looks := false }, kinds := [], alts := [], laidByText := true, laidKinds := [.data], laidTests := true, laidLooks := .later }
def CrcTurnedUptoCardSaid : Prop := Claim7.holds Tryd.pinned (.plain (OpenSpec.upto crcTurnedSpec)) crcTurnedUptoCard

/-- THE SECOND FORM's CARD OF 'truglaw01.CrcDiffer'. -/
def crcDifferUptoCard : Claim7 := { stood := { row := crcDifferUptoRow, standIns := [], harness := (true, "04750c20021f63e0bf1dd7265baba7e1902850d1a958cc97a4fe7804d3d7b0d1"), looks := false }, kinds := [], alts := [], laidByText := true, laidKinds := [.data], laidTests := true, laidLooks := .later }
def CrcDifferUptoCardSaid : Prop := Claim7.holds Tryd.pinned (.plain (OpenSpec.upto crcDifferSpec)) crcDifferUptoCard
end Rows
end Go.Proofs.YthadicpjhmjkcaaDoor
