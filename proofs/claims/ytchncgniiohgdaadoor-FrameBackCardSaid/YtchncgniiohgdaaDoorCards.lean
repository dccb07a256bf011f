/-
  DERIVED. GIVEN WITH THE SEED: THE CARDS: each row of YtchncgniiohgdaaDoorRows.lean that lists a variable, with what it lists TIED to the program's text (the seventh form; the later family's looks); each row that meets fmt, with fmt's text TOLD by the authors' own Lean function (tested against real Go, not proved from fmt's source: count such statements apart). THE CARD IS WHAT COUNTS. Prove the row's statement (the work); the ties are given (YtchncgniiohgdaaDoorTie.lean); close each card by the builder's one call (the guide's Derived/Test/ToyasCard.lean, 'card_holds'). Laid BY PROGRAM, IN A SANDBOX (cutbox-door.mjs). By AI agents, Wed Nov 11 2026. No macro, syntax, notation, axiom, sorry.
-/
import Derived.Test.YtchncgniiohgdaaDoorRows
import GoSem.ClaimSeven
namespace Go.Proofs.YtchncgniiohgdaaDoor
namespace Rows

/-- THE TIED CARD OF 'truglaw10.FrameWraps'. -/
def frameWrapsCard : Claim7 := { stood := { row := frameWrapsRow, standIns := [], harness := (true, "90a760f1caffd9a6e4663e4593f359117ca31dda6a06d047833f0de3bf7f5810"), looks := false }, kinds := [], alts := [], laidByText := true, laidKinds := [.data], laidTests := true, laidLooks := .later }
def FrameWrapsCardSaid : Prop := Claim7.holds Tryd.pinned (.plain (OpenSpec.ofChange frameWrapsSpec)) frameWrapsCard

/-- THE TIED CARD OF 'truglaw10.FrameFirst'. -/
def frameFirstCard : Claim7 := { stood := { row := frameFirstRow, standIns := [], harness := (true, "90a760f1caffd9a6e4663e4593f359117ca31dda6a06d047833f0de3bf7f5810"), looks := false }, kinds := [], alts := [], laidByText := true, laidKinds := [.data], laidTests := true, laidLooks := .later }
def FrameFirstCardSaid : Prop := Claim7.holds Tryd.pinned (.plain (OpenSpec.ofChange frameFirstSpec)) frameFirstCard

/-- THE TIED CARD OF 'truglaw10.FrameBack'. -/
def frameBackCard : Claim7 := { stood := { row := frameBackRow, standIns := [], harness := (true, "90a760f1caffd9a6e4663e4593f359117ca31dda6a06d047833f0de3bf7f5810"), looks := false }, kinds := [], alts := [], laidByText := true, laidKinds := [.data], laidTests := true, laidLooks := .later }
def FrameBackCardSaid : Prop := Claim7.holds Tryd.pinned (.plain (OpenSpec.ofChange frameBackSpec)) frameBackCard

/-- THE TIED CARD OF 'truglaw10.FrameSizes'. -/
def frameSizesCard : Claim7 := { stood := { row := frameSizesRow, standIns := [], harness := (true, "90a760f1caffd9a6e4663e4593f359117ca31dda6a06d047833f0de3bf7f5810"), looks := false }, kinds := [], alts := [], laidByText := true, laidKinds := [.data], laidTests := true, laidLooks := .later }
def FrameSizesCardSaid : Prop := Claim7.holds Tryd.pinned (.plain (OpenSpec.ofChange frameSizesSpec)) frameSizesCard

/-- THE TIED CARD OF 'truglaw10.FrameJoin'. -/
def frameJoinCard : Claim7 := { stood := { row := frameJoinRow, standIns := [], harness := (true, "90a760f1caffd9a6e4663e4593f359117ca31dda6a06d047833f0de3bf7f5810"), looks := false }, kinds := [], alts := [], laidByText := true, laidKinds := [.data], laidTests := true, laidLooks := .later }
def FrameJoinCardSaid : Prop := Claim7.holds Tryd.pinned (.plain (OpenSpec.ofChange frameJoinSpec)) frameJoinCard

/-- THE SECOND FORM's CARD OF 'truglaw10.FrameWraps'. -/
def frameWrapsUptoCard : Claim7 := { stood := { row := frameWrapsUptoRow, standIns := [], harness := (true, "90a760f1caffd9a6e4663e4593f359117ca31dda6a06d047833f0de3bf7f5810"), looks := false }, kinds := [], alts := [], laidByText := true, laidKinds := [.data], laidTests := true, laidLooks := .later }
def FrameWrapsUptoCardSaid : Prop := Claim7.holds Tryd.pinned (.plain (OpenSpec.upto frameWrapsSpec)) frameWrapsUptoCard

/-- THE SECOND FORM's CARD OF 'truglaw10.FrameFirst'. -/
def frameFirstUptoCard : Claim7 := { stood := { row := frameFirstUptoRow, standIns := [], harness := (true, "90a760f1caffd9a6e4663e4593f359117ca31dda6a06d047833f0de3bf7f5810"), looks := false }, kinds := [], alts := [], laidByText := true, laidKinds := [.data], laidTests := true, laidLooks := .later }
def FrameFirstUptoCardSaid : Prop := Claim7.holds Tryd.pinned (.plain (OpenSpec.upto frameFirstSpec)) frameFirstUptoCard

/-- THE SECOND FORM's CARD OF 'truglaw10.FrameBack'. -/
def frameBackUptoCard : Claim7 := { stood := { row := frameBackUptoRow, standIns := [], harness := (true, "90a760f1caffd9a6e4663e4593f359117ca31dda6a06d047833f0de3bf7f5810"), looks := false }, kinds := [], alts := [], laidByText := true, laidKinds := [.data], laidTests := true, laidLooks := .later }
def FrameBackUptoCardSaid : Prop := Claim7.holds Tryd.pinned (.plain (OpenSpec.upto frameBackSpec)) frameBackUptoCard

/-- THE SECOND FORM's CARD OF 'truglaw10.FrameSizes'. -/
def frameSizesUptoCard : Claim7 := { stood := { row := frameSizesUptoRow, standIns := [], harness := (true, "90a760f1caffd9a6e4663e4593f359117ca31dda6a06d047833f0de3bf7f5810"), looks := false }, kinds := [], alts := [], laidByText := true, laidKinds := [.data], laidTests := true, laidLooks := .later }
def FrameSizesUptoCardSaid : Prop := Claim7.holds Tryd.pinned (.plain (OpenSpec.upto frameSizesSpec)) frameSizesUptoCard

/-- THE SECOND FORM's CARD OF 'truglaw10.FrameJoin'. -/
def frameJoinUptoCard : Claim7 := { stood := { row := frameJoinUptoRow, standIns := [], harness := (true, "90a760f1caffd9a6e4663e4593f359117ca31dda6a06d047833f0de3bf7f5810"), looks := false }, kinds := [], alts := [], laidByText := true, laidKinds := [.data], laidTests := true, laidLooks := .later }
def FrameJoinUptoCardSaid : Prop := Claim7.holds Tryd.pinned (.plain (OpenSpec.upto frameJoinSpec)) frameJoinUptoCard
end Rows
end Go.Proofs.YtchncgniiohgdaaDoor
