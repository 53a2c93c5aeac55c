/-
  DERIVED. GIVEN WITH THE SEED: THE CARDS: each row of YthcoccoanpmhgaaDoorRows.lean that lists a variable, with what it lists TIED to the program's text (the seventh form; the later family's looks); each row that meets fmt, with fmt's text TOLD by the authors' own Lean function (tested against real Go, not proved from fmt's source: count such statements apart). THE CARD IS WHAT COUNTS. Prove the row's statement (the work); the ties are given (YthcoccoanpmhgaaDoorTie.lean); close each card by the builder's one call (the guide's Derived/Test/ToyasCard.lean, 'card_holds'). Laid BY PROGRAM, IN A SANDBOX (cutbox-door.mjs). By AI agents, Wed Nov 11 2026. No macro, syntax, notation, axiom, sorry.
-/
import Derived.Test.YthcoccoanpmhgaaDoorRows
import GoSem.ClaimSeven
namespace Go.Proofs.YthcoccoanpmhgaaDoor
namespace Rows

/-- THE TIED CARD OF 'cordwoodlaw03.BlockIs'. -/
def blockIsCard : Claim7 := { stood := { row := blockIsRow, standIns := [], harness := (true, "70001b9de1d20a7b42ff6ee8a7f9d9386ef985b4a0f7c4b36e2463cd26d34e3d"), looks := false }, kinds := [], alts := [], laidByText := true, laidKinds := [.data], laidTests := true, laidLooks := .later }
def BlockIsCardSaid : Prop := Claim7.holds Tryd.pinned (.plain (OpenSpec.ofChange blockIsSpec)) blockIsCard

/-- THE TIED CARD OF 'cordwoodlaw03.BlockSpread'. -/
def blockSpreadCard : Claim7 := { stood := { row := blockSpreadRow, standIns := [], harness := (true, "70001b9de1d20a7b42ff6ee8a7f9d9386ef985b4a0f7c4b36e2463cd26d34e3d"), looks := false }, kinds := [], alts := [], laidByText := true, laidKinds := [.data], laidTests := true, laidLooks := .later }
def BlockSpreadCardSaid : Prop := Claim7.holds Tryd.pinned (.plain (OpenSpec.ofChange blockSpreadSpec)) blockSpreadCard

/-- THE TIED CARD OF 'cordwoodlaw03.BlockUndo'. -/
def blockUndoCard : Claim7 := { stood := { row := blockUndoRow, standIns := [], harness := (true, "70001b9de1d20a7b42ff6ee8a7f9d9386ef985b4a0f7c4b36e2463cd26d34e3d"), looks := false }, kinds := [], alts := [], laidByText := true, laidKinds := [.data], laidTests := true, laidLooks := .later }
def BlockUndoCardSaid : Prop := Claim7.holds Tryd.pinned (.plain (OpenSpec.ofChange blockUndoSpec)) blockUndoCard

/-- THE TIED CARD OF 'cordwoodlaw03.BlockWords'. -/
def blockWordsCard : Claim7 := { stood := { row := blockWordsRow, standIns := [], harness := (true, "70001b9de1d20a7b42ff6ee8a7f9d9386ef985b4a0f7c4b36e2463cd26d34e3d"), looks := false }, kinds := [], alts := [], laidByText := true, laidKinds := [.data], laidTests := true, laidLooks := .later }
def BlockWordsCardSaid : Prop := Claim7.holds Tryd.pinned (.plain (OpenSpec.ofChange blockWordsSpec)) blockWordsCard

/-- THE SECOND FORM's CARD OF 'cordwoodlaw03.BlockIs'. -/
def blockIsUptoCard : Claim7 := { stood := { row := blockIsUptoRow, standIns := [], harness := (true, "70001b9de1d20a7b42ff6ee8a7f9d9386ef985b4a0f7c4b36e2463cd26d34e3d"), looks := false }, kinds := [], alts := [], laidByText := true, laidKinds := [.data], laidTests := true, laidLooks := .later }
def BlockIsUptoCardSaid : Prop := Claim7.holds Tryd.pinned (.plain (OpenSpec.upto blockIsSpec)) blockIsUptoCard

/-- THE SECOND FORM's CARD OF 'cordwoodlaw03.BlockSpread'. -/
def blockSpreadUptoCard : Claim7 := { stood := { row := blockSpreadUptoRow, standIns := [], harness := (true, "70001b9de1d20a7b42ff6ee8a7f9d9386ef985b4a0f7c4b36e2463cd26d34e3d"), looks := false }, kinds := [], alts := [], laidByText := true, laidKinds := [.data], laidTests := true, laidLooks := .later }
def BlockSpreadUptoCardSaid : Prop := Claim7.holds Tryd.pinned (.plain (OpenSpec.upto blockSpreadSpec)) blockSpreadUptoCard

/-- THE SECOND FORM's CARD OF 'cordwoodlaw03.BlockUndo'. -/
def blockUndoUptoCard : Claim7 := { stood := { row := blockUndoUptoRow, standIns := [], harness := (true, "70001b9de1d20a7b42ff6ee8a7f9d9386ef985b4a0f7c4b36e2463cd26d34e3d"), looks := false }, kinds := [], alts := [], laidByText := true, laidKinds := [.data], laidTests := true, laidLooks := .later }
def BlockUndoUptoCardSaid : Prop := Claim7.holds Tryd.pinned (.plain (OpenSpec.upto blockUndoSpec)) blockUndoUptoCard

/-- THE SECOND FORM's CARD OF 'cordwoodlaw03.BlockWords'. -/
def blockWordsUptoCard : Claim7 := { stood := { row := blockWordsUptoRow, standIns := [], harness := (true, "70001b9de1d20a7b42ff6ee8a7f9d9386ef985b4a0f7c4b36e2463cd26d34e3d"), looks := false }, kinds := [], alts := [], laidByText := true, laidKinds := [.data], laidTests := true, laidLooks := .later }
def BlockWordsUptoCardSaid : Prop := Claim7.holds Tryd.pinned (.plain (OpenSpec.upto blockWordsSpec)) blockWordsUptoCard
end Rows
end Go.Proofs.YthcoccoanpmhgaaDoor
