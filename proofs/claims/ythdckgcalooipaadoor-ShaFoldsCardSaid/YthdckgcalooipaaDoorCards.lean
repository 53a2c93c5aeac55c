/-
  DERIVED. GIVEN WITH THE SEED: THE CARDS: each row of YthdckgcalooipaaDoorRows.lean that lists a variable, with what it lists TIED to the program's text (the seventh form; the later family's looks); each row that meets fmt, with fmt's text TOLD by the authors' own Lean function (tested against real Go, not proved from fmt's source: count such statements apart). THE CARD IS WHAT COUNTS. Prove the row's statement (the work); the ties are given (YthdckgcalooipaaDoorTie.lean); close each card by the builder's one call (the guide's Derived/Test/ToyasCard.lean, 'card_holds'). Laid BY PROGRAM, IN A SANDBOX (cutbox-door.mjs). By AI agents, Wed Nov 11 2026. No macro, syntax, notation, axiom, sorry.
-/
import Derived.Test.YthdckgcalooipaaDoorRows
import GoSem.ClaimSeven
namespace Go.Proofs.YthdckgcalooipaaDoor
namespace Rows

/-- THE TIED CARD OF 'cordwoodlaw04.ShaIs'. -/
def shaIsCard : Claim7 := { stood := { row := shaIsRow, standIns := [], harness := (true, "caa3896528fbc0bc48fa83374bf83885225c2338f5572b61e824c63bf5b0b293"), looks := false }, kinds := [], alts := [], laidByText := true, laidKinds := [.data], laidTests := true, laidLooks := .later }
def ShaIsCardSaid : Prop := Claim7.holds Tryd.pinned (.plain (OpenSpec.ofChange shaIsSpec)) shaIsCard

/-- THE TIED CARD OF 'cordwoodlaw04.ShaParts'. -/
def shaPartsCard : Claim7 := { stood := { row := shaPartsRow, standIns := [], harness := (true, "caa3896528fbc0bc48fa83374bf83885225c2338f5572b61e824c63bf5b0b293"), looks := false }, kinds := [], alts := [], laidByText := true, laidKinds := [.data], laidTests := true, laidLooks := .later }
def ShaPartsCardSaid : Prop := Claim7.holds Tryd.pinned (.plain (OpenSpec.ofChange shaPartsSpec)) shaPartsCard

/-- THE TIED CARD OF 'cordwoodlaw04.ShaPad'. -/
def shaPadCard : Claim7 := { stood := { row := shaPadRow, standIns := [], harness := (true, "caa3896528fbc0bc48fa83374bf83885225c2338f5572b61e824c63bf5b0b293"), looks := false }, kinds := [], alts := [], laidByText := true, laidKinds := [.data], laidTests := true, laidLooks := .later }
def ShaPadCardSaid : Prop := Claim7.holds Tryd.pinned (.plain (OpenSpec.ofChange shaPadSpec)) shaPadCard

/-- THE TIED CARD OF 'cordwoodlaw04.ShaFolds'. -/
def shaFoldsCard : Claim7 := { stood := { row := shaFoldsRow, standIns := [], harness := (true, "caa3896528fbc0bc48fa83374bf83885225c2338f5572b61e824c63bf5b0b293"), looks := false }, kinds := [], alts := [], laidByText := true, laidKinds := [.data], laidTests := true, laidLooks := .later }
def ShaFoldsCardSaid : Prop := Claim7.holds Tryd.pinned (.plain (OpenSpec.ofChange shaFoldsSpec)) shaFoldsCard

/-- THE SECOND FORM's CARD OF 'cordwoodlaw04.ShaIs'. -/
def shaIsUptoCard : Claim7 := { stood := { row := shaIsUptoRow, standIns := [], harness := (true, "caa3896528fbc0bc48fa83374bf83885225c2338f5572b61e824c63bf5b0b293"), looks := false }, kinds := [], alts := [], laidByText := true, laidKinds := [.data], laidTests := true, laidLooks := .later }
def ShaIsUptoCardSaid : Prop := Claim7.holds Tryd.pinned (.plain (OpenSpec.upto shaIsSpec)) shaIsUptoCard

/-- THE SECOND FORM's CARD OF 'cordwoodlaw04.ShaParts'. -/
def shaPartsUptoCard : Claim7 := { stood := { row := shaPartsUptoRow, standIns := [], harness := (true, "caa3896528fbc0bc48fa83374bf83885225c2338f5572b61e824c63bf5b0b293"), looks := false }, kinds := [], alts := [], laidByText := true, laidKinds := [.data], laidTests := true, laidLooks := .later }
def ShaPartsUptoCardSaid : Prop := Claim7.holds Tryd.pinned (.plain (OpenSpec.upto shaPartsSpec)) shaPartsUptoCard

/-- THE SECOND FORM's CARD OF 'cordwoodlaw04.ShaPad'. -/
def shaPadUptoCard : Claim7 := { stood := { row := shaPadUptoRow, standIns := [], harness := (true, "caa3896528fbc0bc48fa83374bf83885225c2338f5572b61e824c63bf5b0b293"), looks := false }, kinds := [], alts := [], laidByText := true, laidKinds := [.data], laidTests := true, laidLooks := .later }
def ShaPadUptoCardSaid : Prop := Claim7.holds Tryd.pinned (.plain (OpenSpec.upto shaPadSpec)) shaPadUptoCard

/-- THE SECOND FORM's CARD OF 'cordwoodlaw04.ShaFolds'. -/
def shaFoldsUptoCard : Claim7 := { stood := { row := shaFoldsUptoRow, standIns := [], harness := (true, "caa3896528fbc0bc48fa83374bf83885225c2338f5572b61e824c63bf5b0b293"), looks := false }, kinds := [], alts := [], laidByText := true, laidKinds := [.data], laidTests := true, laidLooks := .later }
def ShaFoldsUptoCardSaid : Prop := Claim7.holds Tryd.pinned (.plain (OpenSpec.upto shaFoldsSpec)) shaFoldsUptoCard
end Rows
end Go.Proofs.YthdckgcalooipaaDoor
