/-
  DERIVED. GIVEN WITH THE SEED: THE CARDS: each row of YtkocfgaajghggaaDoorRows.lean that lists a variable, with what it lists TIED to the program's text (the seventh form; the later family's looks); each row that meets fmt, with fmt's text TOLD by the authors' own Lean function (tested against real Go, not proved from fmt's source: count such statements apart). THE CARD IS WHAT COUNTS. Prove the row's statement (the work); the ties are given (YtkocfgaajghggaaDoorTie.lean); close each card by the builder's one call (the guide's Derived/Test/ToyasCard.lean, 'card_holds'). Laid BY PROGRAM, IN A SANDBOX (cutbox-door.mjs). By AI agents, Wed Nov 11 2026. No macro, syntax, notation, axiom, sorry.
-/
import Derived.Test.YtkocfgaajghggaaDoorRows
import GoSem.ClaimSeven
namespace Go.Proofs.YtkocfgaajghggaaDoor
namespace Rows

/-- THE TIED CARD OF 'tappetlaw04.WireEncodes'. -/
def wireEncodesCard : Claim7 := { stood := { row := wireEncodesRow, standIns := [], harness := (true, "2fe825f84b132abfdb0cc1a7f012df096b93953d156fd8205748697ffd589d40"), looks := false }, kinds := [], alts := [], laidByText := true, laidKinds := [.data], laidTests := true, laidLooks := .later }
def WireEncodesCardSaid : Prop := Claim7.holds Tryd.pinned (.plain (OpenSpec.ofChange wireEncodesSpec)) wireEncodesCard

/-- THE TIED CARD OF 'tappetlaw04.WireDecodes'. -/
def wireDecodesCard : Claim7 := { stood := { row := wireDecodesRow, standIns := [], harness := (true, "2fe825f84b132abfdb0cc1a7f012df096b93953d156fd8205748697ffd589d40"), looks := false }, kinds := [], alts := [], laidByText := true, laidKinds := [.data], laidTests := true, laidLooks := .later }
def WireDecodesCardSaid : Prop := Claim7.holds Tryd.pinned (.plain (OpenSpec.ofChange wireDecodesSpec)) wireDecodesCard

/-- THE TIED CARD OF 'tappetlaw04.WireBack'. -/
def wireBackCard : Claim7 := { stood := { row := wireBackRow, standIns := [], harness := (true, "2fe825f84b132abfdb0cc1a7f012df096b93953d156fd8205748697ffd589d40"), looks := false }, kinds := [], alts := [], laidByText := true, laidKinds := [.data], laidTests := true, laidLooks := .later }
def WireBackCardSaid : Prop := Claim7.holds Tryd.pinned (.plain (OpenSpec.ofChange wireBackSpec)) wireBackCard

/-- THE TIED CARD OF 'tappetlaw04.WireKeeps'. -/
def wireKeepsCard : Claim7 := { stood := { row := wireKeepsRow, standIns := [], harness := (true, "2fe825f84b132abfdb0cc1a7f012df096b93953d156fd8205748697ffd589d40"), looks := false }, kinds := [], alts := [], laidByText := true, laidKinds := [.data], laidTests := true, laidLooks := .later }
def WireKeepsCardSaid : Prop := Claim7.holds Tryd.pinned (.plain (OpenSpec.ofChange wireKeepsSpec)) wireKeepsCard

/-- THE TIED CARD OF 'tappetlaw04.WireLength'. -/
def wireLengthCard : Claim7 := { stood := { row := wireLengthRow, standIns := [], harness := (true, "2fe825f84b132abfdb0cc1a7f012df096b93953d156fd8205748697ffd589d40"), looks := false }, kinds := [], alts := [], laidByText := true, laidKinds := [.data], laidTests := true, laidLooks := .later }
def WireLengthCardSaid : Prop := Claim7.holds Tryd.pinned (.plain (OpenSpec.ofChange wireLengthSpec)) wireLengthCard

/-- THE TIED CARD OF 'tappetlaw04.WireSame'. -/
def wireSameCard : Claim7 := { stood := { row := wireSameRow, standIns := [], harness := (true, "2fe825f84b132abfdb0cc1a7f012df096b93953d156fd8205748697ffd589d40"), looks := false }, kinds := [], alts := [], laidByText := true, laidKinds := [.data], laidTests := true, laidLooks := .later }
def WireSameCardSaid : Prop := Claim7.holds Tryd.pinned (.plain (OpenSpec.ofChange wireSameSpec)) wireSameCard

/-- THE SECOND FORM's CARD OF 'tappetlaw04.WireEncodes'. -/
def wireEncodesUptoCard : Claim7 := { stood := { row := wireEncodesUptoRow, standIns := [], harness := (true, "2fe825f84b132abfdb0cc1a7f012df096b93953d156fd8205748697ffd589d40"), looks := false }, kinds := [], alts := [], laidByText := true, laidKinds := [.data], laidTests := true, laidLooks := .later }
def WireEncodesUptoCardSaid : Prop := Claim7.holds Tryd.pinned (.plain (OpenSpec.upto wireEncodesSpec)) wireEncodesUptoCard

/-- THE SECOND FORM's CARD OF 'tappetlaw04.WireDecodes'. -/
def wireDecodesUptoCard : Claim7 := { stood := { row := wireDecodesUptoRow, standIns := [], harness := (true, "2fe825f84b132abfdb0cc1a7f012df096b93953d156fd8205748697ffd589d40"), looks := false }, kinds := [], alts := [], laidByText := true, laidKinds := [.data], laidTests := true, laidLooks := .later }
def WireDecodesUptoCardSaid : Prop := Claim7.holds Tryd.pinned (.plain (OpenSpec.upto wireDecodesSpec)) wireDecodesUptoCard

/-- THE SECOND FORM's CARD OF 'tappetlaw04.WireBack'. -/
def wireBackUptoCard : Claim7 := { stood := { row := wireBackUptoRow, standIns := [], harness := (true, "2fe825f84b132abfdb0cc1a7f012df096b93953d156fd8205748697ffd589d40"), looks := false }, kinds := [], alts := [], laidByText := true, laidKinds := [.data], laidTests := true, laidLooks := .later }
def WireBackUptoCardSaid : Prop := Claim7.holds Tryd.pinned (.plain (OpenSpec.upto wireBackSpec)) wireBackUptoCard

/-- THE SECOND FORM's CARD OF 'tappetlaw04.WireKeeps'. -/
def wireKeepsUptoCard : Claim7 := { stood := { row := wireKeepsUptoRow, standIns := [], harness := (true, "2fe825f84b132abfdb0cc1a7f012df096b93953d156fd8205748697ffd589d40"), looks := false }, kinds := [], alts := [], laidByText := true, laidKinds := [.data], laidTests := true, laidLooks := .later }
def WireKeepsUptoCardSaid : Prop := Claim7.holds Tryd.pinned (.plain (OpenSpec.upto wireKeepsSpec)) wireKeepsUptoCard

/-- THE SECOND FORM's CARD OF 'tappetlaw04.WireLength'. -/
def wireLengthUptoCard : Claim7 := { stood := { row := wireLengthUptoRow, standIns := [], harness := (true, "2fe825f84b132abfdb0cc1a7f012df096b93953d156fd8205748697ffd589d40"), looks := false }, kinds := [], alts := [], laidByText := true, laidKinds := [.data], laidTests := true, laidLooks := .later }
def WireLengthUptoCardSaid : Prop := Claim7.holds Tryd.pinned (.plain (OpenSpec.upto wireLengthSpec)) wireLengthUptoCard

/-- THE SECOND FORM's CARD OF 'tappetlaw04.WireSame'. -/
def wireSameUptoCard : Claim7 := { stood := { row := wireSameUptoRow, standIns := [], harness := (true, "2fe825f84b132abfdb0cc1a7f012df096b93953d156fd8205748697ffd589d40"), looks := false }, kinds := [], alts := [], laidByText := true, laidKinds := [.data], laidTests := true, laidLooks := .later }
def WireSameUptoCardSaid : Prop := Claim7.holds Tryd.pinned (.plain (OpenSpec.upto wireSameSpec)) wireSameUptoCard
end Rows
end Go.Proofs.YtkocfgaajghggaaDoor
