/-
  DERIVED. GIVEN WITH THE SEED: THE CARDS: each row of YtjmjmgemhkjomaaDoorRows.lean that lists a variable, with what it lists TIED to the program's text (the seventh form; the later family's looks); each row that meets fmt, with fmt's text TOLD by the authors' own Lean function (tested against real Go, not proved from fmt's source: count such statements apart). THE CARD IS WHAT COUNTS. Prove the row's statement (the work); the ties are given (YtjmjmgemhkjomaaDoorTie.lean); close each card by the builder's one call (the guide's Derived/Test/ToyasCard.lean, 'card_holds'). Laid BY PROGRAM, IN A SANDBOX (cutbox-door.mjs). By AI agents, Wed Nov 11 2026. No macro, syntax, notation, axiom, sorry.
-/
import Derived.Test.YtjmjmgemhkjomaaDoorRows
import GoSem.ClaimSeven
namespace Go.Proofs.YtjmjmgemhkjomaaDoor
namespace Rows

/-- THE TIED CARD OF 'tappetlaw02.OpsNames'. -/
def opsNamesCard : Claim7 := { stood := { row := opsNamesRow, standIns := [], harness := (true, "07ec4e5198a08dfa1c912acd15729863d45d1b23e79427bb9a16d8b69b904146"), looks := false }, kinds := [], alts := [], laidByText := true, laidKinds := [.data], laidTests := true, laidLooks := .later }
def OpsNamesCardSaid : Prop := Claim7.holds Tryd.pinned (.plain (OpenSpec.ofChange opsNamesSpec)) opsNamesCard

/-- THE TIED CARD OF 'tappetlaw02.OpsRight'. -/
def opsRightCard : Claim7 := { stood := { row := opsRightRow, standIns := [], harness := (true, "07ec4e5198a08dfa1c912acd15729863d45d1b23e79427bb9a16d8b69b904146"), looks := false }, kinds := [], alts := [], laidByText := true, laidKinds := [.data], laidTests := true, laidLooks := .later }
def OpsRightCardSaid : Prop := Claim7.holds Tryd.pinned (.plain (OpenSpec.ofChange opsRightSpec)) opsRightCard

/-- THE TIED CARD OF 'tappetlaw02.OpsFields'. -/
def opsFieldsCard : Claim7 := { stood := { row := opsFieldsRow, standIns := [], harness := (true, "07ec4e5198a08dfa1c912acd15729863d45d1b23e79427bb9a16d8b69b904146"), looks := false }, kinds := [], alts := [], laidByText := true, laidKinds := [.data], laidTests := true, laidLooks := .later }
def OpsFieldsCardSaid : Prop := Claim7.holds Tryd.pinned (.plain (OpenSpec.ofChange opsFieldsSpec)) opsFieldsCard

/-- THE TIED CARD OF 'tappetlaw02.OpsReads'. -/
def opsReadsCard : Claim7 := { stood := { row := opsReadsRow, standIns := [], harness := (true, "07ec4e5198a08dfa1c912acd15729863d45d1b23e79427bb9a16d8b69b904146"), looks := false }, kinds := [], alts := [], laidByText := true, laidKinds := [.data], laidTests := true, laidLooks := .later }
def OpsReadsCardSaid : Prop := Claim7.holds Tryd.pinned (.plain (OpenSpec.ofChange opsReadsSpec)) opsReadsCard

/-- THE SECOND FORM's CARD OF 'tappetlaw02.OpsNames'. -/
def opsNamesUptoCard : Claim7 := { stood := { row := opsNamesUptoRow, standIns := [], harness := (true, "07ec4e5198a08dfa1c912acd15729863d45d1b23e79427bb9a16d8b69b904146"), looks := false }, kinds := [], alts := [], laidByText := true, laidKinds := [.data], laidTests := true, laidLooks := .later }
def OpsNamesUptoCardSaid : Prop := Claim7.holds Tryd.pinned (.plain (OpenSpec.upto opsNamesSpec)) opsNamesUptoCard

/-- THE SECOND FORM's CARD OF 'tappetlaw02.OpsRight'. -/
def opsRightUptoCard : Claim7 := { stood := { row := opsRightUptoRow, standIns := [], harness := (true, "07ec4e5198a08dfa1c912acd15729863d45d1b23e79427bb9a16d8b69b904146"), looks := false }, kinds := [], alts := [], laidByText := true, laidKinds := [.data], laidTests := true, laidLooks := .later }
def OpsRightUptoCardSaid : Prop := Claim7.holds Tryd.pinned (.plain (OpenSpec.upto opsRightSpec)) opsRightUptoCard

/-- THE SECOND FORM's CARD OF 'tappetlaw02.OpsFields'. -/
def opsFieldsUptoCard : Claim7 := { stood := { row := opsFieldsUptoRow, standIns := [], harness := (true, "07ec4e5198a08dfa1c912acd15729863d45d1b23e79427bb9a16d8b69b904146"), looks := false }, kinds := [], alts := [], laidByText := true, laidKinds := [.data], laidTests := true, laidLooks := .later }
def OpsFieldsUptoCardSaid : Prop := Claim7.holds Tryd.pinned (.plain (OpenSpec.upto opsFieldsSpec)) opsFieldsUptoCard

/-- THE SECOND FORM's CARD OF 'tappetlaw02.OpsReads'. -/
def opsReadsUptoCard : Claim7 := { stood := { row := opsReadsUptoRow, standIns := [], harness := (true, "07ec4e5198a08dfa1c912acd15729863d45d1b23e79427bb9a16d8b69b904146"), looks := false }, kinds := [], alts := [], laidByText := true, laidKinds := [.data], laidTests := true, laidLooks := .later }
def OpsReadsUptoCardSaid : Prop := Claim7.holds Tryd.pinned (.plain (OpenSpec.upto opsReadsSpec)) opsReadsUptoCard
end Rows
end Go.Proofs.YtjmjmgemhkjomaaDoor
