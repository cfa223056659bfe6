/-
  DERIVED. GIVEN WITH THE SEED: THE CARDS: each row of YtkjbpkggcddnhaaDoorRows.lean that lists a variable, with what it lists TIED to the program's text (the seventh form; the later family's looks); each row that meets fmt, with fmt's text TOLD by the authors' own Lean function (tested against real Go, not proved from fmt's source: count such statements apart). THE CARD IS WHAT COUNTS. Prove the row's statement (the work); the ties are given (YtkjbpkggcddnhaaDoorTie.lean); close each card by the builder's one call (the guide's Derived/Test/ToyasCard.lean, 'card_holds'). Laid BY PROGRAM, IN A SANDBOX (cutbox-door.mjs). By AI agents, Wed Nov 11 2026. No macro, syntax, notation, axiom, sorry.
-/
import Derived.Test.YtkjbpkggcddnhaaDoorRows
import GoSem.ClaimSeven
namespace Go.Proofs.YtkjbpkggcddnhaaDoor
namespace Rows

/-- THE TIED CARD OF 'stockadelaw18.OrderCuts'. -/
def orderCutsCard : Claim7 := { stood := { row := orderCutsRow, standIns := [], harness := (true, "e6da3c694072d5f009fd9132bdec9a146c2745a4bb1f26c3160142a071c0f232"), looks := true }, kinds := [], alts := [], laidByText := true, laidKinds := [.sentinel], laidTests := true, laidLooks := .later }
def OrderCutsCardSaid : Prop := Claim7.holds Tryd.pinned (.plain (OpenSpec.ofChange orderCutsSpec)) orderCutsCard

/-- THE TIED CARD OF 'stockadelaw18.OrderReads'. -/
def orderReadsCard : Claim7 := { stood := { row := orderReadsRow, standIns := [], harness := (true, "e6da3c694072d5f009fd9132bdec9a146c2745a4bb1f26c3160142a071c0f232"), looks := true }, kinds := [], alts := [], laidByText := true, laidKinds := [.sentinel], laidTests := true, laidLooks := .later }
def OrderReadsCardSaid : Prop := Claim7.holds Tryd.pinned (.plain (OpenSpec.ofChange orderReadsSpec)) orderReadsCard

/-- THE TIED CARD OF 'stockadelaw18.OrderChains'. -/
def orderChainsCard : Claim7 := { stood := { row := orderChainsRow, standIns := [], harness := (true, "e6da3c694072d5f009fd9132bdec9a146c2745a4bb1f26c3160142a071c0f232"), looks := true }, kinds := [], alts := [], laidByText := true, laidKinds := [.sentinel], laidTests := true, laidLooks := .later }
def OrderChainsCardSaid : Prop := Claim7.holds Tryd.pinned (.plain (OpenSpec.ofChange orderChainsSpec)) orderChainsCard

/-- THE TIED CARD OF 'stockadelaw18.OrderTells'. -/
def orderTellsCard : Claim7 := { stood := { row := orderTellsRow, standIns := [], harness := (true, "e6da3c694072d5f009fd9132bdec9a146c2745a4bb1f26c3160142a071c0f232"), looks := true }, kinds := [], alts := [], laidByText := true, laidKinds := [.sentinel, .sentinel, .sentinel, .sentinel, .sentinel, .sentinel, .sentinel, .sentinel, .sentinel, .sentinel, .sentinel, .sentinel, .sentinel, .sentinel, .sentinel, .sentinel, .sentinel], laidTests := true, laidLooks := .later }
def OrderTellsCardSaid : Prop := Claim7.holds Tryd.pinned (.plain (OpenSpec.ofChange orderTellsSpec)) orderTellsCard

/-- THE TIED CARD OF 'stockadelaw18.OrderRaces'. -/
def orderRacesCard : Claim7 := { stood := { row := orderRacesRow, standIns := [], harness := (true, "e6da3c694072d5f009fd9132bdec9a146c2745a4bb1f26c3160142a071c0f232"), looks := true }, kinds := [], alts := [], laidByText := true, laidKinds := [.sentinel, .sentinel, .sentinel, .sentinel, .sentinel, .sentinel, .sentinel, .sentinel, .sentinel, .sentinel, .sentinel, .sentinel, .sentinel, .sentinel, .sentinel, .sentinel, .sentinel], laidTests := true, laidLooks := .later }
def OrderRacesCardSaid : Prop := Claim7.holds Tryd.pinned (.plain (OpenSpec.ofChange orderRacesSpec)) orderRacesCard

/-- THE TIED CARD OF 'stockadelaw19.DetectAgain'. -/
def detectAgainCard : Claim7 := { stood := { row := detectAgainRow, standIns := [], harness := (true, "e6da3c694072d5f009fd9132bdec9a146c2745a4bb1f26c3160142a071c0f232"), looks := true }, kinds := [], alts := [], laidByText := true, laidKinds := [.sentinel, .sentinel, .sentinel, .sentinel, .sentinel, .sentinel, .sentinel, .sentinel, .sentinel, .sentinel, .sentinel, .sentinel, .sentinel, .sentinel, .sentinel, .sentinel, .sentinel], laidTests := true, laidLooks := .later }
def DetectAgainCardSaid : Prop := Claim7.holds Tryd.pinned (.plain (OpenSpec.ofChange detectAgainSpec)) detectAgainCard

/-- THE TIED CARD OF 'stockadelaw19.DetectTakes'. -/
def detectTakesCard : Claim7 := { stood := { row := detectTakesRow, standIns := [], harness := (true, "e6da3c694072d5f009fd9132bdec9a146c2745a4bb1f26c3160142a071c0f232"), looks := true }, kinds := [], alts := [], laidByText := true, laidKinds := [.sentinel, .sentinel, .sentinel, .sentinel, .sentinel, .sentinel, .sentinel, .sentinel, .sentinel, .sentinel, .sentinel, .sentinel, .sentinel, .sentinel, .sentinel, .sentinel, .sentinel], laidTests := true, laidLooks := .later }
def DetectTakesCardSaid : Prop := Claim7.holds Tryd.pinned (.plain (OpenSpec.ofChange detectTakesSpec)) detectTakesCard

/-- THE TIED CARD OF 'stockadelaw19.DetectNeeds'. -/
def detectNeedsCard : Claim7 := { stood := { row := detectNeedsRow, standIns := [], harness := (true, "e6da3c694072d5f009fd9132bdec9a146c2745a4bb1f26c3160142a071c0f232"), looks := true }, kinds := [], alts := [], laidByText := true, laidKinds := [.sentinel, .sentinel, .sentinel, .sentinel, .sentinel, .sentinel, .sentinel, .sentinel, .sentinel, .sentinel, .sentinel, .sentinel, .sentinel, .sentinel, .sentinel, .sentinel, .sentinel], laidTests := true, laidLooks := .later }
def DetectNeedsCardSaid : Prop := Claim7.holds Tryd.pinned (.plain (OpenSpec.ofChange detectNeedsSpec)) detectNeedsCard

/-- THE TIED CARD OF 'stockadelaw19.DetectMore'. -/
def detectMoreCard : Claim7 := { stood := { row := detectMoreRow, standIns := [], harness := (true, "e6da3c694072d5f009fd9132bdec9a146c2745a4bb1f26c3160142a071c0f232"), looks := true }, kinds := [], alts := [], laidByText := true, laidKinds := [.sentinel, .sentinel, .sentinel, .sentinel, .sentinel, .sentinel, .sentinel, .sentinel, .sentinel, .sentinel, .sentinel, .sentinel, .sentinel, .sentinel, .sentinel, .sentinel, .sentinel], laidTests := true, laidLooks := .later }
def DetectMoreCardSaid : Prop := Claim7.holds Tryd.pinned (.plain (OpenSpec.ofChange detectMoreSpec)) detectMoreCard

/-- THE SECOND FORM's CARD OF 'stockadelaw18.OrderCuts'. -/
def orderCutsUptoCard : Claim7 := { stood := { row := orderCutsUptoRow, standIns := [], harness := (true, "e6da3c694072d5f009fd9132bdec9a146c2745a4bb1f26c3160142a071c0f232"), looks := true }, kinds := [], alts := [], laidByText := true, laidKinds := [.sentinel], laidTests := true, laidLooks := .later }
def OrderCutsUptoCardSaid : Prop := Claim7.holds Tryd.pinned (.plain (OpenSpec.upto orderCutsSpec)) orderCutsUptoCard

/-- THE SECOND FORM's CARD OF 'stockadelaw18.OrderReads'. -/
def orderReadsUptoCard : Claim7 := { stood := { row := orderReadsUptoRow, standIns := [], harness := (true, "e6da3c694072d5f009fd9132bdec9a146c2745a4bb1f26c3160142a071c0f232"), looks := true }, kinds := [], alts := [], laidByText := true, laidKinds := [.sentinel], laidTests := true, laidLooks := .later }
def OrderReadsUptoCardSaid : Prop := Claim7.holds Tryd.pinned (.plain (OpenSpec.upto orderReadsSpec)) orderReadsUptoCard

/-- THE SECOND FORM's CARD OF 'stockadelaw18.OrderChains'. -/
def orderChainsUptoCard : Claim7 := { stood := { row := orderChainsUptoRow, standIns := [], harness := (true, "e6da3c694072d5f009fd9132bdec9a146c2745a4bb1f26c3160142a071c0f232"), looks := true }, kinds := [], alts := [], laidByText := true, laidKinds := [.sentinel], laidTests := true, laidLooks := .later }
def OrderChainsUptoCardSaid : Prop := Claim7.holds Tryd.pinned (.plain (OpenSpec.upto orderChainsSpec)) orderChainsUptoCard

/-- THE SECOND FORM's CARD OF 'stockadelaw18.OrderTells'. -/
def orderTellsUptoCard : Claim7 := { stood := { row := orderTellsUptoRow, standIns := [], harness := (true, "e6da3c694072d5f009fd9132bdec9a146c2745a4bb1f26c3160142a071c0f232"), looks := true }, kinds := [], alts := [], laidByText := true, laidKinds := [.sentinel, .sentinel, .sentinel, .sentinel, .sentinel, .sentinel, .sentinel, .sentinel, .sentinel, .sentinel, .sentinel, .sentinel, .sentinel, .sentinel, .sentinel, .sentinel, .sentinel], laidTests := true, laidLooks := .later }
def OrderTellsUptoCardSaid : Prop := Claim7.holds Tryd.pinned (.plain (OpenSpec.upto orderTellsSpec)) orderTellsUptoCard

/-- THE SECOND FORM's CARD OF 'stockadelaw18.OrderRaces'. -/
def orderRacesUptoCard : Claim7 := { stood := { row := orderRacesUptoRow, standIns := [], harness := (true, "e6da3c694072d5f009fd9132bdec9a146c2745a4bb1f26c3160142a071c0f232"), looks := true }, kinds := [], alts := [], laidByText := true, laidKinds := [.sentinel, .sentinel, .sentinel, .sentinel, .sentinel, .sentinel, .sentinel, .sentinel, .sentinel, .sentinel, .sentinel, .sentinel, .sentinel, .sentinel, .sentinel, .sentinel, .sentinel], laidTests := true, laidLooks := .later }
def OrderRacesUptoCardSaid : Prop := Claim7.holds Tryd.pinned (.plain (OpenSpec.upto orderRacesSpec)) orderRacesUptoCard

/-- THE SECOND FORM's CARD OF 'stockadelaw19.DetectAgain'. -/
def detectAgainUptoCard : Claim7 := { stood := { row := detectAgainUptoRow, standIns := [], harness := (true, "e6da3c694072d5f009fd9132bdec9a146c2745a4bb1f26c3160142a071c0f232"), looks := true }, kinds := [], alts := [], laidByText := true, laidKinds := [.sentinel, .sentinel, .sentinel, .sentinel, .sentinel, .sentinel, .sentinel, .sentinel, .sentinel, .sentinel, .sentinel, .sentinel, .sentinel, .sentinel, .sentinel, .sentinel, .sentinel], laidTests := true, laidLooks := .later }
def DetectAgainUptoCardSaid : Prop := Claim7.holds Tryd.pinned (.plain (OpenSpec.upto detectAgainSpec)) detectAgainUptoCard

/-- THE SECOND FORM's CARD OF 'stockadelaw19.DetectTakes'. -/
def detectTakesUptoCard : Claim7 := { stood := { row := detectTakesUptoRow, standIns := [], harness := (true, "e6da3c694072d5f009fd9132bdec9a146c2745a4bb1f26c3160142a071c0f232"), looks := true }, kinds := [], alts := [], laidByText := true, laidKinds := [.sentinel, .sentinel, .sentinel, .sentinel, .sentinel, .sentinel, .sentinel, .sentinel, .sentinel, .sentinel, .sentinel, .sentinel, .sentinel, .sentinel, .sentinel, .sentinel, .sentinel], laidTests := true, laidLooks := .later }
def DetectTakesUptoCardSaid : Prop := Claim7.holds Tryd.pinned (.plain (OpenSpec.upto detectTakesSpec)) detectTakesUptoCard

/-- THE SECOND FORM's CARD OF 'stockadelaw19.DetectNeeds'. -/
def detectNeedsUptoCard : Claim7 := { stood := { row := detectNeedsUptoRow, standIns := [], harness := (true, "e6da3c694072d5f009fd9132bdec9a146c2745a4bb1f26c3160142a071c0f232"), looks := true }, kinds := [], alts := [], laidByText := true, laidKinds := [.sentinel, .sentinel, .sentinel, .sentinel, .sentinel, .sentinel, .sentinel, .sentinel, .sentinel, .sentinel, .sentinel, .sentinel, .sentinel, .sentinel, .sentinel, .sentinel, .sentinel], laidTests := true, laidLooks := .later }
def DetectNeedsUptoCardSaid : Prop := Claim7.holds Tryd.pinned (.plain (OpenSpec.upto detectNeedsSpec)) detectNeedsUptoCard

/-- THE SECOND FORM's CARD OF 'stockadelaw19.DetectMore'. -/
def detectMoreUptoCard : Claim7 := { stood := { row := detectMoreUptoRow, standIns := [], harness := (true, "e6da3c694072d5f009fd9132bdec9a146c2745a4bb1f26c3160142a071c0f232"), looks := true }, kinds := [], alts := [], laidByText := true, laidKinds := [.sentinel, .sentinel, .sentinel, .sentinel, .sentinel, .sentinel, .sentinel, .sentinel, .sentinel, .sentinel, .sentinel, .sentinel, .sentinel, .sentinel, .sentinel, .sentinel, .sentinel], laidTests := true, laidLooks := .later }
def DetectMoreUptoCardSaid : Prop := Claim7.holds Tryd.pinned (.plain (OpenSpec.upto detectMoreSpec)) detectMoreUptoCard
end Rows
end Go.Proofs.YtkjbpkggcddnhaaDoor
