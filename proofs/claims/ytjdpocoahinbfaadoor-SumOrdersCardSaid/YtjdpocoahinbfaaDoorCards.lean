/-
  DERIVED. GIVEN WITH THE SEED: THE CARDS: each row of YtjdpocoahinbfaaDoorRows.lean that lists a variable, with what it lists TIED to the program's text (the seventh form; the later family's looks); each row that meets fmt, with fmt's text TOLD by the authors' own Lean function (tested against real Go, not proved from fmt's source: count such statements apart). THE CARD IS WHAT COUNTS. Prove the row's statement (the work); the ties are given (YtjdpocoahinbfaaDoorTie.lean); close each card by the builder's one call (the guide's Derived/Test/ToyasCard.lean, 'card_holds'). Laid BY PROGRAM, IN A SANDBOX (cutbox-door.mjs). By AI agents, Wed Nov 11 2026. No macro, syntax, notation, axiom, sorry.
-/
import Derived.Test.YtjdpocoahinbfaaDoorRows
import GoSem.ClaimSeven
namespace Go.Proofs.YtjdpocoahinbfaaDoor
namespace Rows

/-- THE TIED CARD OF 'keelsonlaw1.SumAdds'. -/
def sumAddsCard : Claim7 := { stood := { row := sumAddsRow, standIns := [], harness := (true, "41e86d2b3959335e434bee2d10945acb1c6b81c7b2fbee9a048b0ad6fe239a3f"), looks := true }, kinds := [], alts := [], laidByText := true, laidKinds := [.sentinel], laidTests := true, laidLooks := .later }
def SumAddsCardSaid : Prop := Claim7.holds Tryd.pinned (.plain (OpenSpec.ofChange sumAddsSpec)) sumAddsCard

/-- THE TIED CARD OF 'keelsonlaw1.SumTotals'. -/
def sumTotalsCard : Claim7 := { stood := { row := sumTotalsRow, standIns := [], harness := (true, "41e86d2b3959335e434bee2d10945acb1c6b81c7b2fbee9a048b0ad6fe239a3f"), looks := true }, kinds := [], alts := [], laidByText := true, laidKinds := [.sentinel], laidTests := true, laidLooks := .later }
def SumTotalsCardSaid : Prop := Claim7.holds Tryd.pinned (.plain (OpenSpec.ofChange sumTotalsSpec)) sumTotalsCard

/-- THE TIED CARD OF 'keelsonlaw1.SumTurns'. -/
def sumTurnsCard : Claim7 := { stood := { row := sumTurnsRow, standIns := [], harness := (true, "41e86d2b3959335e434bee2d10945acb1c6b81c7b2fbee9a048b0ad6fe239a3f"), looks := true }, kinds := [], alts := [], laidByText := true, laidKinds := [.sentinel], laidTests := true, laidLooks := .later }
def SumTurnsCardSaid : Prop := Claim7.holds Tryd.pinned (.plain (OpenSpec.ofChange sumTurnsSpec)) sumTurnsCard

/-- THE TIED CARD OF 'keelsonlaw1.SumOrders'. -/
def sumOrdersCard : Claim7 := { stood := { row := sumOrdersRow, standIns := [], harness := (true, "41e86d2b3959335e434bee2d10945acb1c6b81c7b2fbee9a048b0ad6fe239a3f"), looks := true }, kinds := [], alts := [], laidByText := true, laidKinds := [.sentinel], laidTests := true, laidLooks := .later }
def SumOrdersCardSaid : Prop := Claim7.holds Tryd.pinned (.plain (OpenSpec.ofChange sumOrdersSpec)) sumOrdersCard

/-- THE TIED CARD OF 'keelsonlaw1.SumParts'. -/
def sumPartsCard : Claim7 := { stood := { row := sumPartsRow, standIns := [], harness := (true, "41e86d2b3959335e434bee2d10945acb1c6b81c7b2fbee9a048b0ad6fe239a3f"), looks := true }, kinds := [], alts := [], laidByText := true, laidKinds := [.sentinel], laidTests := true, laidLooks := .later }
def SumPartsCardSaid : Prop := Claim7.holds Tryd.pinned (.plain (OpenSpec.ofChange sumPartsSpec)) sumPartsCard

/-- THE TIED CARD OF 'keelsonlaw1.SumDots'. -/
def sumDotsCard : Claim7 := { stood := { row := sumDotsRow, standIns := [], harness := (true, "41e86d2b3959335e434bee2d10945acb1c6b81c7b2fbee9a048b0ad6fe239a3f"), looks := true }, kinds := [], alts := [], laidByText := true, laidKinds := [.sentinel], laidTests := true, laidLooks := .later }
def SumDotsCardSaid : Prop := Claim7.holds Tryd.pinned (.plain (OpenSpec.ofChange sumDotsSpec)) sumDotsCard

/-- THE TIED CARD OF 'keelsonlaw1.SumCosts'. -/
def sumCostsCard : Claim7 := { stood := { row := sumCostsRow, standIns := [], harness := (true, "41e86d2b3959335e434bee2d10945acb1c6b81c7b2fbee9a048b0ad6fe239a3f"), looks := true }, kinds := [], alts := [], laidByText := true, laidKinds := [.sentinel], laidTests := true, laidLooks := .later }
def SumCostsCardSaid : Prop := Claim7.holds Tryd.pinned (.plain (OpenSpec.ofChange sumCostsSpec)) sumCostsCard

/-- THE SECOND FORM's CARD OF 'keelsonlaw1.SumAdds'. -/
def sumAddsUptoCard : Claim7 := { stood := { row := sumAddsUptoRow, standIns := [], harness := (true, "41e86d2b3959335e434bee2d10945acb1c6b81c7b2fbee9a048b0ad6fe239a3f"), looks := true }, kinds := [], alts := [], laidByText := true, laidKinds := [.sentinel], laidTests := true, laidLooks := .later }
def SumAddsUptoCardSaid : Prop := Claim7.holds Tryd.pinned (.plain (OpenSpec.upto sumAddsSpec)) sumAddsUptoCard

/-- THE SECOND FORM's CARD OF 'keelsonlaw1.SumTotals'. -/
def sumTotalsUptoCard : Claim7 := { stood := { row := sumTotalsUptoRow, standIns := [], harness := (true, "41e86d2b3959335e434bee2d10945acb1c6b81c7b2fbee9a048b0ad6fe239a3f"), looks := true }, kinds := [], alts := [], laidByText := true, laidKinds := [.sentinel], laidTests := true, laidLooks := .later }
def SumTotalsUptoCardSaid : Prop := Claim7.holds Tryd.pinned (.plain (OpenSpec.upto sumTotalsSpec)) sumTotalsUptoCard

/-- THE SECOND FORM's CARD OF 'keelsonlaw1.SumTurns'. -/
def sumTurnsUptoCard : Claim7 := { stood := { row := sumTurnsUptoRow, standIns := [], harness := (true, "41e86d2b3959335e434bee2d10945acb1c6b81c7b2fbee9a048b0ad6fe239a3f"), looks := true }, kinds := [], alts := [], laidByText := true, laidKinds := [.sentinel], laidTests := true, laidLooks := .later }
def SumTurnsUptoCardSaid : Prop := Claim7.holds Tryd.pinned (.plain (OpenSpec.upto sumTurnsSpec)) sumTurnsUptoCard

/-- THE SECOND FORM's CARD OF 'keelsonlaw1.SumOrders'. -/
def sumOrdersUptoCard : Claim7 := { stood := { row := sumOrdersUptoRow, standIns := [], harness := (true, "41e86d2b3959335e434bee2d10945acb1c6b81c7b2fbee9a048b0ad6fe239a3f"), looks := true }, kinds := [], alts := [], laidByText := true, laidKinds := [.sentinel], laidTests := true, laidLooks := .later }
def SumOrdersUptoCardSaid : Prop := Claim7.holds Tryd.pinned (.plain (OpenSpec.upto sumOrdersSpec)) sumOrdersUptoCard

/-- THE SECOND FORM's CARD OF 'keelsonlaw1.SumParts'. -/
def sumPartsUptoCard : Claim7 := { stood := { row := sumPartsUptoRow, standIns := [], harness := (true, "41e86d2b3959335e434bee2d10945acb1c6b81c7b2fbee9a048b0ad6fe239a3f"), looks := true }, kinds := [], alts := [], laidByText := true, laidKinds := [.sentinel], laidTests := true, laidLooks := .later }
def SumPartsUptoCardSaid : Prop := Claim7.holds Tryd.pinned (.plain (OpenSpec.upto sumPartsSpec)) sumPartsUptoCard

/-- THE SECOND FORM's CARD OF 'keelsonlaw1.SumDots'. -/
def sumDotsUptoCard : Claim7 := { stood := { row := sumDotsUptoRow, standIns := [], harness := (true, "41e86d2b3959335e434bee2d10945acb1c6b81c7b2fbee9a048b0ad6fe239a3f"), looks := true }, kinds := [], alts := [], laidByText := true, laidKinds := [.sentinel], laidTests := true, laidLooks := .later }
def SumDotsUptoCardSaid : Prop := Claim7.holds Tryd.pinned (.plain (OpenSpec.upto sumDotsSpec)) sumDotsUptoCard

/-- THE SECOND FORM's CARD OF 'keelsonlaw1.SumCosts'. -/
def sumCostsUptoCard : Claim7 := { stood := { row := sumCostsUptoRow, standIns := [], harness := (true, "41e86d2b3959335e434bee2d10945acb1c6b81c7b2fbee9a048b0ad6fe239a3f"), looks := true }, kinds := [], alts := [], laidByText := true, laidKinds := [.sentinel], laidTests := true, laidLooks := .later }
def SumCostsUptoCardSaid : Prop := Claim7.holds Tryd.pinned (.plain (OpenSpec.upto sumCostsSpec)) sumCostsUptoCard
end Rows
end Go.Proofs.YtjdpocoahinbfaaDoor
