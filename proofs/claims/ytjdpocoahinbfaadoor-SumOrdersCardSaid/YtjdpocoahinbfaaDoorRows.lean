/-
  NARROWER THAN 'FOR EVERY INPUT', by the rows' own cells (each row's printed sentence says how): SumAdds: laid · SumTotals: laid · SumTurns: laid · SumOrders: laid · SumParts: laid · SumDots: laid · SumCosts: laid.
  DERIVED. THE GIVEN ROWS OF THIS SEAT. 7 by the template 'for every input the law returns true; each argument reads behind the call as it read before'; 0 by the template 'total and deterministic' (their statements: YtjdpocoahinbfaaDoorTotals.lean).
  GIVEN WITH THE SEED: the statements are not yours to turn. If you find one false, say at which input.
  Laid BY PROGRAM, IN A SANDBOX (cutbox-rows.mjs): the forced cells as the released guide's own fill.sh prints them over the translation 8cf3270895bfb120… (all of the seat's roots in one cut). By AI agents, Wed Nov 11 2026. No macro, syntax, notation, axiom, sorry.
-/
import Derived.Test.YtjdpocoahinbfaaDoorChecked
import GoSem.Claim
import GoSem.ClaimJoined
import GoSem.ClaimMapViews
import Derived.JoinedTies
import Derived.KernelRfl
namespace Go.Proofs.YtjdpocoahinbfaaDoor
/- THE CELL 'sum', in the pinned program and in every row, IS THE sha256 OF THE DUMP (.gsa) THAT YtjdpocoahinbfaaDoorProg.lean LOADS. Nothing in Lean hashes anything: it is a label: what it is worth is what the hold of that sum in a sandbox is worth. -/
noncomputable def Tryd.pinned : Pinned := { name := "ytjdpocoahinbfaadoor", sum := "8cf3270895bfb120f13038688c0f7093ef44139b199ebb48916dbc7052f73604", checked := Tryd.checked }
namespace Rows
def none {H : Type} : Left H := { results := [], args := [] }

/- WHAT THE LISTED PACKAGE-LEVEL VARIABLES READ AS WHEN THE CALL BEGINS. Each datum BY PROGRAM (the guide's laid-datum.mjs) off the statement by which the dump's own 'gosem.cut.vars' lays the variable. In a bare row this is a premise. The card (YtjdpocoahinbfaaDoorCards.lean) ties it to the program's text. -/
def laid_keelson_sum_errOver {H : Type} : DataW H := .iface "*errors.errorString" (.ptr (.agg [.lit (.string [111, 118, 101, 114])]))

/-- 'keelsonlaw1.SumAdds': WHATEVER THE INPUT: true; the input reads as it did. -/
def sumAddsSpec : ChangeSpec := { name := "sumAdds", fn := fun _ => fun
  | [d1, d2] => { results := [.lit (.bool true)], args := [d1, d2] }
  | _ => none }
def sumAddsRow : OpenClaim := { program := "ytjdpocoahinbfaadoor", sum := "8cf3270895bfb120f13038688c0f7093ef44139b199ebb48916dbc7052f73604", func := "keelson/keelsonlaw1.SumAdds", spec := "sumAdds", inPlace := ["internal/reflectlite.TypeOf"], unfollowed := true, recurses := true, named := ["keelson/sum.errOver"], apart := false, laid := [("keelson/sum.errOver", laid_keelson_sum_errOver)] }
def SumAddsSaid : Prop := sumAddsRow.holds Tryd.pinned (OpenSpec.ofChange sumAddsSpec)

/-- ITS FALSE NEIGHBOUR: 'it returns false'. Refute it at one input. -/
def sumAddsWrong : ChangeSpec := { name := "sumAdds", fn := fun _ => fun
  | [d1, d2] => { results := [.lit (.bool false)], args := [d1, d2] }
  | _ => none }
def SumAddsWrongFalsely : Prop := sumAddsRow.holds Tryd.pinned (OpenSpec.ofChange sumAddsWrong)

/-- 'keelsonlaw1.SumTotals': WHATEVER THE INPUT: true; the input reads as it did. -/
def sumTotalsSpec : ChangeSpec := { name := "sumTotals", fn := fun _ => fun
  | [d1, d2] => { results := [.lit (.bool true)], args := [d1, d2] }
  | _ => none }
def sumTotalsRow : OpenClaim := { program := "ytjdpocoahinbfaadoor", sum := "8cf3270895bfb120f13038688c0f7093ef44139b199ebb48916dbc7052f73604", func := "keelson/keelsonlaw1.SumTotals", spec := "sumTotals", inPlace := ["internal/reflectlite.TypeOf"], unfollowed := true, recurses := true, named := ["keelson/sum.errOver"], apart := false, laid := [("keelson/sum.errOver", laid_keelson_sum_errOver)] }
def SumTotalsSaid : Prop := sumTotalsRow.holds Tryd.pinned (OpenSpec.ofChange sumTotalsSpec)

/-- ITS FALSE NEIGHBOUR: 'it returns false'. Refute it at one input. -/
def sumTotalsWrong : ChangeSpec := { name := "sumTotals", fn := fun _ => fun
  | [d1, d2] => { results := [.lit (.bool false)], args := [d1, d2] }
  | _ => none }
def SumTotalsWrongFalsely : Prop := sumTotalsRow.holds Tryd.pinned (OpenSpec.ofChange sumTotalsWrong)

/-- 'keelsonlaw1.SumTurns': WHATEVER THE INPUT: true; the input reads as it did. -/
def sumTurnsSpec : ChangeSpec := { name := "sumTurns", fn := fun _ => fun
  | [d1, d2] => { results := [.lit (.bool true)], args := [d1, d2] }
  | _ => none }
def sumTurnsRow : OpenClaim := { program := "ytjdpocoahinbfaadoor", sum := "8cf3270895bfb120f13038688c0f7093ef44139b199ebb48916dbc7052f73604", func := "keelson/keelsonlaw1.SumTurns", spec := "sumTurns", inPlace := ["internal/reflectlite.TypeOf"], unfollowed := true, recurses := true, named := ["keelson/sum.errOver"], apart := false, laid := [("keelson/sum.errOver", laid_keelson_sum_errOver)] }
def SumTurnsSaid : Prop := sumTurnsRow.holds Tryd.pinned (OpenSpec.ofChange sumTurnsSpec)

/-- ITS FALSE NEIGHBOUR: 'it returns false'. Refute it at one input. -/
def sumTurnsWrong : ChangeSpec := { name := "sumTurns", fn := fun _ => fun
  | [d1, d2] => { results := [.lit (.bool false)], args := [d1, d2] }
  | _ => none }
def SumTurnsWrongFalsely : Prop := sumTurnsRow.holds Tryd.pinned (OpenSpec.ofChange sumTurnsWrong)

/-- 'keelsonlaw1.SumOrders': WHATEVER THE INPUT: true; the input reads as it did. -/
def sumOrdersSpec : ChangeSpec := { name := "sumOrders", fn := fun _ => fun
  | [d1, d2, d3] => { results := [.lit (.bool true)], args := [d1, d2, d3] }
  | _ => none }
def sumOrdersRow : OpenClaim := { program := "ytjdpocoahinbfaadoor", sum := "8cf3270895bfb120f13038688c0f7093ef44139b199ebb48916dbc7052f73604", func := "keelson/keelsonlaw1.SumOrders", spec := "sumOrders", inPlace := ["internal/reflectlite.TypeOf"], unfollowed := true, recurses := true, named := ["keelson/sum.errOver"], apart := false, laid := [("keelson/sum.errOver", laid_keelson_sum_errOver)] }
def SumOrdersSaid : Prop := sumOrdersRow.holds Tryd.pinned (OpenSpec.ofChange sumOrdersSpec)

/-- ITS FALSE NEIGHBOUR: 'it returns false'. Refute it at one input. -/
def sumOrdersWrong : ChangeSpec := { name := "sumOrders", fn := fun _ => fun
  | [d1, d2, d3] => { results := [.lit (.bool false)], args := [d1, d2, d3] }
  | _ => none }
def SumOrdersWrongFalsely : Prop := sumOrdersRow.holds Tryd.pinned (OpenSpec.ofChange sumOrdersWrong)

/-- 'keelsonlaw1.SumParts': WHATEVER THE INPUT: true; the input reads as it did. -/
def sumPartsSpec : ChangeSpec := { name := "sumParts", fn := fun _ => fun
  | [d1, d2] => { results := [.lit (.bool true)], args := [d1, d2] }
  | _ => none }
def sumPartsRow : OpenClaim := { program := "ytjdpocoahinbfaadoor", sum := "8cf3270895bfb120f13038688c0f7093ef44139b199ebb48916dbc7052f73604", func := "keelson/keelsonlaw1.SumParts", spec := "sumParts", inPlace := ["internal/reflectlite.TypeOf"], unfollowed := true, recurses := true, named := ["keelson/sum.errOver"], apart := false, laid := [("keelson/sum.errOver", laid_keelson_sum_errOver)] }
def SumPartsSaid : Prop := sumPartsRow.holds Tryd.pinned (OpenSpec.ofChange sumPartsSpec)

/-- ITS FALSE NEIGHBOUR: 'it returns false'. Refute it at one input. -/
def sumPartsWrong : ChangeSpec := { name := "sumParts", fn := fun _ => fun
  | [d1, d2] => { results := [.lit (.bool false)], args := [d1, d2] }
  | _ => none }
def SumPartsWrongFalsely : Prop := sumPartsRow.holds Tryd.pinned (OpenSpec.ofChange sumPartsWrong)

/-- 'keelsonlaw1.SumDots': WHATEVER THE INPUT: true; the input reads as it did. -/
def sumDotsSpec : ChangeSpec := { name := "sumDots", fn := fun _ => fun
  | [d1, d2, d3] => { results := [.lit (.bool true)], args := [d1, d2, d3] }
  | _ => none }
def sumDotsRow : OpenClaim := { program := "ytjdpocoahinbfaadoor", sum := "8cf3270895bfb120f13038688c0f7093ef44139b199ebb48916dbc7052f73604", func := "keelson/keelsonlaw1.SumDots", spec := "sumDots", inPlace := ["internal/reflectlite.TypeOf"], unfollowed := true, recurses := true, named := ["keelson/sum.errOver"], apart := false, laid := [("keelson/sum.errOver", laid_keelson_sum_errOver)] }
def SumDotsSaid : Prop := sumDotsRow.holds Tryd.pinned (OpenSpec.ofChange sumDotsSpec)

/-- ITS FALSE NEIGHBOUR: 'it returns false'. Refute it at one input. -/
def sumDotsWrong : ChangeSpec := { name := "sumDots", fn := fun _ => fun
  | [d1, d2, d3] => { results := [.lit (.bool false)], args := [d1, d2, d3] }
  | _ => none }
def SumDotsWrongFalsely : Prop := sumDotsRow.holds Tryd.pinned (OpenSpec.ofChange sumDotsWrong)

/-- 'keelsonlaw1.SumCosts': WHATEVER THE INPUT: true; the input reads as it did. -/
def sumCostsSpec : ChangeSpec := { name := "sumCosts", fn := fun _ => fun
  | [d1, d2, d3] => { results := [.lit (.bool true)], args := [d1, d2, d3] }
  | _ => none }
def sumCostsRow : OpenClaim := { program := "ytjdpocoahinbfaadoor", sum := "8cf3270895bfb120f13038688c0f7093ef44139b199ebb48916dbc7052f73604", func := "keelson/keelsonlaw1.SumCosts", spec := "sumCosts", inPlace := ["internal/reflectlite.TypeOf"], unfollowed := true, recurses := true, named := ["keelson/sum.errOver"], apart := false, laid := [("keelson/sum.errOver", laid_keelson_sum_errOver)] }
def SumCostsSaid : Prop := sumCostsRow.holds Tryd.pinned (OpenSpec.ofChange sumCostsSpec)

/-- ITS FALSE NEIGHBOUR: 'it returns false'. Refute it at one input. -/
def sumCostsWrong : ChangeSpec := { name := "sumCosts", fn := fun _ => fun
  | [d1, d2, d3] => { results := [.lit (.bool false)], args := [d1, d2, d3] }
  | _ => none }
def SumCostsWrongFalsely : Prop := sumCostsRow.holds Tryd.pinned (OpenSpec.ofChange sumCostsWrong)

/- THE SECOND FORM. 'bulk': how many values and letters a reading holds, each counted each time it is reached (what is shared counts as often as it is met; a slice's spare places count too). A statement '..UptoSaid' is the law's where the arguments, and the package variables that the reading takes, are together of bulk at most 1048576: NARROWER than '..Said'. Prove '..Said' where nothing that the law and all that it calls make is longer than what came in: it says more and counts as full. Else prove '..UptoSaid'. A law counts once. -/
mutual
def uptoBulk {H : Type} : DataW H → Nat
  | .lit (.string bytes) => bytes.length + 1
  | .lit _ => 1
  | .nil => 1
  | .ptr d => uptoBulk d + 1
  | .slice elems spare => uptoBulkAll elems + uptoBulkAll spare + 1
  | .agg parts => uptoBulkAll parts + 1
  | .iface _ d => uptoBulk d + 1
  | .map entries => uptoBulkEntries entries + 1
  | .held _ => 1
def uptoBulkAll {H : Type} : List (DataW H) → Nat
  | [] => 0
  | d :: r => uptoBulk d + uptoBulkAll r
def uptoBulkEntries {H : Type} : List (Lit × DataW H) → Nat
  | [] => 0
  | x :: r => uptoBulkEntry x + uptoBulkEntries r
def uptoBulkEntry {H : Type} : Lit × DataW H → Nat
  | (.string bytes, d) => bytes.length + uptoBulk d + 1
  | (_, d) => uptoBulk d + 1
 end
def uptoSmall : (H : Type) → List (DataW H) → Bool := fun _ ds => decide (uptoBulkAll ds ≤ 1048576)
def OpenSpec.upto (s : _root_.Go.ChangeSpec) : _root_.Go.OpenSpec := { _root_.Go.OpenSpec.ofChange s with cond := some uptoSmall }

/-- 'keelsonlaw1.SumAdds', WHERE WHAT IT READS IS OF BULK AT MOST 1048576: true; the input reads as it did. -/
def sumAddsUptoRow : OpenClaim := { program := "ytjdpocoahinbfaadoor", sum := "8cf3270895bfb120f13038688c0f7093ef44139b199ebb48916dbc7052f73604", func := "keelson/keelsonlaw1.SumAdds", spec := "sumAdds", inPlace := ["internal/reflectlite.TypeOf"], unfollowed := true, recurses := true, named := ["keelson/sum.errOver"], apart := false, laid := [("keelson/sum.errOver", laid_keelson_sum_errOver)], narrowed := true }
def SumAddsUptoSaid : Prop := sumAddsUptoRow.holds Tryd.pinned (OpenSpec.upto sumAddsSpec)

/-- 'keelsonlaw1.SumTotals', WHERE WHAT IT READS IS OF BULK AT MOST 1048576: true; the input reads as it did. -/
def sumTotalsUptoRow : OpenClaim := { program := "ytjdpocoahinbfaadoor", sum := "8cf3270895bfb120f13038688c0f7093ef44139b199ebb48916dbc7052f73604", func := "keelson/keelsonlaw1.SumTotals", spec := "sumTotals", inPlace := ["internal/reflectlite.TypeOf"], unfollowed := true, recurses := true, named := ["keelson/sum.errOver"], apart := false, laid := [("keelson/sum.errOver", laid_keelson_sum_errOver)], narrowed := true }
def SumTotalsUptoSaid : Prop := sumTotalsUptoRow.holds Tryd.pinned (OpenSpec.upto sumTotalsSpec)

/-- 'keelsonlaw1.SumTurns', WHERE WHAT IT READS IS OF BULK AT MOST 1048576: true; the input reads as it did. -/
def sumTurnsUptoRow : OpenClaim := { program := "ytjdpocoahinbfaadoor", sum := "8cf3270895bfb120f13038688c0f7093ef44139b199ebb48916dbc7052f73604", func := "keelson/keelsonlaw1.SumTurns", spec := "sumTurns", inPlace := ["internal/reflectlite.TypeOf"], unfollowed := true, recurses := true, named := ["keelson/sum.errOver"], apart := false, laid := [("keelson/sum.errOver", laid_keelson_sum_errOver)], narrowed := true }
def SumTurnsUptoSaid : Prop := sumTurnsUptoRow.holds Tryd.pinned (OpenSpec.upto sumTurnsSpec)

/-- 'keelsonlaw1.SumOrders', WHERE WHAT IT READS IS OF BULK AT MOST 1048576: true; the input reads as it did. -/
def sumOrdersUptoRow : OpenClaim := { program := "ytjdpocoahinbfaadoor", sum := "8cf3270895bfb120f13038688c0f7093ef44139b199ebb48916dbc7052f73604", func := "keelson/keelsonlaw1.SumOrders", spec := "sumOrders", inPlace := ["internal/reflectlite.TypeOf"], unfollowed := true, recurses := true, named := ["keelson/sum.errOver"], apart := false, laid := [("keelson/sum.errOver", laid_keelson_sum_errOver)], narrowed := true }
def SumOrdersUptoSaid : Prop := sumOrdersUptoRow.holds Tryd.pinned (OpenSpec.upto sumOrdersSpec)

/-- 'keelsonlaw1.SumParts', WHERE WHAT IT READS IS OF BULK AT MOST 1048576: true; the input reads as it did. -/
def sumPartsUptoRow : OpenClaim := { program := "ytjdpocoahinbfaadoor", sum := "8cf3270895bfb120f13038688c0f7093ef44139b199ebb48916dbc7052f73604", func := "keelson/keelsonlaw1.SumParts", spec := "sumParts", inPlace := ["internal/reflectlite.TypeOf"], unfollowed := true, recurses := true, named := ["keelson/sum.errOver"], apart := false, laid := [("keelson/sum.errOver", laid_keelson_sum_errOver)], narrowed := true }
def SumPartsUptoSaid : Prop := sumPartsUptoRow.holds Tryd.pinned (OpenSpec.upto sumPartsSpec)

/-- 'keelsonlaw1.SumDots', WHERE WHAT IT READS IS OF BULK AT MOST 1048576: true; the input reads as it did. -/
def sumDotsUptoRow : OpenClaim := { program := "ytjdpocoahinbfaadoor", sum := "8cf3270895bfb120f13038688c0f7093ef44139b199ebb48916dbc7052f73604", func := "keelson/keelsonlaw1.SumDots", spec := "sumDots", inPlace := ["internal/reflectlite.TypeOf"], unfollowed := true, recurses := true, named := ["keelson/sum.errOver"], apart := false, laid := [("keelson/sum.errOver", laid_keelson_sum_errOver)], narrowed := true }
def SumDotsUptoSaid : Prop := sumDotsUptoRow.holds Tryd.pinned (OpenSpec.upto sumDotsSpec)

/-- 'keelsonlaw1.SumCosts', WHERE WHAT IT READS IS OF BULK AT MOST 1048576: true; the input reads as it did. -/
def sumCostsUptoRow : OpenClaim := { program := "ytjdpocoahinbfaadoor", sum := "8cf3270895bfb120f13038688c0f7093ef44139b199ebb48916dbc7052f73604", func := "keelson/keelsonlaw1.SumCosts", spec := "sumCosts", inPlace := ["internal/reflectlite.TypeOf"], unfollowed := true, recurses := true, named := ["keelson/sum.errOver"], apart := false, laid := [("keelson/sum.errOver", laid_keelson_sum_errOver)], narrowed := true }
def SumCostsUptoSaid : Prop := sumCostsUptoRow.holds Tryd.pinned (OpenSpec.upto sumCostsSpec)

end Rows
end Go.Proofs.YtjdpocoahinbfaaDoor
