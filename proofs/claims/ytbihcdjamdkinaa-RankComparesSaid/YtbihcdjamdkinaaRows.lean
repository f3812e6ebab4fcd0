/-
  No cell of these rows narrows 'for every input' (looked for: loops, veiled, ifaces, maps, wideKeys, modest, calm, conditions, laid).
  DERIVED. THE GIVEN ROWS OF THIS SEAT. 6 by the template 'for every input the law returns true; each argument reads behind the call as it read before'; 0 by the template 'total and deterministic' (their statements: YtbihcdjamdkinaaTotals.lean).
  GIVEN WITH THE SEED: the statements are not yours to turn. If you find one false, say at which input.
  Laid BY PROGRAM, IN A SANDBOX (cutbox-rows.mjs): the forced cells as the released guide's own fill.sh prints them over the translation 5cf19ca4dfacc943… (all of the seat's roots in one cut). By AI agents, Wed Nov 11 2026. No macro, syntax, notation, axiom, sorry.
-/
import Derived.Test.YtbihcdjamdkinaaChecked
import GoSem.Claim
import GoSem.ClaimJoined
import GoSem.ClaimMapViews
import Derived.JoinedTies
import Derived.KernelRfl
namespace Go.Proofs.Ytbihcdjamdkinaa
/- THE CELL 'sum', in the pinned program and in every row, IS THE sha256 OF THE DUMP (.gsa) THAT YtbihcdjamdkinaaProg.lean LOADS. Nothing in Lean hashes anything: it is a label: what it is worth is what the hold of that sum in a sandbox is worth. -/
noncomputable def Try.pinned : Pinned := { name := "ytbihcdjamdkinaa", sum := "5cf19ca4dfacc94355722a8ae875b71ba8b1b4cafa72f06e360ff6e38ba90766", checked := Try.checked }
namespace Rows
def none {H : Type} : Left H := { results := [], args := [] }

/-- 'keelsonlaw14.RankCompares': WHATEVER THE INPUT: true; the input reads as it did. -/
def rankComparesSpec : ChangeSpec := { name := "rankCompares", fn := fun _ => fun
  | [d1, d2, d3] => { results := [.lit (.bool true)], args := [d1, d2, d3] }
  | _ => none }
def rankComparesRow : OpenClaim := { program := "ytbihcdjamdkinaa", sum := "5cf19ca4dfacc94355722a8ae875b71ba8b1b4cafa72f06e360ff6e38ba90766", func := "keelson/keelsonlaw14.RankCompares", spec := "rankCompares", inPlace := ["math.Float64frombits"], unfollowed := true, recurses := true, apart := false }
def RankComparesSaid : Prop := rankComparesRow.holds Try.pinned (OpenSpec.ofChange rankComparesSpec)

/-- ITS FALSE NEIGHBOUR: 'it returns false'. Refute it at one input. -/
def rankComparesWrong : ChangeSpec := { name := "rankCompares", fn := fun _ => fun
  | [d1, d2, d3] => { results := [.lit (.bool false)], args := [d1, d2, d3] }
  | _ => none }
def RankComparesWrongFalsely : Prop := rankComparesRow.holds Try.pinned (OpenSpec.ofChange rankComparesWrong)

/-- 'keelsonlaw14.RankOrders': WHATEVER THE INPUT: true; the input reads as it did. -/
def rankOrdersSpec : ChangeSpec := { name := "rankOrders", fn := fun _ => fun
  | [d1, d2, d3] => { results := [.lit (.bool true)], args := [d1, d2, d3] }
  | _ => none }
def rankOrdersRow : OpenClaim := { program := "ytbihcdjamdkinaa", sum := "5cf19ca4dfacc94355722a8ae875b71ba8b1b4cafa72f06e360ff6e38ba90766", func := "keelson/keelsonlaw14.RankOrders", spec := "rankOrders", inPlace := ["math.Float64frombits"], unfollowed := true, recurses := true, apart := false }
def RankOrdersSaid : Prop := rankOrdersRow.holds Try.pinned (OpenSpec.ofChange rankOrdersSpec)

/-- ITS FALSE NEIGHBOUR: 'it returns false'. Refute it at one input. -/
def rankOrdersWrong : ChangeSpec := { name := "rankOrders", fn := fun _ => fun
  | [d1, d2, d3] => { results := [.lit (.bool false)], args := [d1, d2, d3] }
  | _ => none }
def RankOrdersWrongFalsely : Prop := rankOrdersRow.holds Try.pinned (OpenSpec.ofChange rankOrdersWrong)

/-- 'keelsonlaw14.RankBounds': WHATEVER THE INPUT: true; the input reads as it did. -/
def rankBoundsSpec : ChangeSpec := { name := "rankBounds", fn := fun _ => fun
  | [d1, d2, d3, d4] => { results := [.lit (.bool true)], args := [d1, d2, d3, d4] }
  | _ => none }
def rankBoundsRow : OpenClaim := { program := "ytbihcdjamdkinaa", sum := "5cf19ca4dfacc94355722a8ae875b71ba8b1b4cafa72f06e360ff6e38ba90766", func := "keelson/keelsonlaw14.RankBounds", spec := "rankBounds", inPlace := ["math.Float64frombits"], unfollowed := true, recurses := true, apart := false }
def RankBoundsSaid : Prop := rankBoundsRow.holds Try.pinned (OpenSpec.ofChange rankBoundsSpec)

/-- ITS FALSE NEIGHBOUR: 'it returns false'. Refute it at one input. -/
def rankBoundsWrong : ChangeSpec := { name := "rankBounds", fn := fun _ => fun
  | [d1, d2, d3, d4] => { results := [.lit (.bool false)], args := [d1, d2, d3, d4] }
  | _ => none }
def RankBoundsWrongFalsely : Prop := rankBoundsRow.holds Try.pinned (OpenSpec.ofChange rankBoundsWrong)

/-- 'keelsonlaw14.RankPuts': WHATEVER THE INPUT: true; the input reads as it did. -/
def rankPutsSpec : ChangeSpec := { name := "rankPuts", fn := fun _ => fun
  | [d1, d2, d3] => { results := [.lit (.bool true)], args := [d1, d2, d3] }
  | _ => none }
def rankPutsRow : OpenClaim := { program := "ytbihcdjamdkinaa", sum := "5cf19ca4dfacc94355722a8ae875b71ba8b1b4cafa72f06e360ff6e38ba90766", func := "keelson/keelsonlaw14.RankPuts", spec := "rankPuts", inPlace := ["math.Float64frombits"], unfollowed := true, recurses := true, apart := false }
def RankPutsSaid : Prop := rankPutsRow.holds Try.pinned (OpenSpec.ofChange rankPutsSpec)

/-- ITS FALSE NEIGHBOUR: 'it returns false'. Refute it at one input. -/
def rankPutsWrong : ChangeSpec := { name := "rankPuts", fn := fun _ => fun
  | [d1, d2, d3] => { results := [.lit (.bool false)], args := [d1, d2, d3] }
  | _ => none }
def RankPutsWrongFalsely : Prop := rankPutsRow.holds Try.pinned (OpenSpec.ofChange rankPutsWrong)

/-- 'keelsonlaw14.RankPlays': WHATEVER THE INPUT: true; the input reads as it did. -/
def rankPlaysSpec : ChangeSpec := { name := "rankPlays", fn := fun _ => fun
  | [d1, d2, d3] => { results := [.lit (.bool true)], args := [d1, d2, d3] }
  | _ => none }
def rankPlaysRow : OpenClaim := { program := "ytbihcdjamdkinaa", sum := "5cf19ca4dfacc94355722a8ae875b71ba8b1b4cafa72f06e360ff6e38ba90766", func := "keelson/keelsonlaw14.RankPlays", spec := "rankPlays", inPlace := ["math.Float64frombits"], unfollowed := true, recurses := true, apart := false }
def RankPlaysSaid : Prop := rankPlaysRow.holds Try.pinned (OpenSpec.ofChange rankPlaysSpec)

/-- ITS FALSE NEIGHBOUR: 'it returns false'. Refute it at one input. -/
def rankPlaysWrong : ChangeSpec := { name := "rankPlays", fn := fun _ => fun
  | [d1, d2, d3] => { results := [.lit (.bool false)], args := [d1, d2, d3] }
  | _ => none }
def RankPlaysWrongFalsely : Prop := rankPlaysRow.holds Try.pinned (OpenSpec.ofChange rankPlaysWrong)

/-- 'keelsonlaw14.RankTakes': WHATEVER THE INPUT: true; the input reads as it did. -/
def rankTakesSpec : ChangeSpec := { name := "rankTakes", fn := fun _ => fun
  | [d1, d2] => { results := [.lit (.bool true)], args := [d1, d2] }
  | _ => none }
def rankTakesRow : OpenClaim := { program := "ytbihcdjamdkinaa", sum := "5cf19ca4dfacc94355722a8ae875b71ba8b1b4cafa72f06e360ff6e38ba90766", func := "keelson/keelsonlaw14.RankTakes", spec := "rankTakes", inPlace := ["math.Float64frombits"], unfollowed := true, recurses := true, apart := false }
def RankTakesSaid : Prop := rankTakesRow.holds Try.pinned (OpenSpec.ofChange rankTakesSpec)

/-- ITS FALSE NEIGHBOUR: 'it returns false'. Refute it at one input. -/
def rankTakesWrong : ChangeSpec := { name := "rankTakes", fn := fun _ => fun
  | [d1, d2] => { results := [.lit (.bool false)], args := [d1, d2] }
  | _ => none }
def RankTakesWrongFalsely : Prop := rankTakesRow.holds Try.pinned (OpenSpec.ofChange rankTakesWrong)

/- THE SECOND FORM. 'bulk': how many values and letters a reading holds, each counted each time it is reached (what is shared counts as often as it is met; a slice's spare places count too). A statement '..UptoSaid' is the law's where the arguments, and the package variables that the reading takes, are together of bulk at most 1048576: NARROWER than '..Said'. Prove '..Said' where nothing that the law and all that it calls make is longer than what came in: it says more and counts as full. Else prove '..UptoSaid'. A law counts once. -/
mutual
def uptoBulk {H : Type} : DataW H → Nat
  | .lit (.string bytes) => bytes.length + 1
  | .lit _ => 1
  | .nil => 1
  | .ptr d => uptoBulk d + 1
  | .slice elems spare => uptoBulkAll elems + uptoBulkAll spare + 1
  | .agg parts => uptoBulkAll parts + 1
  | .iface _ d => uptoBulk d + 1
  | .map entries => uptoBulkEntries entries + 1
  | .held _ => 1
def uptoBulkAll {H : Type} : List (DataW H) → Nat
  | [] => 0
  | d :: r => uptoBulk d + uptoBulkAll r
def uptoBulkEntries {H : Type} : List (Lit × DataW H) → Nat
  | [] => 0
  | x :: r => uptoBulkEntry x + uptoBulkEntries r
def uptoBulkEntry {H : Type} : Lit × DataW H → Nat
  | (.string bytes, d) => bytes.length + uptoBulk d + 1
  | (_, d) => uptoBulk d + 1
 end
def uptoSmall : (H : Type) → List (DataW H) → Bool := fun _ ds => decide (uptoBulkAll ds ≤ 1048576)
def OpenSpec.upto (s : _root_.Go.ChangeSpec) : _root_.Go.OpenSpec := { _root_.Go.OpenSpec.ofChange s with cond := some uptoSmall }

/-- 'keelsonlaw14.RankCompares', WHERE WHAT IT READS IS OF BULK AT MOST 1048576: true; the input reads as it did. -/
def rankComparesUptoRow : OpenClaim := { program := "ytbihcdjamdkinaa", sum := "5cf19ca4dfacc94355722a8ae875b71ba8b1b4cafa72f06e360ff6e38ba90766", func := "keelson/keelsonlaw14.RankCompares", spec := "rankCompares", inPlace := ["math.Float64frombits"], unfollowed := true, recurses := true, apart := false, narrowed := true }
def RankComparesUptoSaid : Prop := rankComparesUptoRow.holds Try.pinned (OpenSpec.upto rankComparesSpec)

/-- 'keelsonlaw14.RankOrders', WHERE WHAT IT READS IS OF BULK AT MOST 1048576: true; the input reads as it did. -/
def rankOrdersUptoRow : OpenClaim := { program := "ytbihcdjamdkinaa", sum := "5cf19ca4dfacc94355722a8ae875b71ba8b1b4cafa72f06e360ff6e38ba90766", func := "keelson/keelsonlaw14.RankOrders", spec := "rankOrders", inPlace := ["math.Float64frombits"], unfollowed := true, recurses := true, apart := false, narrowed := true }
def RankOrdersUptoSaid : Prop := rankOrdersUptoRow.holds Try.pinned (OpenSpec.upto rankOrdersSpec)

/-- 'keelsonlaw14.RankBounds', WHERE WHAT IT READS IS OF BULK AT MOST 1048576: true; the input reads as it did. -/
def rankBoundsUptoRow : OpenClaim := { program := "ytbihcdjamdkinaa", sum := "5cf19ca4dfacc94355722a8ae875b71ba8b1b4cafa72f06e360ff6e38ba90766", func := "keelson/keelsonlaw14.RankBounds", spec := "rankBounds", inPlace := ["math.Float64frombits"], unfollowed := true, recurses := true, apart := false, narrowed := true }
def RankBoundsUptoSaid : Prop := rankBoundsUptoRow.holds Try.pinned (OpenSpec.upto rankBoundsSpec)

/-- 'keelsonlaw14.RankPuts', WHERE WHAT IT READS IS OF BULK AT MOST 1048576: true; the input reads as it did. -/
def rankPutsUptoRow : OpenClaim := { program := "ytbihcdjamdkinaa", sum := "5cf19ca4dfacc94355722a8ae875b71ba8b1b4cafa72f06e360ff6e38ba90766", func := "keelson/keelsonlaw14.RankPuts", spec := "rankPuts", inPlace := ["math.Float64frombits"], unfollowed := true, recurses := true, apart := false, narrowed := true }
def RankPutsUptoSaid : Prop := rankPutsUptoRow.holds Try.pinned (OpenSpec.upto rankPutsSpec)

/-- 'keelsonlaw14.RankPlays', WHERE WHAT IT READS IS OF BULK AT MOST 1048576: true; the input reads as it did. -/
def rankPlaysUptoRow : OpenClaim := { program := "ytbihcdjamdkinaa", sum := "5cf19ca4dfacc94355722a8ae875b71ba8b1b4cafa72f06e360ff6e38ba90766", func := "keelson/keelsonlaw14.RankPlays", spec := "rankPlays", inPlace := ["math.Float64frombits"], unfollowed := true, recurses := true, apart := false, narrowed := true }
def RankPlaysUptoSaid : Prop := rankPlaysUptoRow.holds Try.pinned (OpenSpec.upto rankPlaysSpec)

/-- 'keelsonlaw14.RankTakes', WHERE WHAT IT READS IS OF BULK AT MOST 1048576: true; the input reads as it did. -/
def rankTakesUptoRow : OpenClaim := { program := "ytbihcdjamdkinaa", sum := "5cf19ca4dfacc94355722a8ae875b71ba8b1b4cafa72f06e360ff6e38ba90766", func := "keelson/keelsonlaw14.RankTakes", spec := "rankTakes", inPlace := ["math.Float64frombits"], unfollowed := true, recurses := true, apart := false, narrowed := true }
def RankTakesUptoSaid : Prop := rankTakesUptoRow.holds Try.pinned (OpenSpec.upto rankTakesSpec)

end Rows
end Go.Proofs.Ytbihcdjamdkinaa
