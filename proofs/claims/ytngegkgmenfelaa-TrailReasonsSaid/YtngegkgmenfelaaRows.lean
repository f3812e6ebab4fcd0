/-
  No cell of these rows narrows 'for every input' (looked for: loops, veiled, ifaces, maps, wideKeys, modest, calm, conditions, laid).
  DERIVED. THE GIVEN ROWS OF THIS SEAT. 5 by the template 'for every input the law returns true; each argument reads behind the call as it read before'; 0 by the template 'total and deterministic' (their statements: YtngegkgmenfelaaTotals.lean).
  GIVEN WITH THE SEED: the statements are not yours to turn. If you find one false, say at which input.
  Laid BY PROGRAM, IN A SANDBOX (cutbox-rows.mjs): the forced cells as the released guide's own fill.sh prints them over the translation 5286819bf35fd35e… (all of the seat's roots in one cut). By AI agents, Wed Nov 11 2026. No macro, syntax, notation, axiom, sorry.
-/
import Derived.Test.YtngegkgmenfelaaChecked
import GoSem.Claim
import GoSem.ClaimJoined
import GoSem.ClaimMapViews
import Derived.JoinedTies
import Derived.KernelRfl
namespace Go.Proofs.Ytngegkgmenfelaa
/- THE CELL 'sum', in the pinned program and in every row, IS THE sha256 OF THE DUMP (.gsa) THAT YtngegkgmenfelaaProg.lean LOADS. Nothing in Lean hashes anything: it is a label: what it is worth is what the hold of that sum in a sandbox is worth. -/
noncomputable def Try.pinned : Pinned := { name := "ytngegkgmenfelaa", sum := "5286819bf35fd35e4b52f07809ea485fe110fca887bd0d4de201492362e366cb", checked := Try.checked }
namespace Rows
def none {H : Type} : Left H := { results := [], args := [] }

/-- 'keelsonlaw13.TrailBack': WHATEVER THE INPUT: true; the input reads as it did. -/
def trailBackSpec : ChangeSpec := { name := "trailBack", fn := fun _ => fun
  | [d1, d2, d3, d4] => { results := [.lit (.bool true)], args := [d1, d2, d3, d4] }
  | _ => none }
def trailBackRow : OpenClaim := { program := "ytngegkgmenfelaa", sum := "5286819bf35fd35e4b52f07809ea485fe110fca887bd0d4de201492362e366cb", func := "keelson/keelsonlaw13.TrailBack", spec := "trailBack", unfollowed := true, recurses := true, apart := false }
def TrailBackSaid : Prop := trailBackRow.holds Try.pinned (OpenSpec.ofChange trailBackSpec)

/-- ITS FALSE NEIGHBOUR: 'it returns false'. Refute it at one input. -/
def trailBackWrong : ChangeSpec := { name := "trailBack", fn := fun _ => fun
  | [d1, d2, d3, d4] => { results := [.lit (.bool false)], args := [d1, d2, d3, d4] }
  | _ => none }
def TrailBackWrongFalsely : Prop := trailBackRow.holds Try.pinned (OpenSpec.ofChange trailBackWrong)

/-- 'keelsonlaw13.TrailPlays': WHATEVER THE INPUT: true; the input reads as it did. -/
def trailPlaysSpec : ChangeSpec := { name := "trailPlays", fn := fun _ => fun
  | [d1, d2, d3] => { results := [.lit (.bool true)], args := [d1, d2, d3] }
  | _ => none }
def trailPlaysRow : OpenClaim := { program := "ytngegkgmenfelaa", sum := "5286819bf35fd35e4b52f07809ea485fe110fca887bd0d4de201492362e366cb", func := "keelson/keelsonlaw13.TrailPlays", spec := "trailPlays", unfollowed := true, recurses := true, apart := false }
def TrailPlaysSaid : Prop := trailPlaysRow.holds Try.pinned (OpenSpec.ofChange trailPlaysSpec)

/-- ITS FALSE NEIGHBOUR: 'it returns false'. Refute it at one input. -/
def trailPlaysWrong : ChangeSpec := { name := "trailPlays", fn := fun _ => fun
  | [d1, d2, d3] => { results := [.lit (.bool false)], args := [d1, d2, d3] }
  | _ => none }
def TrailPlaysWrongFalsely : Prop := trailPlaysRow.holds Try.pinned (OpenSpec.ofChange trailPlaysWrong)

/-- 'keelsonlaw13.TrailReasons': WHATEVER THE INPUT: true; the input reads as it did. -/
def trailReasonsSpec : ChangeSpec := { name := "trailReasons", fn := fun _ => fun
  | [d1, d2, d3] => { results := [.lit (.bool true)], args := [d1, d2, d3] }
  | _ => none }
def trailReasonsRow : OpenClaim := { program := "ytngegkgmenfelaa", sum := "5286819bf35fd35e4b52f07809ea485fe110fca887bd0d4de201492362e366cb", func := "keelson/keelsonlaw13.TrailReasons", spec := "trailReasons", unfollowed := true, recurses := true, apart := false }
def TrailReasonsSaid : Prop := trailReasonsRow.holds Try.pinned (OpenSpec.ofChange trailReasonsSpec)

/-- ITS FALSE NEIGHBOUR: 'it returns false'. Refute it at one input. -/
def trailReasonsWrong : ChangeSpec := { name := "trailReasons", fn := fun _ => fun
  | [d1, d2, d3] => { results := [.lit (.bool false)], args := [d1, d2, d3] }
  | _ => none }
def TrailReasonsWrongFalsely : Prop := trailReasonsRow.holds Try.pinned (OpenSpec.ofChange trailReasonsWrong)

/-- 'keelsonlaw13.TrailFalse': WHATEVER THE INPUT: true; the input reads as it did. -/
def trailFalseSpec : ChangeSpec := { name := "trailFalse", fn := fun _ => fun
  | [d1, d2, d3] => { results := [.lit (.bool true)], args := [d1, d2, d3] }
  | _ => none }
def trailFalseRow : OpenClaim := { program := "ytngegkgmenfelaa", sum := "5286819bf35fd35e4b52f07809ea485fe110fca887bd0d4de201492362e366cb", func := "keelson/keelsonlaw13.TrailFalse", spec := "trailFalse", unfollowed := true, recurses := true, apart := false }
def TrailFalseSaid : Prop := trailFalseRow.holds Try.pinned (OpenSpec.ofChange trailFalseSpec)

/-- ITS FALSE NEIGHBOUR: 'it returns false'. Refute it at one input. -/
def trailFalseWrong : ChangeSpec := { name := "trailFalse", fn := fun _ => fun
  | [d1, d2, d3] => { results := [.lit (.bool false)], args := [d1, d2, d3] }
  | _ => none }
def TrailFalseWrongFalsely : Prop := trailFalseRow.holds Try.pinned (OpenSpec.ofChange trailFalseWrong)

/-- 'keelsonlaw13.TrailUnits': WHATEVER THE INPUT: true; the input reads as it did. -/
def trailUnitsSpec : ChangeSpec := { name := "trailUnits", fn := fun _ => fun
  | [d1, d2, d3] => { results := [.lit (.bool true)], args := [d1, d2, d3] }
  | _ => none }
def trailUnitsRow : OpenClaim := { program := "ytngegkgmenfelaa", sum := "5286819bf35fd35e4b52f07809ea485fe110fca887bd0d4de201492362e366cb", func := "keelson/keelsonlaw13.TrailUnits", spec := "trailUnits", unfollowed := true, recurses := true, apart := false }
def TrailUnitsSaid : Prop := trailUnitsRow.holds Try.pinned (OpenSpec.ofChange trailUnitsSpec)

/-- ITS FALSE NEIGHBOUR: 'it returns false'. Refute it at one input. -/
def trailUnitsWrong : ChangeSpec := { name := "trailUnits", fn := fun _ => fun
  | [d1, d2, d3] => { results := [.lit (.bool false)], args := [d1, d2, d3] }
  | _ => none }
def TrailUnitsWrongFalsely : Prop := trailUnitsRow.holds Try.pinned (OpenSpec.ofChange trailUnitsWrong)

/- THE SECOND FORM. 'bulk': how many values and letters a reading holds, each counted each time it is reached (what is shared counts as often as it is met; a slice's spare places count too). A statement '..UptoSaid' is the law's where the arguments, and the package variables that the reading takes, are together of bulk at most 1048576: NARROWER than '..Said'. Prove '..Said' where nothing that the law and all that it calls make is longer than what came in: it says more and counts as full. Else prove '..UptoSaid'. A law counts once. -/
mutual
def uptoBulk {H : Type} : DataW H → Nat
  | .lit (.string bytes) => bytes.length + 1
  | .lit _ => 1
  | .nil => 1
  | .ptr d => uptoBulk d + 1
  | .slice elems spare => uptoBulkAll elems + uptoBulkAll spare + 1
  | .agg parts => uptoBulkAll parts + 1
  | .iface _ d => uptoBulk d + 1
  | .map entries => uptoBulkEntries entries + 1
  | .held _ => 1
def uptoBulkAll {H : Type} : List (DataW H) → Nat
  | [] => 0
  | d :: r => uptoBulk d + uptoBulkAll r
def uptoBulkEntries {H : Type} : List (Lit × DataW H) → Nat
  | [] => 0
  | x :: r => uptoBulkEntry x + uptoBulkEntries r
def uptoBulkEntry {H : Type} : Lit × DataW H → Nat
  | (.string bytes, d) => bytes.length + uptoBulk d + 1
  | (_, d) => uptoBulk d + 1
 end
def uptoSmall : (H : Type) → List (DataW H) → Bool := fun _ ds => decide (uptoBulkAll ds ≤ 1048576)
def OpenSpec.upto (s : _root_.Go.ChangeSpec) : _root_.Go.OpenSpec := { _root_.Go.OpenSpec.ofChange s with cond := some uptoSmall }

/-- 'keelsonlaw13.TrailBack', WHERE WHAT IT READS IS OF BULK AT MOST 1048576: true; the input reads as it did. -/
def trailBackUptoRow : OpenClaim := { program := "ytngegkgmenfelaa", sum := "5286819bf35fd35e4b52f07809ea485fe110fca887bd0d4de201492362e366cb", func := "keelson/keelsonlaw13.TrailBack", spec := "trailBack", unfollowed := true, recurses := true, apart := false, narrowed := true }
def TrailBackUptoSaid : Prop := trailBackUptoRow.holds Try.pinned (OpenSpec.upto trailBackSpec)

/-- 'keelsonlaw13.TrailPlays', WHERE WHAT IT READS IS OF BULK AT MOST 1048576: true; the input reads as it did. -/
def trailPlaysUptoRow : OpenClaim := { program := "ytngegkgmenfelaa", sum := "5286819bf35fd35e4b52f07809ea485fe110fca887bd0d4de201492362e366cb", func := "keelson/keelsonlaw13.TrailPlays", spec := "trailPlays", unfollowed := true, recurses := true, apart := false, narrowed := true }
def TrailPlaysUptoSaid : Prop := trailPlaysUptoRow.holds Try.pinned (OpenSpec.upto trailPlaysSpec)

/-- 'keelsonlaw13.TrailReasons', WHERE WHAT IT READS IS OF BULK AT MOST 1048576: true; the input reads as it did. -/
def trailReasonsUptoRow : OpenClaim := { program := "ytngegkgmenfelaa", sum := "5286819bf35fd35e4b52f07809ea485fe110fca887bd0d4de201492362e366cb", func := "keelson/keelsonlaw13.TrailReasons", spec := "trailReasons", unfollowed := true, recurses := true, apart := false, narrowed := true }
def TrailReasonsUptoSaid : Prop := trailReasonsUptoRow.holds Try.pinned (OpenSpec.upto trailReasonsSpec)

/-- 'keelsonlaw13.TrailFalse', WHERE WHAT IT READS IS OF BULK AT MOST 1048576: true; the input reads as it did. -/
def trailFalseUptoRow : OpenClaim := { program := "ytngegkgmenfelaa", sum := "5286819bf35fd35e4b52f07809ea485fe110fca887bd0d4de201492362e366cb", func := "keelson/keelsonlaw13.TrailFalse", spec := "trailFalse", unfollowed := true, recurses := true, apart := false, narrowed := true }
def TrailFalseUptoSaid : Prop := trailFalseUptoRow.holds Try.pinned (OpenSpec.upto trailFalseSpec)

/-- 'keelsonlaw13.TrailUnits', WHERE WHAT IT READS IS OF BULK AT MOST 1048576: true; the input reads as it did. -/
def trailUnitsUptoRow : OpenClaim := { program := "ytngegkgmenfelaa", sum := "5286819bf35fd35e4b52f07809ea485fe110fca887bd0d4de201492362e366cb", func := "keelson/keelsonlaw13.TrailUnits", spec := "trailUnits", unfollowed := true, recurses := true, apart := false, narrowed := true }
def TrailUnitsUptoSaid : Prop := trailUnitsUptoRow.holds Try.pinned (OpenSpec.upto trailUnitsSpec)

end Rows
end Go.Proofs.Ytngegkgmenfelaa
