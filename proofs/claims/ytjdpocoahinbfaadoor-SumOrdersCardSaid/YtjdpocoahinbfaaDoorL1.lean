/-
  SumAdds, SumTurns: the walks.
-/
import Derived.Test.YtjdpocoahinbfaaDoorSh
import Derived.Test.YtjdpocoahinbfaaDoorRa
import Derived.ProofKit
import Derived.OpenShut
namespace Go.Proofs.YtjdpocoahinbfaaDoor
open Go.RowKit Go.Lib Go.ChangeShapes Go.WideShapes Go.ChangeAt

theorem in64_of_wf {a : Int} (h : (Lit.int .i64 a).wf = true) : In64 a := by
  have := bounds_i64 h
  exact ⟨by omega, by omega⟩

theorem adds_walk (a b : Int) (x : Addr) (w : World) (ha : In64 a) (hb : In64 b) (hg : Sent x w) :
    Calls Tryd.prog 3 #[.int .i64 a, .int .i64 b] w fun e w' => e = .returned (.bool true) ∧ Below w.heap.size w w' := by
  have H := Lib.hid hg
  clear hg
  go_enter Tryd.func3, Tryd.ntmps3
  go_wp2_with fail
  refine (shown_any x _ H.out).mono ?_
  rintro e w1 ⟨rfl, b1⟩
  have H1 := Lib.hid b1; clear b1
  go_wp2_with fail
  refine (Add_any a b x _ ha hb H1.out.sent).mono ?_
  rintro e w2 ⟨rfl, b2⟩
  have H2 := Lib.hid (H1.out.call b2); clear b2
  go_wp2_with fail
  refine (radd_any a b _ ha hb).mono ?_
  rintro e w3 ⟨rfl, rfl⟩
  go_wp2_with fail
  refine (Mul_any a b x _ ha hb H2.out.sent).mono ?_
  rintro e w4 ⟨rfl, b4⟩
  have H4 := Lib.hid (H2.out.call b4); clear b4
  go_wp2_with fail
  refine (rmul_any a b _ ha hb).mono ?_
  rintro e w5 ⟨rfl, rfl⟩
  go_wp2_with fail
  go_ret
  exact ⟨rfl, H4.out.bel⟩
end Go.Proofs.YtjdpocoahinbfaaDoor
