/-
  The reference: Compare.
-/
import Derived.Test.YtjdpocoahinbfaaDoorWg
import Derived.StillTailTactics
import Derived.BigQuiet
import Derived.Deep.QuietTactic
import Derived.WalkSmall
namespace Go.Proofs.YtjdpocoahinbfaaDoor
open Go.RowKit Go.Lib

theorem cmpI_lt {a b : Int} (h : a < b) : cmpI a b = -1 := if_pos h
theorem cmpI_gt {a b : Int} (h : b < a) : cmpI a b = 1 := (if_neg (by omega)).trans (if_pos h)
theorem cmpI_eq {a b : Int} (h1 : ¬ a < b) (h2 : ¬ b < a) : cmpI a b = 0 := (if_neg h1).trans (if_neg h2)

set_option maxRecDepth 100000 in
set_option maxHeartbeats 2000000 in
theorem rcmp_lt0 (a0 a1 a2 a3 a4 b0 b1 b2 b3 b4 : Int) (w : World)  (l0 : a0 < b0) : Calls Tryd.prog 23 #[(C5.mk a0 a1 a2 a3 a4).v, (C5.mk b0 b1 b2 b3 b4).v] w fun e w' => e = .returned (.int .i64 (-1)) ∧ Below w.heap.size w w' := by
  have HB : Hid (Below w.heap.size w ((w.alloc (.cells #[.int .i64 a0, .int .i64 a1, .int .i64 a2, .int .i64 a3, .int .i64 a4] 32)).alloc (.cells #[.int .i64 b0, .int .i64 b1, .int .i64 b2, .int .i64 b3, .int .i64 b4] 32))) := Lib.hid (((Below.refl _ _).alloc (Nat.le_refl _) _).alloc (by simp) _)
  have dl0 : decide (a0 < b0) = true := by simpa using l0
  go_enter Tryd.func23, Tryd.ntmps23
  go_wp2
  refine wp_loop_rounds 6 ?_
  rw [rounds_succ]
  go_wp2_with fail
  go_quiet (fail)
  go_wp2_with fail
  go_ret
  exact ⟨rfl, by repeat (first | exact HB.out | refine below_drewN ?_ _ | refine Below.drew ?_)⟩

set_option maxRecDepth 100000 in
set_option maxHeartbeats 2000000 in
theorem rcmp_gt0 (a0 a1 a2 a3 a4 b0 b1 b2 b3 b4 : Int) (w : World)  (l0 : ¬ a0 < b0) (g0 : b0 < a0) : Calls Tryd.prog 23 #[(C5.mk a0 a1 a2 a3 a4).v, (C5.mk b0 b1 b2 b3 b4).v] w fun e w' => e = .returned (.int .i64 1) ∧ Below w.heap.size w w' := by
  have HB : Hid (Below w.heap.size w ((w.alloc (.cells #[.int .i64 a0, .int .i64 a1, .int .i64 a2, .int .i64 a3, .int .i64 a4] 32)).alloc (.cells #[.int .i64 b0, .int .i64 b1, .int .i64 b2, .int .i64 b3, .int .i64 b4] 32))) := Lib.hid (((Below.refl _ _).alloc (Nat.le_refl _) _).alloc (by simp) _)
  have dl0 : decide (a0 < b0) = false := by simpa using l0
  have dg0 : decide (b0 < a0) = true := by simpa using g0
  go_enter Tryd.func23, Tryd.ntmps23
  go_wp2
  refine wp_loop_rounds 6 ?_
  rw [rounds_succ]
  go_wp2_with fail
  go_quiet (fail)
  go_wp2_with fail
  go_quiet (fail)
  go_wp2_with fail
  go_ret
  exact ⟨rfl, by repeat (first | exact HB.out | refine below_drewN ?_ _ | refine Below.drew ?_)⟩

set_option maxRecDepth 100000 in
set_option maxHeartbeats 2000000 in
theorem rcmp_lt1 (a0 a1 a2 a3 a4 b0 b1 b2 b3 b4 : Int) (w : World) (l0 : ¬ a0 < b0) (g0 : ¬ b0 < a0) (l1 : a1 < b1) : Calls Tryd.prog 23 #[(C5.mk a0 a1 a2 a3 a4).v, (C5.mk b0 b1 b2 b3 b4).v] w fun e w' => e = .returned (.int .i64 (-1)) ∧ Below w.heap.size w w' := by
  have HB : Hid (Below w.heap.size w ((w.alloc (.cells #[.int .i64 a0, .int .i64 a1, .int .i64 a2, .int .i64 a3, .int .i64 a4] 32)).alloc (.cells #[.int .i64 b0, .int .i64 b1, .int .i64 b2, .int .i64 b3, .int .i64 b4] 32))) := Lib.hid (((Below.refl _ _).alloc (Nat.le_refl _) _).alloc (by simp) _)
  have dl0 : decide (a0 < b0) = false := by simpa using l0
  have dg0 : decide (b0 < a0) = false := by simpa using g0
  have dl1 : decide (a1 < b1) = true := by simpa using l1
  go_enter Tryd.func23, Tryd.ntmps23
  go_wp2
  refine wp_loop_rounds 6 ?_
  rw [rounds_succ]
  go_wp2_with fail
  go_quiet (fail)
  go_wp2_with fail
  go_quiet (fail)
  go_wp2_with fail
  rw [rounds_succ]
  go_wp2_with fail
  go_quiet (fail)
  go_wp2_with fail
  go_ret
  exact ⟨rfl, by repeat (first | exact HB.out | refine below_drewN ?_ _ | refine Below.drew ?_)⟩

set_option maxRecDepth 100000 in
set_option maxHeartbeats 2000000 in
theorem rcmp_gt1 (a0 a1 a2 a3 a4 b0 b1 b2 b3 b4 : Int) (w : World) (l0 : ¬ a0 < b0) (g0 : ¬ b0 < a0) (l1 : ¬ a1 < b1) (g1 : b1 < a1) : Calls Tryd.prog 23 #[(C5.mk a0 a1 a2 a3 a4).v, (C5.mk b0 b1 b2 b3 b4).v] w fun e w' => e = .returned (.int .i64 1) ∧ Below w.heap.size w w' := by
  have HB : Hid (Below w.heap.size w ((w.alloc (.cells #[.int .i64 a0, .int .i64 a1, .int .i64 a2, .int .i64 a3, .int .i64 a4] 32)).alloc (.cells #[.int .i64 b0, .int .i64 b1, .int .i64 b2, .int .i64 b3, .int .i64 b4] 32))) := Lib.hid (((Below.refl _ _).alloc (Nat.le_refl _) _).alloc (by simp) _)
  have dl0 : decide (a0 < b0) = false := by simpa using l0
  have dg0 : decide (b0 < a0) = false := by simpa using g0
  have dl1 : decide (a1 < b1) = false := by simpa using l1
  have dg1 : decide (b1 < a1) = true := by simpa using g1
  go_enter Tryd.func23, Tryd.ntmps23
  go_wp2
  refine wp_loop_rounds 6 ?_
  rw [rounds_succ]
  go_wp2_with fail
  go_quiet (fail)
  go_wp2_with fail
  go_quiet (fail)
  go_wp2_with fail
  rw [rounds_succ]
  go_wp2_with fail
  go_quiet (fail)
  go_wp2_with fail
  go_quiet (fail)
  go_wp2_with fail
  go_ret
  exact ⟨rfl, by repeat (first | exact HB.out | refine below_drewN ?_ _ | refine Below.drew ?_)⟩

set_option maxRecDepth 100000 in
set_option maxHeartbeats 2000000 in
theorem rcmp_lt2 (a0 a1 a2 a3 a4 b0 b1 b2 b3 b4 : Int) (w : World) (l0 : ¬ a0 < b0) (g0 : ¬ b0 < a0) (l1 : ¬ a1 < b1) (g1 : ¬ b1 < a1) (l2 : a2 < b2) : Calls Tryd.prog 23 #[(C5.mk a0 a1 a2 a3 a4).v, (C5.mk b0 b1 b2 b3 b4).v] w fun e w' => e = .returned (.int .i64 (-1)) ∧ Below w.heap.size w w' := by
  have HB : Hid (Below w.heap.size w ((w.alloc (.cells #[.int .i64 a0, .int .i64 a1, .int .i64 a2, .int .i64 a3, .int .i64 a4] 32)).alloc (.cells #[.int .i64 b0, .int .i64 b1, .int .i64 b2, .int .i64 b3, .int .i64 b4] 32))) := Lib.hid (((Below.refl _ _).alloc (Nat.le_refl _) _).alloc (by simp) _)
  have dl0 : decide (a0 < b0) = false := by simpa using l0
  have dg0 : decide (b0 < a0) = false := by simpa using g0
  have dl1 : decide (a1 < b1) = false := by simpa using l1
  have dg1 : decide (b1 < a1) = false := by simpa using g1
  have dl2 : decide (a2 < b2) = true := by simpa using l2
  go_enter Tryd.func23, Tryd.ntmps23
  go_wp2
  refine wp_loop_rounds 6 ?_
  rw [rounds_succ]
  go_wp2_with fail
  go_quiet (fail)
  go_wp2_with fail
  go_quiet (fail)
  go_wp2_with fail
  rw [rounds_succ]
  go_wp2_with fail
  go_quiet (fail)
  go_wp2_with fail
  go_quiet (fail)
  go_wp2_with fail
  rw [rounds_succ]
  go_wp2_with fail
  go_quiet (fail)
  go_wp2_with fail
  go_ret
  exact ⟨rfl, by repeat (first | exact HB.out | refine below_drewN ?_ _ | refine Below.drew ?_)⟩

set_option maxRecDepth 100000 in
set_option maxHeartbeats 2000000 in
theorem rcmp_gt2 (a0 a1 a2 a3 a4 b0 b1 b2 b3 b4 : Int) (w : World) (l0 : ¬ a0 < b0) (g0 : ¬ b0 < a0) (l1 : ¬ a1 < b1) (g1 : ¬ b1 < a1) (l2 : ¬ a2 < b2) (g2 : b2 < a2) : Calls Tryd.prog 23 #[(C5.mk a0 a1 a2 a3 a4).v, (C5.mk b0 b1 b2 b3 b4).v] w fun e w' => e = .returned (.int .i64 1) ∧ Below w.heap.size w w' := by
  have HB : Hid (Below w.heap.size w ((w.alloc (.cells #[.int .i64 a0, .int .i64 a1, .int .i64 a2, .int .i64 a3, .int .i64 a4] 32)).alloc (.cells #[.int .i64 b0, .int .i64 b1, .int .i64 b2, .int .i64 b3, .int .i64 b4] 32))) := Lib.hid (((Below.refl _ _).alloc (Nat.le_refl _) _).alloc (by simp) _)
  have dl0 : decide (a0 < b0) = false := by simpa using l0
  have dg0 : decide (b0 < a0) = false := by simpa using g0
  have dl1 : decide (a1 < b1) = false := by simpa using l1
  have dg1 : decide (b1 < a1) = false := by simpa using g1
  have dl2 : decide (a2 < b2) = false := by simpa using l2
  have dg2 : decide (b2 < a2) = true := by simpa using g2
  go_enter Tryd.func23, Tryd.ntmps23
  go_wp2
  refine wp_loop_rounds 6 ?_
  rw [rounds_succ]
  go_wp2_with fail
  go_quiet (fail)
  go_wp2_with fail
  go_quiet (fail)
  go_wp2_with fail
  rw [rounds_succ]
  go_wp2_with fail
  go_quiet (fail)
  go_wp2_with fail
  go_quiet (fail)
  go_wp2_with fail
  rw [rounds_succ]
  go_wp2_with fail
  go_quiet (fail)
  go_wp2_with fail
  go_quiet (fail)
  go_wp2_with fail
  go_ret
  exact ⟨rfl, by repeat (first | exact HB.out | refine below_drewN ?_ _ | refine Below.drew ?_)⟩

set_option maxRecDepth 100000 in
set_option maxHeartbeats 2000000 in
theorem rcmp_lt3 (a0 a1 a2 a3 a4 b0 b1 b2 b3 b4 : Int) (w : World) (l0 : ¬ a0 < b0) (g0 : ¬ b0 < a0) (l1 : ¬ a1 < b1) (g1 : ¬ b1 < a1) (l2 : ¬ a2 < b2) (g2 : ¬ b2 < a2) (l3 : a3 < b3) : Calls Tryd.prog 23 #[(C5.mk a0 a1 a2 a3 a4).v, (C5.mk b0 b1 b2 b3 b4).v] w fun e w' => e = .returned (.int .i64 (-1)) ∧ Below w.heap.size w w' := by
  have HB : Hid (Below w.heap.size w ((w.alloc (.cells #[.int .i64 a0, .int .i64 a1, .int .i64 a2, .int .i64 a3, .int .i64 a4] 32)).alloc (.cells #[.int .i64 b0, .int .i64 b1, .int .i64 b2, .int .i64 b3, .int .i64 b4] 32))) := Lib.hid (((Below.refl _ _).alloc (Nat.le_refl _) _).alloc (by simp) _)
  have dl0 : decide (a0 < b0) = false := by simpa using l0
  have dg0 : decide (b0 < a0) = false := by simpa using g0
  have dl1 : decide (a1 < b1) = false := by simpa using l1
  have dg1 : decide (b1 < a1) = false := by simpa using g1
  have dl2 : decide (a2 < b2) = false := by simpa using l2
  have dg2 : decide (b2 < a2) = false := by simpa using g2
  have dl3 : decide (a3 < b3) = true := by simpa using l3
  go_enter Tryd.func23, Tryd.ntmps23
  go_wp2
  refine wp_loop_rounds 6 ?_
  rw [rounds_succ]
  go_wp2_with fail
  go_quiet (fail)
  go_wp2_with fail
  go_quiet (fail)
  go_wp2_with fail
  rw [rounds_succ]
  go_wp2_with fail
  go_quiet (fail)
  go_wp2_with fail
  go_quiet (fail)
  go_wp2_with fail
  rw [rounds_succ]
  go_wp2_with fail
  go_quiet (fail)
  go_wp2_with fail
  go_quiet (fail)
  go_wp2_with fail
  rw [rounds_succ]
  go_wp2_with fail
  go_quiet (fail)
  go_wp2_with fail
  go_ret
  exact ⟨rfl, by repeat (first | exact HB.out | refine below_drewN ?_ _ | refine Below.drew ?_)⟩

set_option maxRecDepth 100000 in
set_option maxHeartbeats 2000000 in
theorem rcmp_gt3 (a0 a1 a2 a3 a4 b0 b1 b2 b3 b4 : Int) (w : World) (l0 : ¬ a0 < b0) (g0 : ¬ b0 < a0) (l1 : ¬ a1 < b1) (g1 : ¬ b1 < a1) (l2 : ¬ a2 < b2) (g2 : ¬ b2 < a2) (l3 : ¬ a3 < b3) (g3 : b3 < a3) : Calls Tryd.prog 23 #[(C5.mk a0 a1 a2 a3 a4).v, (C5.mk b0 b1 b2 b3 b4).v] w fun e w' => e = .returned (.int .i64 1) ∧ Below w.heap.size w w' := by
  have HB : Hid (Below w.heap.size w ((w.alloc (.cells #[.int .i64 a0, .int .i64 a1, .int .i64 a2, .int .i64 a3, .int .i64 a4] 32)).alloc (.cells #[.int .i64 b0, .int .i64 b1, .int .i64 b2, .int .i64 b3, .int .i64 b4] 32))) := Lib.hid (((Below.refl _ _).alloc (Nat.le_refl _) _).alloc (by simp) _)
  have dl0 : decide (a0 < b0) = false := by simpa using l0
  have dg0 : decide (b0 < a0) = false := by simpa using g0
  have dl1 : decide (a1 < b1) = false := by simpa using l1
  have dg1 : decide (b1 < a1) = false := by simpa using g1
  have dl2 : decide (a2 < b2) = false := by simpa using l2
  have dg2 : decide (b2 < a2) = false := by simpa using g2
  have dl3 : decide (a3 < b3) = false := by simpa using l3
  have dg3 : decide (b3 < a3) = true := by simpa using g3
  go_enter Tryd.func23, Tryd.ntmps23
  go_wp2
  refine wp_loop_rounds 6 ?_
  rw [rounds_succ]
  go_wp2_with fail
  go_quiet (fail)
  go_wp2_with fail
  go_quiet (fail)
  go_wp2_with fail
  rw [rounds_succ]
  go_wp2_with fail
  go_quiet (fail)
  go_wp2_with fail
  go_quiet (fail)
  go_wp2_with fail
  rw [rounds_succ]
  go_wp2_with fail
  go_quiet (fail)
  go_wp2_with fail
  go_quiet (fail)
  go_wp2_with fail
  rw [rounds_succ]
  go_wp2_with fail
  go_quiet (fail)
  go_wp2_with fail
  go_quiet (fail)
  go_wp2_with fail
  go_ret
  exact ⟨rfl, by repeat (first | exact HB.out | refine below_drewN ?_ _ | refine Below.drew ?_)⟩

set_option maxRecDepth 100000 in
set_option maxHeartbeats 2000000 in
theorem rcmp_lt4 (a0 a1 a2 a3 a4 b0 b1 b2 b3 b4 : Int) (w : World) (l0 : ¬ a0 < b0) (g0 : ¬ b0 < a0) (l1 : ¬ a1 < b1) (g1 : ¬ b1 < a1) (l2 : ¬ a2 < b2) (g2 : ¬ b2 < a2) (l3 : ¬ a3 < b3) (g3 : ¬ b3 < a3) (l4 : a4 < b4) : Calls Tryd.prog 23 #[(C5.mk a0 a1 a2 a3 a4).v, (C5.mk b0 b1 b2 b3 b4).v] w fun e w' => e = .returned (.int .i64 (-1)) ∧ Below w.heap.size w w' := by
  have HB : Hid (Below w.heap.size w ((w.alloc (.cells #[.int .i64 a0, .int .i64 a1, .int .i64 a2, .int .i64 a3, .int .i64 a4] 32)).alloc (.cells #[.int .i64 b0, .int .i64 b1, .int .i64 b2, .int .i64 b3, .int .i64 b4] 32))) := Lib.hid (((Below.refl _ _).alloc (Nat.le_refl _) _).alloc (by simp) _)
  have dl0 : decide (a0 < b0) = false := by simpa using l0
  have dg0 : decide (b0 < a0) = false := by simpa using g0
  have dl1 : decide (a1 < b1) = false := by simpa using l1
  have dg1 : decide (b1 < a1) = false := by simpa using g1
  have dl2 : decide (a2 < b2) = false := by simpa using l2
  have dg2 : decide (b2 < a2) = false := by simpa using g2
  have dl3 : decide (a3 < b3) = false := by simpa using l3
  have dg3 : decide (b3 < a3) = false := by simpa using g3
  have dl4 : decide (a4 < b4) = true := by simpa using l4
  go_enter Tryd.func23, Tryd.ntmps23
  go_wp2
  refine wp_loop_rounds 6 ?_
  rw [rounds_succ]
  go_wp2_with fail
  go_quiet (fail)
  go_wp2_with fail
  go_quiet (fail)
  go_wp2_with fail
  rw [rounds_succ]
  go_wp2_with fail
  go_quiet (fail)
  go_wp2_with fail
  go_quiet (fail)
  go_wp2_with fail
  rw [rounds_succ]
  go_wp2_with fail
  go_quiet (fail)
  go_wp2_with fail
  go_quiet (fail)
  go_wp2_with fail
  rw [rounds_succ]
  go_wp2_with fail
  go_quiet (fail)
  go_wp2_with fail
  go_quiet (fail)
  go_wp2_with fail
  rw [rounds_succ]
  go_wp2_with fail
  go_quiet (fail)
  go_wp2_with fail
  go_ret
  exact ⟨rfl, by repeat (first | exact HB.out | refine below_drewN ?_ _ | refine Below.drew ?_)⟩

set_option maxRecDepth 100000 in
set_option maxHeartbeats 2000000 in
theorem rcmp_gt4 (a0 a1 a2 a3 a4 b0 b1 b2 b3 b4 : Int) (w : World) (l0 : ¬ a0 < b0) (g0 : ¬ b0 < a0) (l1 : ¬ a1 < b1) (g1 : ¬ b1 < a1) (l2 : ¬ a2 < b2) (g2 : ¬ b2 < a2) (l3 : ¬ a3 < b3) (g3 : ¬ b3 < a3) (l4 : ¬ a4 < b4) (g4 : b4 < a4) : Calls Tryd.prog 23 #[(C5.mk a0 a1 a2 a3 a4).v, (C5.mk b0 b1 b2 b3 b4).v] w fun e w' => e = .returned (.int .i64 1) ∧ Below w.heap.size w w' := by
  have HB : Hid (Below w.heap.size w ((w.alloc (.cells #[.int .i64 a0, .int .i64 a1, .int .i64 a2, .int .i64 a3, .int .i64 a4] 32)).alloc (.cells #[.int .i64 b0, .int .i64 b1, .int .i64 b2, .int .i64 b3, .int .i64 b4] 32))) := Lib.hid (((Below.refl _ _).alloc (Nat.le_refl _) _).alloc (by simp) _)
  have dl0 : decide (a0 < b0) = false := by simpa using l0
  have dg0 : decide (b0 < a0) = false := by simpa using g0
  have dl1 : decide (a1 < b1) = false := by simpa using l1
  have dg1 : decide (b1 < a1) = false := by simpa using g1
  have dl2 : decide (a2 < b2) = false := by simpa using l2
  have dg2 : decide (b2 < a2) = false := by simpa using g2
  have dl3 : decide (a3 < b3) = false := by simpa using l3
  have dg3 : decide (b3 < a3) = false := by simpa using g3
  have dl4 : decide (a4 < b4) = false := by simpa using l4
  have dg4 : decide (b4 < a4) = true := by simpa using g4
  go_enter Tryd.func23, Tryd.ntmps23
  go_wp2
  refine wp_loop_rounds 6 ?_
  rw [rounds_succ]
  go_wp2_with fail
  go_quiet (fail)
  go_wp2_with fail
  go_quiet (fail)
  go_wp2_with fail
  rw [rounds_succ]
  go_wp2_with fail
  go_quiet (fail)
  go_wp2_with fail
  go_quiet (fail)
  go_wp2_with fail
  rw [rounds_succ]
  go_wp2_with fail
  go_quiet (fail)
  go_wp2_with fail
  go_quiet (fail)
  go_wp2_with fail
  rw [rounds_succ]
  go_wp2_with fail
  go_quiet (fail)
  go_wp2_with fail
  go_quiet (fail)
  go_wp2_with fail
  rw [rounds_succ]
  go_wp2_with fail
  go_quiet (fail)
  go_wp2_with fail
  go_quiet (fail)
  go_wp2_with fail
  go_ret
  exact ⟨rfl, by repeat (first | exact HB.out | refine below_drewN ?_ _ | refine Below.drew ?_)⟩

set_option maxRecDepth 100000 in
set_option maxHeartbeats 2000000 in
theorem rcmp_eq5 (a0 a1 a2 a3 a4 b0 b1 b2 b3 b4 : Int) (w : World) (l0 : ¬ a0 < b0) (g0 : ¬ b0 < a0) (l1 : ¬ a1 < b1) (g1 : ¬ b1 < a1) (l2 : ¬ a2 < b2) (g2 : ¬ b2 < a2) (l3 : ¬ a3 < b3) (g3 : ¬ b3 < a3) (l4 : ¬ a4 < b4) (g4 : ¬ b4 < a4) : Calls Tryd.prog 23 #[(C5.mk a0 a1 a2 a3 a4).v, (C5.mk b0 b1 b2 b3 b4).v] w fun e w' => e = .returned (.int .i64 0) ∧ Below w.heap.size w w' := by
  have HB : Hid (Below w.heap.size w ((w.alloc (.cells #[.int .i64 a0, .int .i64 a1, .int .i64 a2, .int .i64 a3, .int .i64 a4] 32)).alloc (.cells #[.int .i64 b0, .int .i64 b1, .int .i64 b2, .int .i64 b3, .int .i64 b4] 32))) := Lib.hid (((Below.refl _ _).alloc (Nat.le_refl _) _).alloc (by simp) _)
  have dl0 : decide (a0 < b0) = false := by simpa using l0
  have dg0 : decide (b0 < a0) = false := by simpa using g0
  have dl1 : decide (a1 < b1) = false := by simpa using l1
  have dg1 : decide (b1 < a1) = false := by simpa using g1
  have dl2 : decide (a2 < b2) = false := by simpa using l2
  have dg2 : decide (b2 < a2) = false := by simpa using g2
  have dl3 : decide (a3 < b3) = false := by simpa using l3
  have dg3 : decide (b3 < a3) = false := by simpa using g3
  have dl4 : decide (a4 < b4) = false := by simpa using l4
  have dg4 : decide (b4 < a4) = false := by simpa using g4
  go_enter Tryd.func23, Tryd.ntmps23
  go_wp2
  refine wp_loop_rounds 6 ?_
  rw [rounds_succ]
  go_wp2_with fail
  go_quiet (fail)
  go_wp2_with fail
  go_quiet (fail)
  go_wp2_with fail
  rw [rounds_succ]
  go_wp2_with fail
  go_quiet (fail)
  go_wp2_with fail
  go_quiet (fail)
  go_wp2_with fail
  rw [rounds_succ]
  go_wp2_with fail
  go_quiet (fail)
  go_wp2_with fail
  go_quiet (fail)
  go_wp2_with fail
  rw [rounds_succ]
  go_wp2_with fail
  go_quiet (fail)
  go_wp2_with fail
  go_quiet (fail)
  go_wp2_with fail
  rw [rounds_succ]
  go_wp2_with fail
  go_quiet (fail)
  go_wp2_with fail
  go_quiet (fail)
  go_wp2_with fail
  rw [rounds_succ]
  go_wp2_with fail
  go_ret
  exact ⟨rfl, by repeat (first | exact HB.out | refine below_drewN ?_ _ | refine Below.drew ?_)⟩

theorem rcompare_any (a b : C5) (w : World) : Calls Tryd.prog 23 #[a.v, b.v] w fun e w' => e = .returned (.int .i64 (cmp5 a b)) ∧ Below w.heap.size w w' := by
  obtain ⟨a0, a1, a2, a3, a4⟩ := a
  obtain ⟨b0, b1, b2, b3, b4⟩ := b
  by_cases l0 : a0 < b0
  · have e : cmp5 ⟨a0, a1, a2, a3, a4⟩ ⟨b0, b1, b2, b3, b4⟩ = -1 := by simp [cmp5, cmpI_lt l0]
    rw [e]
    exact rcmp_lt0 _ _ _ _ _ _ _ _ _ _ w  l0
  by_cases g0 : b0 < a0
  · have e : cmp5 ⟨a0, a1, a2, a3, a4⟩ ⟨b0, b1, b2, b3, b4⟩ = 1 := by simp [cmp5, cmpI_gt g0]
    rw [e]
    exact rcmp_gt0 _ _ _ _ _ _ _ _ _ _ w  l0 g0
  by_cases l1 : a1 < b1
  · have e : cmp5 ⟨a0, a1, a2, a3, a4⟩ ⟨b0, b1, b2, b3, b4⟩ = -1 := by simp [cmp5, cmpI_eq l0 g0, cmpI_lt l1]
    rw [e]
    exact rcmp_lt1 _ _ _ _ _ _ _ _ _ _ w l0 g0 l1
  by_cases g1 : b1 < a1
  · have e : cmp5 ⟨a0, a1, a2, a3, a4⟩ ⟨b0, b1, b2, b3, b4⟩ = 1 := by simp [cmp5, cmpI_eq l0 g0, cmpI_gt g1]
    rw [e]
    exact rcmp_gt1 _ _ _ _ _ _ _ _ _ _ w l0 g0 l1 g1
  by_cases l2 : a2 < b2
  · have e : cmp5 ⟨a0, a1, a2, a3, a4⟩ ⟨b0, b1, b2, b3, b4⟩ = -1 := by simp [cmp5, cmpI_eq l0 g0, cmpI_eq l1 g1, cmpI_lt l2]
    rw [e]
    exact rcmp_lt2 _ _ _ _ _ _ _ _ _ _ w l0 g0 l1 g1 l2
  by_cases g2 : b2 < a2
  · have e : cmp5 ⟨a0, a1, a2, a3, a4⟩ ⟨b0, b1, b2, b3, b4⟩ = 1 := by simp [cmp5, cmpI_eq l0 g0, cmpI_eq l1 g1, cmpI_gt g2]
    rw [e]
    exact rcmp_gt2 _ _ _ _ _ _ _ _ _ _ w l0 g0 l1 g1 l2 g2
  by_cases l3 : a3 < b3
  · have e : cmp5 ⟨a0, a1, a2, a3, a4⟩ ⟨b0, b1, b2, b3, b4⟩ = -1 := by simp [cmp5, cmpI_eq l0 g0, cmpI_eq l1 g1, cmpI_eq l2 g2, cmpI_lt l3]
    rw [e]
    exact rcmp_lt3 _ _ _ _ _ _ _ _ _ _ w l0 g0 l1 g1 l2 g2 l3
  by_cases g3 : b3 < a3
  · have e : cmp5 ⟨a0, a1, a2, a3, a4⟩ ⟨b0, b1, b2, b3, b4⟩ = 1 := by simp [cmp5, cmpI_eq l0 g0, cmpI_eq l1 g1, cmpI_eq l2 g2, cmpI_gt g3]
    rw [e]
    exact rcmp_gt3 _ _ _ _ _ _ _ _ _ _ w l0 g0 l1 g1 l2 g2 l3 g3
  by_cases l4 : a4 < b4
  · have e : cmp5 ⟨a0, a1, a2, a3, a4⟩ ⟨b0, b1, b2, b3, b4⟩ = -1 := by simp [cmp5, cmpI_eq l0 g0, cmpI_eq l1 g1, cmpI_eq l2 g2, cmpI_eq l3 g3, cmpI_lt l4]
    rw [e]
    exact rcmp_lt4 _ _ _ _ _ _ _ _ _ _ w l0 g0 l1 g1 l2 g2 l3 g3 l4
  by_cases g4 : b4 < a4
  · have e : cmp5 ⟨a0, a1, a2, a3, a4⟩ ⟨b0, b1, b2, b3, b4⟩ = 1 := by simp [cmp5, cmpI_eq l0 g0, cmpI_eq l1 g1, cmpI_eq l2 g2, cmpI_eq l3 g3, cmpI_gt g4]
    rw [e]
    exact rcmp_gt4 _ _ _ _ _ _ _ _ _ _ w l0 g0 l1 g1 l2 g2 l3 g3 l4 g4
  have e : cmp5 ⟨a0, a1, a2, a3, a4⟩ ⟨b0, b1, b2, b3, b4⟩ = 0 := by simp [cmp5, cmpI_eq l0 g0, cmpI_eq l1 g1, cmpI_eq l2 g2, cmpI_eq l3 g3, cmpI_eq l4 g4]
  rw [e]
  exact rcmp_eq5 _ _ _ _ _ _ _ _ _ _ w l0 g0 l1 g1 l2 g2 l3 g3 l4 g4
end Go.Proofs.YtjdpocoahinbfaaDoor
