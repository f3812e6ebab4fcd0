/-
  Join: the closure, the function; the reference's.
-/
import Derived.Test.YtjdpocoahinbfaaDoorWf
import Derived.Test.YtjdpocoahinbfaaDoorWg
import Derived.Deep.RegionHeld3
import Derived.Deep.DrawnRows
import Derived.Deep.RegionWith
namespace Go.Proofs.YtjdpocoahinbfaaDoor
open Go.RowKit Go.Lib
attribute [local go_sem ↓] Go.wp_at_zero Go.wp_at_succ

/-- The worlds on Join's way: two rows that are only read, the row of the sums. -/
structure JW (ba bb bc : Nat) (A B : Array Value) (x : Addr) (w0 w : World) (C : Array Value) : Prop where
  grown : w0.grownBy w (some bc)
  hA : w.heap[ba]? = some (.cells A 32 (0, 0))
  hB : w.heap[bb]? = some (.cells B 32 (0, 0))
  hC : w.heap[bc]? = some (.cells C 32 (0, 0))
  sent : Sent x w
  ne : ba ≠ bc ∧ bb ≠ bc ∧ 0 ≠ bc

theorem JW.store {ba bb bc : Nat} {A B : Array Value} {x : Addr} {w0 w : World} {C : Array Value} (h : JW ba bb bc A B x w0 w C) (k : Nat) (v : Value) :
    JW ba bb bc A B x w0 (w.setCell ⟨bc, k, none⟩ v) (C.setIfInBounds k v) := by
  obtain ⟨n1, n2, n3⟩ := h.ne
  refine ⟨⟨h.grown.os, h.grown.tape, h.grown.output, by simpa using h.grown.size, fun j hj hne => ?_⟩, ?_, ?_, heap_setCell_same w bc k C 32 v h.hC, ?_, h.ne⟩
  · rw [heap_setCell_other w ⟨bc, k, none⟩ j v (fun e => hne (by rw [e]))]
    exact h.grown.block j hj hne
  · rw [heap_setCell_other w ⟨bc, k, none⟩ ba v n1]; exact h.hA
  · rw [heap_setCell_other w ⟨bc, k, none⟩ bb v n2]; exact h.hB
  · have hs := h.sent
    unfold Sent at hs ⊢
    rw [World.cell?_setCell_other _ _ _ _ (by intro e; injection e with e; exact n3 e.symm)]
    exact hs
theorem JW.drew {ba bb bc : Nat} {A B : Array Value} {x : Addr} {w0 w : World} {C : Array Value} (h : JW ba bb bc A B x w0 w C) : JW ba bb bc A B x w0 w.drew C :=
  ⟨⟨h.grown.os, h.grown.tape, h.grown.output, h.grown.size, h.grown.block⟩, h.hA, h.hB, h.hC, h.sent, h.ne⟩

set_option maxRecDepth 100000 in
set_option maxHeartbeats 4000000 in
theorem joinc_bad0 (ba bb bc : Nat) (a0 a1 a2 a3 a4 b0 b1 b2 b3 b4  : Int) (x : Addr) (w : World) (hw : JW ba bb bc #[.int .i64 a0, .int .i64 a1, .int .i64 a2, .int .i64 a3, .int .i64 a4] #[.int .i64 b0, .int .i64 b1, .int .i64 b2, .int .i64 b3, .int .i64 b4] x w w #[.int .i64 0, .int .i64 0, .int .i64 0, .int .i64 0, .int .i64 0])
    (h64a : In64 a0 ∧ In64 a1 ∧ In64 a2 ∧ In64 a3 ∧ In64 a4) (h64b : In64 b0 ∧ In64 b1 ∧ In64 b2 ∧ In64 b3 ∧ In64 b4)  (o0 : addO a0 b0 = none) :
    Calls Tryd.prog 33 #[.pointer (some ⟨ba, 0, none⟩), .pointer (some ⟨bb, 0, none⟩), .pointer (some ⟨bc, 0, none⟩)] w fun e w2 => EndsO x none e ∧ w.grownBy w2 (some bc) := by
  obtain ⟨n4, n5, n6⟩ := hw.ne
  have n1 : ¬ bc = ba := fun e => n4 e.symm
  have n2 : ¬ bc = bb := fun e => n5 e.symm
  have n3 : ¬ bc = 0 := fun e => n6 e.symm
  have A0 := Lib.hid (fun w h => add_any a0 b0 x w h64a.1 h64b.1 h)
  rw [o0] at A0
  have J0 := Lib.hid hw
  clear hw h64a h64b o0
  go_enter Tryd.func33, Tryd.ntmps33
  go_wp2
  refine wp_loop_rounds 6 ?_
  rw [rounds_succ]
  have p0 : w.cell? ⟨ba, 0, none⟩ = some (.int .i64 a0) := by simp [World.cell?, J0.out.hA]
  have q0 : w.cell? ⟨bb, 0, none⟩ = some (.int .i64 b0) := by simp [World.cell?, J0.out.hB]
  have c0 : w.cell? ⟨bc, 0, none⟩ = some (.int .i64 0) := by simp [World.cell?, J0.out.hC]
  have z0 : w.frozen? ⟨bc, 0, none⟩ = false := by simp [World.frozen?, J0.out.hC]
  have g0 : w.cell? ⟨0, 0, none⟩ = some (.iface 70 (.pointer (some x))) := J0.out.sent
  go_wp2_with fail
  go_region_with (go_at_call 27; refine (A0.out _ ?_).mono ?_; exact J0.out.drew.sent; rintro e w' ⟨rfl, rfl⟩; suffices _hd : wpAny Tryd.prog .any #[] (fun _ _ _ => True) 0 #[] ⟨#[], []⟩ w from ⟨rfl, rfl, J0.out.drew.grown⟩)
  all_goals trivial

set_option maxRecDepth 100000 in
set_option maxHeartbeats 4000000 in
theorem joinc_bad1 (ba bb bc : Nat) (a0 a1 a2 a3 a4 b0 b1 b2 b3 b4 s0 : Int) (x : Addr) (w : World) (hw : JW ba bb bc #[.int .i64 a0, .int .i64 a1, .int .i64 a2, .int .i64 a3, .int .i64 a4] #[.int .i64 b0, .int .i64 b1, .int .i64 b2, .int .i64 b3, .int .i64 b4] x w w #[.int .i64 0, .int .i64 0, .int .i64 0, .int .i64 0, .int .i64 0])
    (h64a : In64 a0 ∧ In64 a1 ∧ In64 a2 ∧ In64 a3 ∧ In64 a4) (h64b : In64 b0 ∧ In64 b1 ∧ In64 b2 ∧ In64 b3 ∧ In64 b4) (o0 : addO a0 b0 = some s0) (o1 : addO a1 b1 = none) :
    Calls Tryd.prog 33 #[.pointer (some ⟨ba, 0, none⟩), .pointer (some ⟨bb, 0, none⟩), .pointer (some ⟨bc, 0, none⟩)] w fun e w2 => EndsO x none e ∧ w.grownBy w2 (some bc) := by
  obtain ⟨n4, n5, n6⟩ := hw.ne
  have n1 : ¬ bc = ba := fun e => n4 e.symm
  have n2 : ¬ bc = bb := fun e => n5 e.symm
  have n3 : ¬ bc = 0 := fun e => n6 e.symm
  have A0 := Lib.hid (fun w h => add_any a0 b0 x w h64a.1 h64b.1 h)
  rw [o0] at A0
  have A1 := Lib.hid (fun w h => add_any a1 b1 x w h64a.2.1 h64b.2.1 h)
  rw [o1] at A1
  have J0 := Lib.hid hw
  clear hw h64a h64b o0 o1
  go_enter Tryd.func33, Tryd.ntmps33
  go_wp2
  refine wp_loop_rounds 6 ?_
  rw [rounds_succ]
  have p0 : w.cell? ⟨ba, 0, none⟩ = some (.int .i64 a0) := by simp [World.cell?, J0.out.hA]
  have q0 : w.cell? ⟨bb, 0, none⟩ = some (.int .i64 b0) := by simp [World.cell?, J0.out.hB]
  have c0 : w.cell? ⟨bc, 0, none⟩ = some (.int .i64 0) := by simp [World.cell?, J0.out.hC]
  have z0 : w.frozen? ⟨bc, 0, none⟩ = false := by simp [World.frozen?, J0.out.hC]
  have g0 : w.cell? ⟨0, 0, none⟩ = some (.iface 70 (.pointer (some x))) := J0.out.sent
  go_wp2_with fail
  go_region_held3 (fun w' => w'.cell? ⟨ba, 0, none⟩ = some (.int .i64 a0) ∧ w'.cell? ⟨bb, 0, none⟩ = some (.int .i64 b0) ∧ w'.cell? ⟨0, 0, none⟩ = some (.iface 70 (.pointer (some x))))
    (go_keep) (first | (go_at_call 27; refine (A0.out _ ?_).mono ?_; (first | assumption | exact g0 | (unfold Sent; simp [*])); rintro e w' ⟨rfl, rfl⟩))
  obtain ⟨W1, hW1⟩ : ∃ W, W = (w.setCell ⟨bc, 0, none⟩ (.int .i64 s0)).drew := ⟨_, rfl⟩
  have J1 : Hid (JW ba bb bc #[.int .i64 a0, .int .i64 a1, .int .i64 a2, .int .i64 a3, .int .i64 a4] #[.int .i64 b0, .int .i64 b1, .int .i64 b2, .int .i64 b3, .int .i64 b4] x w W1 #[.int .i64 s0, .int .i64 0, .int .i64 0, .int .i64 0, .int .i64 0]) := by rw [hW1]; exact Lib.hid (J0.out.store 0 (.int .i64 s0)).drew
  rw [← hW1]
  clear hW1 p0 q0 c0 z0 g0
  go_wp2_with fail
  rw [rounds_succ]
  have p1 : W1.cell? ⟨ba, 1, none⟩ = some (.int .i64 a1) := by simp [World.cell?, J1.out.hA]
  have q1 : W1.cell? ⟨bb, 1, none⟩ = some (.int .i64 b1) := by simp [World.cell?, J1.out.hB]
  have c1 : W1.cell? ⟨bc, 1, none⟩ = some (.int .i64 0) := by simp [World.cell?, J1.out.hC]
  have z1 : W1.frozen? ⟨bc, 1, none⟩ = false := by simp [World.frozen?, J1.out.hC]
  have g1 : W1.cell? ⟨0, 0, none⟩ = some (.iface 70 (.pointer (some x))) := J1.out.sent
  go_wp2_with fail
  go_region_with (go_at_call 27; refine (A1.out _ ?_).mono ?_; exact J1.out.drew.sent; rintro e w' ⟨rfl, rfl⟩; suffices _hd : wpAny Tryd.prog .any #[] (fun _ _ _ => True) 0 #[] ⟨#[], []⟩ w from ⟨rfl, rfl, J1.out.drew.grown⟩)
  all_goals trivial

set_option maxRecDepth 100000 in
set_option maxHeartbeats 4000000 in
theorem joinc_bad2 (ba bb bc : Nat) (a0 a1 a2 a3 a4 b0 b1 b2 b3 b4 s0 s1 : Int) (x : Addr) (w : World) (hw : JW ba bb bc #[.int .i64 a0, .int .i64 a1, .int .i64 a2, .int .i64 a3, .int .i64 a4] #[.int .i64 b0, .int .i64 b1, .int .i64 b2, .int .i64 b3, .int .i64 b4] x w w #[.int .i64 0, .int .i64 0, .int .i64 0, .int .i64 0, .int .i64 0])
    (h64a : In64 a0 ∧ In64 a1 ∧ In64 a2 ∧ In64 a3 ∧ In64 a4) (h64b : In64 b0 ∧ In64 b1 ∧ In64 b2 ∧ In64 b3 ∧ In64 b4) (o0 : addO a0 b0 = some s0) (o1 : addO a1 b1 = some s1) (o2 : addO a2 b2 = none) :
    Calls Tryd.prog 33 #[.pointer (some ⟨ba, 0, none⟩), .pointer (some ⟨bb, 0, none⟩), .pointer (some ⟨bc, 0, none⟩)] w fun e w2 => EndsO x none e ∧ w.grownBy w2 (some bc) := by
  obtain ⟨n4, n5, n6⟩ := hw.ne
  have n1 : ¬ bc = ba := fun e => n4 e.symm
  have n2 : ¬ bc = bb := fun e => n5 e.symm
  have n3 : ¬ bc = 0 := fun e => n6 e.symm
  have A0 := Lib.hid (fun w h => add_any a0 b0 x w h64a.1 h64b.1 h)
  rw [o0] at A0
  have A1 := Lib.hid (fun w h => add_any a1 b1 x w h64a.2.1 h64b.2.1 h)
  rw [o1] at A1
  have A2 := Lib.hid (fun w h => add_any a2 b2 x w h64a.2.2.1 h64b.2.2.1 h)
  rw [o2] at A2
  have J0 := Lib.hid hw
  clear hw h64a h64b o0 o1 o2
  go_enter Tryd.func33, Tryd.ntmps33
  go_wp2
  refine wp_loop_rounds 6 ?_
  rw [rounds_succ]
  have p0 : w.cell? ⟨ba, 0, none⟩ = some (.int .i64 a0) := by simp [World.cell?, J0.out.hA]
  have q0 : w.cell? ⟨bb, 0, none⟩ = some (.int .i64 b0) := by simp [World.cell?, J0.out.hB]
  have c0 : w.cell? ⟨bc, 0, none⟩ = some (.int .i64 0) := by simp [World.cell?, J0.out.hC]
  have z0 : w.frozen? ⟨bc, 0, none⟩ = false := by simp [World.frozen?, J0.out.hC]
  have g0 : w.cell? ⟨0, 0, none⟩ = some (.iface 70 (.pointer (some x))) := J0.out.sent
  go_wp2_with fail
  go_region_held3 (fun w' => w'.cell? ⟨ba, 0, none⟩ = some (.int .i64 a0) ∧ w'.cell? ⟨bb, 0, none⟩ = some (.int .i64 b0) ∧ w'.cell? ⟨0, 0, none⟩ = some (.iface 70 (.pointer (some x))))
    (go_keep) (first | (go_at_call 27; refine (A0.out _ ?_).mono ?_; (first | assumption | exact g0 | (unfold Sent; simp [*])); rintro e w' ⟨rfl, rfl⟩))
  obtain ⟨W1, hW1⟩ : ∃ W, W = (w.setCell ⟨bc, 0, none⟩ (.int .i64 s0)).drew := ⟨_, rfl⟩
  have J1 : Hid (JW ba bb bc #[.int .i64 a0, .int .i64 a1, .int .i64 a2, .int .i64 a3, .int .i64 a4] #[.int .i64 b0, .int .i64 b1, .int .i64 b2, .int .i64 b3, .int .i64 b4] x w W1 #[.int .i64 s0, .int .i64 0, .int .i64 0, .int .i64 0, .int .i64 0]) := by rw [hW1]; exact Lib.hid (J0.out.store 0 (.int .i64 s0)).drew
  rw [← hW1]
  clear hW1 p0 q0 c0 z0 g0
  go_wp2_with fail
  rw [rounds_succ]
  have p1 : W1.cell? ⟨ba, 1, none⟩ = some (.int .i64 a1) := by simp [World.cell?, J1.out.hA]
  have q1 : W1.cell? ⟨bb, 1, none⟩ = some (.int .i64 b1) := by simp [World.cell?, J1.out.hB]
  have c1 : W1.cell? ⟨bc, 1, none⟩ = some (.int .i64 0) := by simp [World.cell?, J1.out.hC]
  have z1 : W1.frozen? ⟨bc, 1, none⟩ = false := by simp [World.frozen?, J1.out.hC]
  have g1 : W1.cell? ⟨0, 0, none⟩ = some (.iface 70 (.pointer (some x))) := J1.out.sent
  go_wp2_with fail
  go_region_held3 (fun w' => w'.cell? ⟨ba, 1, none⟩ = some (.int .i64 a1) ∧ w'.cell? ⟨bb, 1, none⟩ = some (.int .i64 b1) ∧ w'.cell? ⟨0, 0, none⟩ = some (.iface 70 (.pointer (some x))))
    (go_keep) (first | (go_at_call 27; refine (A1.out _ ?_).mono ?_; (first | assumption | exact g1 | (unfold Sent; simp [*])); rintro e w' ⟨rfl, rfl⟩))
  obtain ⟨W2, hW2⟩ : ∃ W, W = (W1.setCell ⟨bc, 1, none⟩ (.int .i64 s1)).drew := ⟨_, rfl⟩
  have J2 : Hid (JW ba bb bc #[.int .i64 a0, .int .i64 a1, .int .i64 a2, .int .i64 a3, .int .i64 a4] #[.int .i64 b0, .int .i64 b1, .int .i64 b2, .int .i64 b3, .int .i64 b4] x w W2 #[.int .i64 s0, .int .i64 s1, .int .i64 0, .int .i64 0, .int .i64 0]) := by rw [hW2]; exact Lib.hid (J1.out.store 1 (.int .i64 s1)).drew
  rw [← hW2]
  clear hW2 p1 q1 c1 z1 g1
  go_wp2_with fail
  rw [rounds_succ]
  have p2 : W2.cell? ⟨ba, 2, none⟩ = some (.int .i64 a2) := by simp [World.cell?, J2.out.hA]
  have q2 : W2.cell? ⟨bb, 2, none⟩ = some (.int .i64 b2) := by simp [World.cell?, J2.out.hB]
  have c2 : W2.cell? ⟨bc, 2, none⟩ = some (.int .i64 0) := by simp [World.cell?, J2.out.hC]
  have z2 : W2.frozen? ⟨bc, 2, none⟩ = false := by simp [World.frozen?, J2.out.hC]
  have g2 : W2.cell? ⟨0, 0, none⟩ = some (.iface 70 (.pointer (some x))) := J2.out.sent
  go_wp2_with fail
  go_region_with (go_at_call 27; refine (A2.out _ ?_).mono ?_; exact J2.out.drew.sent; rintro e w' ⟨rfl, rfl⟩; suffices _hd : wpAny Tryd.prog .any #[] (fun _ _ _ => True) 0 #[] ⟨#[], []⟩ w from ⟨rfl, rfl, J2.out.drew.grown⟩)
  all_goals trivial

set_option maxRecDepth 100000 in
set_option maxHeartbeats 4000000 in
theorem joinc_bad3 (ba bb bc : Nat) (a0 a1 a2 a3 a4 b0 b1 b2 b3 b4 s0 s1 s2 : Int) (x : Addr) (w : World) (hw : JW ba bb bc #[.int .i64 a0, .int .i64 a1, .int .i64 a2, .int .i64 a3, .int .i64 a4] #[.int .i64 b0, .int .i64 b1, .int .i64 b2, .int .i64 b3, .int .i64 b4] x w w #[.int .i64 0, .int .i64 0, .int .i64 0, .int .i64 0, .int .i64 0])
    (h64a : In64 a0 ∧ In64 a1 ∧ In64 a2 ∧ In64 a3 ∧ In64 a4) (h64b : In64 b0 ∧ In64 b1 ∧ In64 b2 ∧ In64 b3 ∧ In64 b4) (o0 : addO a0 b0 = some s0) (o1 : addO a1 b1 = some s1) (o2 : addO a2 b2 = some s2) (o3 : addO a3 b3 = none) :
    Calls Tryd.prog 33 #[.pointer (some ⟨ba, 0, none⟩), .pointer (some ⟨bb, 0, none⟩), .pointer (some ⟨bc, 0, none⟩)] w fun e w2 => EndsO x none e ∧ w.grownBy w2 (some bc) := by
  obtain ⟨n4, n5, n6⟩ := hw.ne
  have n1 : ¬ bc = ba := fun e => n4 e.symm
  have n2 : ¬ bc = bb := fun e => n5 e.symm
  have n3 : ¬ bc = 0 := fun e => n6 e.symm
  have A0 := Lib.hid (fun w h => add_any a0 b0 x w h64a.1 h64b.1 h)
  rw [o0] at A0
  have A1 := Lib.hid (fun w h => add_any a1 b1 x w h64a.2.1 h64b.2.1 h)
  rw [o1] at A1
  have A2 := Lib.hid (fun w h => add_any a2 b2 x w h64a.2.2.1 h64b.2.2.1 h)
  rw [o2] at A2
  have A3 := Lib.hid (fun w h => add_any a3 b3 x w h64a.2.2.2.1 h64b.2.2.2.1 h)
  rw [o3] at A3
  have J0 := Lib.hid hw
  clear hw h64a h64b o0 o1 o2 o3
  go_enter Tryd.func33, Tryd.ntmps33
  go_wp2
  refine wp_loop_rounds 6 ?_
  rw [rounds_succ]
  have p0 : w.cell? ⟨ba, 0, none⟩ = some (.int .i64 a0) := by simp [World.cell?, J0.out.hA]
  have q0 : w.cell? ⟨bb, 0, none⟩ = some (.int .i64 b0) := by simp [World.cell?, J0.out.hB]
  have c0 : w.cell? ⟨bc, 0, none⟩ = some (.int .i64 0) := by simp [World.cell?, J0.out.hC]
  have z0 : w.frozen? ⟨bc, 0, none⟩ = false := by simp [World.frozen?, J0.out.hC]
  have g0 : w.cell? ⟨0, 0, none⟩ = some (.iface 70 (.pointer (some x))) := J0.out.sent
  go_wp2_with fail
  go_region_held3 (fun w' => w'.cell? ⟨ba, 0, none⟩ = some (.int .i64 a0) ∧ w'.cell? ⟨bb, 0, none⟩ = some (.int .i64 b0) ∧ w'.cell? ⟨0, 0, none⟩ = some (.iface 70 (.pointer (some x))))
    (go_keep) (first | (go_at_call 27; refine (A0.out _ ?_).mono ?_; (first | assumption | exact g0 | (unfold Sent; simp [*])); rintro e w' ⟨rfl, rfl⟩))
  obtain ⟨W1, hW1⟩ : ∃ W, W = (w.setCell ⟨bc, 0, none⟩ (.int .i64 s0)).drew := ⟨_, rfl⟩
  have J1 : Hid (JW ba bb bc #[.int .i64 a0, .int .i64 a1, .int .i64 a2, .int .i64 a3, .int .i64 a4] #[.int .i64 b0, .int .i64 b1, .int .i64 b2, .int .i64 b3, .int .i64 b4] x w W1 #[.int .i64 s0, .int .i64 0, .int .i64 0, .int .i64 0, .int .i64 0]) := by rw [hW1]; exact Lib.hid (J0.out.store 0 (.int .i64 s0)).drew
  rw [← hW1]
  clear hW1 p0 q0 c0 z0 g0
  go_wp2_with fail
  rw [rounds_succ]
  have p1 : W1.cell? ⟨ba, 1, none⟩ = some (.int .i64 a1) := by simp [World.cell?, J1.out.hA]
  have q1 : W1.cell? ⟨bb, 1, none⟩ = some (.int .i64 b1) := by simp [World.cell?, J1.out.hB]
  have c1 : W1.cell? ⟨bc, 1, none⟩ = some (.int .i64 0) := by simp [World.cell?, J1.out.hC]
  have z1 : W1.frozen? ⟨bc, 1, none⟩ = false := by simp [World.frozen?, J1.out.hC]
  have g1 : W1.cell? ⟨0, 0, none⟩ = some (.iface 70 (.pointer (some x))) := J1.out.sent
  go_wp2_with fail
  go_region_held3 (fun w' => w'.cell? ⟨ba, 1, none⟩ = some (.int .i64 a1) ∧ w'.cell? ⟨bb, 1, none⟩ = some (.int .i64 b1) ∧ w'.cell? ⟨0, 0, none⟩ = some (.iface 70 (.pointer (some x))))
    (go_keep) (first | (go_at_call 27; refine (A1.out _ ?_).mono ?_; (first | assumption | exact g1 | (unfold Sent; simp [*])); rintro e w' ⟨rfl, rfl⟩))
  obtain ⟨W2, hW2⟩ : ∃ W, W = (W1.setCell ⟨bc, 1, none⟩ (.int .i64 s1)).drew := ⟨_, rfl⟩
  have J2 : Hid (JW ba bb bc #[.int .i64 a0, .int .i64 a1, .int .i64 a2, .int .i64 a3, .int .i64 a4] #[.int .i64 b0, .int .i64 b1, .int .i64 b2, .int .i64 b3, .int .i64 b4] x w W2 #[.int .i64 s0, .int .i64 s1, .int .i64 0, .int .i64 0, .int .i64 0]) := by rw [hW2]; exact Lib.hid (J1.out.store 1 (.int .i64 s1)).drew
  rw [← hW2]
  clear hW2 p1 q1 c1 z1 g1
  go_wp2_with fail
  rw [rounds_succ]
  have p2 : W2.cell? ⟨ba, 2, none⟩ = some (.int .i64 a2) := by simp [World.cell?, J2.out.hA]
  have q2 : W2.cell? ⟨bb, 2, none⟩ = some (.int .i64 b2) := by simp [World.cell?, J2.out.hB]
  have c2 : W2.cell? ⟨bc, 2, none⟩ = some (.int .i64 0) := by simp [World.cell?, J2.out.hC]
  have z2 : W2.frozen? ⟨bc, 2, none⟩ = false := by simp [World.frozen?, J2.out.hC]
  have g2 : W2.cell? ⟨0, 0, none⟩ = some (.iface 70 (.pointer (some x))) := J2.out.sent
  go_wp2_with fail
  go_region_held3 (fun w' => w'.cell? ⟨ba, 2, none⟩ = some (.int .i64 a2) ∧ w'.cell? ⟨bb, 2, none⟩ = some (.int .i64 b2) ∧ w'.cell? ⟨0, 0, none⟩ = some (.iface 70 (.pointer (some x))))
    (go_keep) (first | (go_at_call 27; refine (A2.out _ ?_).mono ?_; (first | assumption | exact g2 | (unfold Sent; simp [*])); rintro e w' ⟨rfl, rfl⟩))
  obtain ⟨W3, hW3⟩ : ∃ W, W = (W2.setCell ⟨bc, 2, none⟩ (.int .i64 s2)).drew := ⟨_, rfl⟩
  have J3 : Hid (JW ba bb bc #[.int .i64 a0, .int .i64 a1, .int .i64 a2, .int .i64 a3, .int .i64 a4] #[.int .i64 b0, .int .i64 b1, .int .i64 b2, .int .i64 b3, .int .i64 b4] x w W3 #[.int .i64 s0, .int .i64 s1, .int .i64 s2, .int .i64 0, .int .i64 0]) := by rw [hW3]; exact Lib.hid (J2.out.store 2 (.int .i64 s2)).drew
  rw [← hW3]
  clear hW3 p2 q2 c2 z2 g2
  go_wp2_with fail
  rw [rounds_succ]
  have p3 : W3.cell? ⟨ba, 3, none⟩ = some (.int .i64 a3) := by simp [World.cell?, J3.out.hA]
  have q3 : W3.cell? ⟨bb, 3, none⟩ = some (.int .i64 b3) := by simp [World.cell?, J3.out.hB]
  have c3 : W3.cell? ⟨bc, 3, none⟩ = some (.int .i64 0) := by simp [World.cell?, J3.out.hC]
  have z3 : W3.frozen? ⟨bc, 3, none⟩ = false := by simp [World.frozen?, J3.out.hC]
  have g3 : W3.cell? ⟨0, 0, none⟩ = some (.iface 70 (.pointer (some x))) := J3.out.sent
  go_wp2_with fail
  go_region_with (go_at_call 27; refine (A3.out _ ?_).mono ?_; exact J3.out.drew.sent; rintro e w' ⟨rfl, rfl⟩; suffices _hd : wpAny Tryd.prog .any #[] (fun _ _ _ => True) 0 #[] ⟨#[], []⟩ w from ⟨rfl, rfl, J3.out.drew.grown⟩)
  all_goals trivial

set_option maxRecDepth 100000 in
set_option maxHeartbeats 4000000 in
theorem joinc_bad4 (ba bb bc : Nat) (a0 a1 a2 a3 a4 b0 b1 b2 b3 b4 s0 s1 s2 s3 : Int) (x : Addr) (w : World) (hw : JW ba bb bc #[.int .i64 a0, .int .i64 a1, .int .i64 a2, .int .i64 a3, .int .i64 a4] #[.int .i64 b0, .int .i64 b1, .int .i64 b2, .int .i64 b3, .int .i64 b4] x w w #[.int .i64 0, .int .i64 0, .int .i64 0, .int .i64 0, .int .i64 0])
    (h64a : In64 a0 ∧ In64 a1 ∧ In64 a2 ∧ In64 a3 ∧ In64 a4) (h64b : In64 b0 ∧ In64 b1 ∧ In64 b2 ∧ In64 b3 ∧ In64 b4) (o0 : addO a0 b0 = some s0) (o1 : addO a1 b1 = some s1) (o2 : addO a2 b2 = some s2) (o3 : addO a3 b3 = some s3) (o4 : addO a4 b4 = none) :
    Calls Tryd.prog 33 #[.pointer (some ⟨ba, 0, none⟩), .pointer (some ⟨bb, 0, none⟩), .pointer (some ⟨bc, 0, none⟩)] w fun e w2 => EndsO x none e ∧ w.grownBy w2 (some bc) := by
  obtain ⟨n4, n5, n6⟩ := hw.ne
  have n1 : ¬ bc = ba := fun e => n4 e.symm
  have n2 : ¬ bc = bb := fun e => n5 e.symm
  have n3 : ¬ bc = 0 := fun e => n6 e.symm
  have A0 := Lib.hid (fun w h => add_any a0 b0 x w h64a.1 h64b.1 h)
  rw [o0] at A0
  have A1 := Lib.hid (fun w h => add_any a1 b1 x w h64a.2.1 h64b.2.1 h)
  rw [o1] at A1
  have A2 := Lib.hid (fun w h => add_any a2 b2 x w h64a.2.2.1 h64b.2.2.1 h)
  rw [o2] at A2
  have A3 := Lib.hid (fun w h => add_any a3 b3 x w h64a.2.2.2.1 h64b.2.2.2.1 h)
  rw [o3] at A3
  have A4 := Lib.hid (fun w h => add_any a4 b4 x w h64a.2.2.2.2 h64b.2.2.2.2 h)
  rw [o4] at A4
  have J0 := Lib.hid hw
  clear hw h64a h64b o0 o1 o2 o3 o4
  go_enter Tryd.func33, Tryd.ntmps33
  go_wp2
  refine wp_loop_rounds 6 ?_
  rw [rounds_succ]
  have p0 : w.cell? ⟨ba, 0, none⟩ = some (.int .i64 a0) := by simp [World.cell?, J0.out.hA]
  have q0 : w.cell? ⟨bb, 0, none⟩ = some (.int .i64 b0) := by simp [World.cell?, J0.out.hB]
  have c0 : w.cell? ⟨bc, 0, none⟩ = some (.int .i64 0) := by simp [World.cell?, J0.out.hC]
  have z0 : w.frozen? ⟨bc, 0, none⟩ = false := by simp [World.frozen?, J0.out.hC]
  have g0 : w.cell? ⟨0, 0, none⟩ = some (.iface 70 (.pointer (some x))) := J0.out.sent
  go_wp2_with fail
  go_region_held3 (fun w' => w'.cell? ⟨ba, 0, none⟩ = some (.int .i64 a0) ∧ w'.cell? ⟨bb, 0, none⟩ = some (.int .i64 b0) ∧ w'.cell? ⟨0, 0, none⟩ = some (.iface 70 (.pointer (some x))))
    (go_keep) (first | (go_at_call 27; refine (A0.out _ ?_).mono ?_; (first | assumption | exact g0 | (unfold Sent; simp [*])); rintro e w' ⟨rfl, rfl⟩))
  obtain ⟨W1, hW1⟩ : ∃ W, W = (w.setCell ⟨bc, 0, none⟩ (.int .i64 s0)).drew := ⟨_, rfl⟩
  have J1 : Hid (JW ba bb bc #[.int .i64 a0, .int .i64 a1, .int .i64 a2, .int .i64 a3, .int .i64 a4] #[.int .i64 b0, .int .i64 b1, .int .i64 b2, .int .i64 b3, .int .i64 b4] x w W1 #[.int .i64 s0, .int .i64 0, .int .i64 0, .int .i64 0, .int .i64 0]) := by rw [hW1]; exact Lib.hid (J0.out.store 0 (.int .i64 s0)).drew
  rw [← hW1]
  clear hW1 p0 q0 c0 z0 g0
  go_wp2_with fail
  rw [rounds_succ]
  have p1 : W1.cell? ⟨ba, 1, none⟩ = some (.int .i64 a1) := by simp [World.cell?, J1.out.hA]
  have q1 : W1.cell? ⟨bb, 1, none⟩ = some (.int .i64 b1) := by simp [World.cell?, J1.out.hB]
  have c1 : W1.cell? ⟨bc, 1, none⟩ = some (.int .i64 0) := by simp [World.cell?, J1.out.hC]
  have z1 : W1.frozen? ⟨bc, 1, none⟩ = false := by simp [World.frozen?, J1.out.hC]
  have g1 : W1.cell? ⟨0, 0, none⟩ = some (.iface 70 (.pointer (some x))) := J1.out.sent
  go_wp2_with fail
  go_region_held3 (fun w' => w'.cell? ⟨ba, 1, none⟩ = some (.int .i64 a1) ∧ w'.cell? ⟨bb, 1, none⟩ = some (.int .i64 b1) ∧ w'.cell? ⟨0, 0, none⟩ = some (.iface 70 (.pointer (some x))))
    (go_keep) (first | (go_at_call 27; refine (A1.out _ ?_).mono ?_; (first | assumption | exact g1 | (unfold Sent; simp [*])); rintro e w' ⟨rfl, rfl⟩))
  obtain ⟨W2, hW2⟩ : ∃ W, W = (W1.setCell ⟨bc, 1, none⟩ (.int .i64 s1)).drew := ⟨_, rfl⟩
  have J2 : Hid (JW ba bb bc #[.int .i64 a0, .int .i64 a1, .int .i64 a2, .int .i64 a3, .int .i64 a4] #[.int .i64 b0, .int .i64 b1, .int .i64 b2, .int .i64 b3, .int .i64 b4] x w W2 #[.int .i64 s0, .int .i64 s1, .int .i64 0, .int .i64 0, .int .i64 0]) := by rw [hW2]; exact Lib.hid (J1.out.store 1 (.int .i64 s1)).drew
  rw [← hW2]
  clear hW2 p1 q1 c1 z1 g1
  go_wp2_with fail
  rw [rounds_succ]
  have p2 : W2.cell? ⟨ba, 2, none⟩ = some (.int .i64 a2) := by simp [World.cell?, J2.out.hA]
  have q2 : W2.cell? ⟨bb, 2, none⟩ = some (.int .i64 b2) := by simp [World.cell?, J2.out.hB]
  have c2 : W2.cell? ⟨bc, 2, none⟩ = some (.int .i64 0) := by simp [World.cell?, J2.out.hC]
  have z2 : W2.frozen? ⟨bc, 2, none⟩ = false := by simp [World.frozen?, J2.out.hC]
  have g2 : W2.cell? ⟨0, 0, none⟩ = some (.iface 70 (.pointer (some x))) := J2.out.sent
  go_wp2_with fail
  go_region_held3 (fun w' => w'.cell? ⟨ba, 2, none⟩ = some (.int .i64 a2) ∧ w'.cell? ⟨bb, 2, none⟩ = some (.int .i64 b2) ∧ w'.cell? ⟨0, 0, none⟩ = some (.iface 70 (.pointer (some x))))
    (go_keep) (first | (go_at_call 27; refine (A2.out _ ?_).mono ?_; (first | assumption | exact g2 | (unfold Sent; simp [*])); rintro e w' ⟨rfl, rfl⟩))
  obtain ⟨W3, hW3⟩ : ∃ W, W = (W2.setCell ⟨bc, 2, none⟩ (.int .i64 s2)).drew := ⟨_, rfl⟩
  have J3 : Hid (JW ba bb bc #[.int .i64 a0, .int .i64 a1, .int .i64 a2, .int .i64 a3, .int .i64 a4] #[.int .i64 b0, .int .i64 b1, .int .i64 b2, .int .i64 b3, .int .i64 b4] x w W3 #[.int .i64 s0, .int .i64 s1, .int .i64 s2, .int .i64 0, .int .i64 0]) := by rw [hW3]; exact Lib.hid (J2.out.store 2 (.int .i64 s2)).drew
  rw [← hW3]
  clear hW3 p2 q2 c2 z2 g2
  go_wp2_with fail
  rw [rounds_succ]
  have p3 : W3.cell? ⟨ba, 3, none⟩ = some (.int .i64 a3) := by simp [World.cell?, J3.out.hA]
  have q3 : W3.cell? ⟨bb, 3, none⟩ = some (.int .i64 b3) := by simp [World.cell?, J3.out.hB]
  have c3 : W3.cell? ⟨bc, 3, none⟩ = some (.int .i64 0) := by simp [World.cell?, J3.out.hC]
  have z3 : W3.frozen? ⟨bc, 3, none⟩ = false := by simp [World.frozen?, J3.out.hC]
  have g3 : W3.cell? ⟨0, 0, none⟩ = some (.iface 70 (.pointer (some x))) := J3.out.sent
  go_wp2_with fail
  go_region_held3 (fun w' => w'.cell? ⟨ba, 3, none⟩ = some (.int .i64 a3) ∧ w'.cell? ⟨bb, 3, none⟩ = some (.int .i64 b3) ∧ w'.cell? ⟨0, 0, none⟩ = some (.iface 70 (.pointer (some x))))
    (go_keep) (first | (go_at_call 27; refine (A3.out _ ?_).mono ?_; (first | assumption | exact g3 | (unfold Sent; simp [*])); rintro e w' ⟨rfl, rfl⟩))
  obtain ⟨W4, hW4⟩ : ∃ W, W = (W3.setCell ⟨bc, 3, none⟩ (.int .i64 s3)).drew := ⟨_, rfl⟩
  have J4 : Hid (JW ba bb bc #[.int .i64 a0, .int .i64 a1, .int .i64 a2, .int .i64 a3, .int .i64 a4] #[.int .i64 b0, .int .i64 b1, .int .i64 b2, .int .i64 b3, .int .i64 b4] x w W4 #[.int .i64 s0, .int .i64 s1, .int .i64 s2, .int .i64 s3, .int .i64 0]) := by rw [hW4]; exact Lib.hid (J3.out.store 3 (.int .i64 s3)).drew
  rw [← hW4]
  clear hW4 p3 q3 c3 z3 g3
  go_wp2_with fail
  rw [rounds_succ]
  have p4 : W4.cell? ⟨ba, 4, none⟩ = some (.int .i64 a4) := by simp [World.cell?, J4.out.hA]
  have q4 : W4.cell? ⟨bb, 4, none⟩ = some (.int .i64 b4) := by simp [World.cell?, J4.out.hB]
  have c4 : W4.cell? ⟨bc, 4, none⟩ = some (.int .i64 0) := by simp [World.cell?, J4.out.hC]
  have z4 : W4.frozen? ⟨bc, 4, none⟩ = false := by simp [World.frozen?, J4.out.hC]
  have g4 : W4.cell? ⟨0, 0, none⟩ = some (.iface 70 (.pointer (some x))) := J4.out.sent
  go_wp2_with fail
  go_region_with (go_at_call 27; refine (A4.out _ ?_).mono ?_; exact J4.out.drew.sent; rintro e w' ⟨rfl, rfl⟩; suffices _hd : wpAny Tryd.prog .any #[] (fun _ _ _ => True) 0 #[] ⟨#[], []⟩ w from ⟨rfl, rfl, J4.out.drew.grown⟩)
  all_goals trivial

set_option maxRecDepth 100000 in
set_option maxHeartbeats 4000000 in
theorem joinc_ok (ba bb bc : Nat) (a0 a1 a2 a3 a4 b0 b1 b2 b3 b4 s0 s1 s2 s3 s4 : Int) (x : Addr) (w : World) (hw : JW ba bb bc #[.int .i64 a0, .int .i64 a1, .int .i64 a2, .int .i64 a3, .int .i64 a4] #[.int .i64 b0, .int .i64 b1, .int .i64 b2, .int .i64 b3, .int .i64 b4] x w w #[.int .i64 0, .int .i64 0, .int .i64 0, .int .i64 0, .int .i64 0])
    (h64a : In64 a0 ∧ In64 a1 ∧ In64 a2 ∧ In64 a3 ∧ In64 a4) (h64b : In64 b0 ∧ In64 b1 ∧ In64 b2 ∧ In64 b3 ∧ In64 b4) (o0 : addO a0 b0 = some s0) (o1 : addO a1 b1 = some s1) (o2 : addO a2 b2 = some s2) (o3 : addO a3 b3 = some s3) (o4 : addO a4 b4 = some s4) :
    Calls Tryd.prog 33 #[.pointer (some ⟨ba, 0, none⟩), .pointer (some ⟨bb, 0, none⟩), .pointer (some ⟨bc, 0, none⟩)] w fun e w2 => EndsO x (some 0) e ∧ JW ba bb bc #[.int .i64 a0, .int .i64 a1, .int .i64 a2, .int .i64 a3, .int .i64 a4] #[.int .i64 b0, .int .i64 b1, .int .i64 b2, .int .i64 b3, .int .i64 b4] x w w2 #[.int .i64 s0, .int .i64 s1, .int .i64 s2, .int .i64 s3, .int .i64 s4] := by
  obtain ⟨n4, n5, n6⟩ := hw.ne
  have n1 : ¬ bc = ba := fun e => n4 e.symm
  have n2 : ¬ bc = bb := fun e => n5 e.symm
  have n3 : ¬ bc = 0 := fun e => n6 e.symm
  have A0 := Lib.hid (fun w h => add_any a0 b0 x w h64a.1 h64b.1 h)
  rw [o0] at A0
  have A1 := Lib.hid (fun w h => add_any a1 b1 x w h64a.2.1 h64b.2.1 h)
  rw [o1] at A1
  have A2 := Lib.hid (fun w h => add_any a2 b2 x w h64a.2.2.1 h64b.2.2.1 h)
  rw [o2] at A2
  have A3 := Lib.hid (fun w h => add_any a3 b3 x w h64a.2.2.2.1 h64b.2.2.2.1 h)
  rw [o3] at A3
  have A4 := Lib.hid (fun w h => add_any a4 b4 x w h64a.2.2.2.2 h64b.2.2.2.2 h)
  rw [o4] at A4
  have J0 := Lib.hid hw
  clear hw h64a h64b o0 o1 o2 o3 o4
  go_enter Tryd.func33, Tryd.ntmps33
  go_wp2
  refine wp_loop_rounds 6 ?_
  rw [rounds_succ]
  have p0 : w.cell? ⟨ba, 0, none⟩ = some (.int .i64 a0) := by simp [World.cell?, J0.out.hA]
  have q0 : w.cell? ⟨bb, 0, none⟩ = some (.int .i64 b0) := by simp [World.cell?, J0.out.hB]
  have c0 : w.cell? ⟨bc, 0, none⟩ = some (.int .i64 0) := by simp [World.cell?, J0.out.hC]
  have z0 : w.frozen? ⟨bc, 0, none⟩ = false := by simp [World.frozen?, J0.out.hC]
  have g0 : w.cell? ⟨0, 0, none⟩ = some (.iface 70 (.pointer (some x))) := J0.out.sent
  go_wp2_with fail
  go_region_held3 (fun w' => w'.cell? ⟨ba, 0, none⟩ = some (.int .i64 a0) ∧ w'.cell? ⟨bb, 0, none⟩ = some (.int .i64 b0) ∧ w'.cell? ⟨0, 0, none⟩ = some (.iface 70 (.pointer (some x))))
    (go_keep) (first | (go_at_call 27; refine (A0.out _ ?_).mono ?_; (first | assumption | exact g0 | (unfold Sent; simp [*])); rintro e w' ⟨rfl, rfl⟩))
  obtain ⟨W1, hW1⟩ : ∃ W, W = (w.setCell ⟨bc, 0, none⟩ (.int .i64 s0)).drew := ⟨_, rfl⟩
  have J1 : Hid (JW ba bb bc #[.int .i64 a0, .int .i64 a1, .int .i64 a2, .int .i64 a3, .int .i64 a4] #[.int .i64 b0, .int .i64 b1, .int .i64 b2, .int .i64 b3, .int .i64 b4] x w W1 #[.int .i64 s0, .int .i64 0, .int .i64 0, .int .i64 0, .int .i64 0]) := by rw [hW1]; exact Lib.hid (J0.out.store 0 (.int .i64 s0)).drew
  rw [← hW1]
  clear hW1 p0 q0 c0 z0 g0
  go_wp2_with fail
  rw [rounds_succ]
  have p1 : W1.cell? ⟨ba, 1, none⟩ = some (.int .i64 a1) := by simp [World.cell?, J1.out.hA]
  have q1 : W1.cell? ⟨bb, 1, none⟩ = some (.int .i64 b1) := by simp [World.cell?, J1.out.hB]
  have c1 : W1.cell? ⟨bc, 1, none⟩ = some (.int .i64 0) := by simp [World.cell?, J1.out.hC]
  have z1 : W1.frozen? ⟨bc, 1, none⟩ = false := by simp [World.frozen?, J1.out.hC]
  have g1 : W1.cell? ⟨0, 0, none⟩ = some (.iface 70 (.pointer (some x))) := J1.out.sent
  go_wp2_with fail
  go_region_held3 (fun w' => w'.cell? ⟨ba, 1, none⟩ = some (.int .i64 a1) ∧ w'.cell? ⟨bb, 1, none⟩ = some (.int .i64 b1) ∧ w'.cell? ⟨0, 0, none⟩ = some (.iface 70 (.pointer (some x))))
    (go_keep) (first | (go_at_call 27; refine (A1.out _ ?_).mono ?_; (first | assumption | exact g1 | (unfold Sent; simp [*])); rintro e w' ⟨rfl, rfl⟩))
  obtain ⟨W2, hW2⟩ : ∃ W, W = (W1.setCell ⟨bc, 1, none⟩ (.int .i64 s1)).drew := ⟨_, rfl⟩
  have J2 : Hid (JW ba bb bc #[.int .i64 a0, .int .i64 a1, .int .i64 a2, .int .i64 a3, .int .i64 a4] #[.int .i64 b0, .int .i64 b1, .int .i64 b2, .int .i64 b3, .int .i64 b4] x w W2 #[.int .i64 s0, .int .i64 s1, .int .i64 0, .int .i64 0, .int .i64 0]) := by rw [hW2]; exact Lib.hid (J1.out.store 1 (.int .i64 s1)).drew
  rw [← hW2]
  clear hW2 p1 q1 c1 z1 g1
  go_wp2_with fail
  rw [rounds_succ]
  have p2 : W2.cell? ⟨ba, 2, none⟩ = some (.int .i64 a2) := by simp [World.cell?, J2.out.hA]
  have q2 : W2.cell? ⟨bb, 2, none⟩ = some (.int .i64 b2) := by simp [World.cell?, J2.out.hB]
  have c2 : W2.cell? ⟨bc, 2, none⟩ = some (.int .i64 0) := by simp [World.cell?, J2.out.hC]
  have z2 : W2.frozen? ⟨bc, 2, none⟩ = false := by simp [World.frozen?, J2.out.hC]
  have g2 : W2.cell? ⟨0, 0, none⟩ = some (.iface 70 (.pointer (some x))) := J2.out.sent
  go_wp2_with fail
  go_region_held3 (fun w' => w'.cell? ⟨ba, 2, none⟩ = some (.int .i64 a2) ∧ w'.cell? ⟨bb, 2, none⟩ = some (.int .i64 b2) ∧ w'.cell? ⟨0, 0, none⟩ = some (.iface 70 (.pointer (some x))))
    (go_keep) (first | (go_at_call 27; refine (A2.out _ ?_).mono ?_; (first | assumption | exact g2 | (unfold Sent; simp [*])); rintro e w' ⟨rfl, rfl⟩))
  obtain ⟨W3, hW3⟩ : ∃ W, W = (W2.setCell ⟨bc, 2, none⟩ (.int .i64 s2)).drew := ⟨_, rfl⟩
  have J3 : Hid (JW ba bb bc #[.int .i64 a0, .int .i64 a1, .int .i64 a2, .int .i64 a3, .int .i64 a4] #[.int .i64 b0, .int .i64 b1, .int .i64 b2, .int .i64 b3, .int .i64 b4] x w W3 #[.int .i64 s0, .int .i64 s1, .int .i64 s2, .int .i64 0, .int .i64 0]) := by rw [hW3]; exact Lib.hid (J2.out.store 2 (.int .i64 s2)).drew
  rw [← hW3]
  clear hW3 p2 q2 c2 z2 g2
  go_wp2_with fail
  rw [rounds_succ]
  have p3 : W3.cell? ⟨ba, 3, none⟩ = some (.int .i64 a3) := by simp [World.cell?, J3.out.hA]
  have q3 : W3.cell? ⟨bb, 3, none⟩ = some (.int .i64 b3) := by simp [World.cell?, J3.out.hB]
  have c3 : W3.cell? ⟨bc, 3, none⟩ = some (.int .i64 0) := by simp [World.cell?, J3.out.hC]
  have z3 : W3.frozen? ⟨bc, 3, none⟩ = false := by simp [World.frozen?, J3.out.hC]
  have g3 : W3.cell? ⟨0, 0, none⟩ = some (.iface 70 (.pointer (some x))) := J3.out.sent
  go_wp2_with fail
  go_region_held3 (fun w' => w'.cell? ⟨ba, 3, none⟩ = some (.int .i64 a3) ∧ w'.cell? ⟨bb, 3, none⟩ = some (.int .i64 b3) ∧ w'.cell? ⟨0, 0, none⟩ = some (.iface 70 (.pointer (some x))))
    (go_keep) (first | (go_at_call 27; refine (A3.out _ ?_).mono ?_; (first | assumption | exact g3 | (unfold Sent; simp [*])); rintro e w' ⟨rfl, rfl⟩))
  obtain ⟨W4, hW4⟩ : ∃ W, W = (W3.setCell ⟨bc, 3, none⟩ (.int .i64 s3)).drew := ⟨_, rfl⟩
  have J4 : Hid (JW ba bb bc #[.int .i64 a0, .int .i64 a1, .int .i64 a2, .int .i64 a3, .int .i64 a4] #[.int .i64 b0, .int .i64 b1, .int .i64 b2, .int .i64 b3, .int .i64 b4] x w W4 #[.int .i64 s0, .int .i64 s1, .int .i64 s2, .int .i64 s3, .int .i64 0]) := by rw [hW4]; exact Lib.hid (J3.out.store 3 (.int .i64 s3)).drew
  rw [← hW4]
  clear hW4 p3 q3 c3 z3 g3
  go_wp2_with fail
  rw [rounds_succ]
  have p4 : W4.cell? ⟨ba, 4, none⟩ = some (.int .i64 a4) := by simp [World.cell?, J4.out.hA]
  have q4 : W4.cell? ⟨bb, 4, none⟩ = some (.int .i64 b4) := by simp [World.cell?, J4.out.hB]
  have c4 : W4.cell? ⟨bc, 4, none⟩ = some (.int .i64 0) := by simp [World.cell?, J4.out.hC]
  have z4 : W4.frozen? ⟨bc, 4, none⟩ = false := by simp [World.frozen?, J4.out.hC]
  have g4 : W4.cell? ⟨0, 0, none⟩ = some (.iface 70 (.pointer (some x))) := J4.out.sent
  go_wp2_with fail
  go_region_held3 (fun w' => w'.cell? ⟨ba, 4, none⟩ = some (.int .i64 a4) ∧ w'.cell? ⟨bb, 4, none⟩ = some (.int .i64 b4) ∧ w'.cell? ⟨0, 0, none⟩ = some (.iface 70 (.pointer (some x))))
    (go_keep) (first | (go_at_call 27; refine (A4.out _ ?_).mono ?_; (first | assumption | exact g4 | (unfold Sent; simp [*])); rintro e w' ⟨rfl, rfl⟩))
  obtain ⟨W5, hW5⟩ : ∃ W, W = (W4.setCell ⟨bc, 4, none⟩ (.int .i64 s4)).drew := ⟨_, rfl⟩
  have J5 : Hid (JW ba bb bc #[.int .i64 a0, .int .i64 a1, .int .i64 a2, .int .i64 a3, .int .i64 a4] #[.int .i64 b0, .int .i64 b1, .int .i64 b2, .int .i64 b3, .int .i64 b4] x w W5 #[.int .i64 s0, .int .i64 s1, .int .i64 s2, .int .i64 s3, .int .i64 s4]) := by rw [hW5]; exact Lib.hid (J4.out.store 4 (.int .i64 s4)).drew
  rw [← hW5]
  clear hW5 p4 q4 c4 z4 g4
  go_wp2_with fail
  rw [rounds_succ]
  go_wp2_with fail
  go_ret
  exact ⟨rfl, J5.out⟩

end Go.Proofs.YtjdpocoahinbfaaDoor
