/-
  The reference: Join.
-/
import Derived.Test.YtjdpocoahinbfaaDoorRa
import Derived.Test.YtjdpocoahinbfaaDoorWk
import Derived.BigQuiet
import Derived.Deep.QuietTactic
import Derived.WalkSmall
import Derived.Outline
namespace Go.Proofs.YtjdpocoahinbfaaDoor
open Go.RowKit Go.Lib

theorem radd_is (a b n e : Int) (ha : In64 a) (hb : In64 b) (h1 : valO (addO a b) = n) (h2 : errO (addO a b) = e) (w : World) :
    Calls Tryd.prog 12 #[.int .i64 a, .int .i64 b] w fun r w' => r = .returned (.tuple #[.int .i64 n, .int .i64 e]) ∧ w' = w := by
  subst h1 h2
  exact (radd_any a b w ha hb).mono fun _ _ h => ⟨h.1, h.2.symm⟩

set_option maxRecDepth 100000 in
set_option maxHeartbeats 1000000 in
theorem rjoin_bad0 (a0 a1 a2 a3 a4 b0 b1 b2 b3 b4  : Int) (w : World) (h64a : In64 a0 ∧ In64 a1 ∧ In64 a2 ∧ In64 a3 ∧ In64 a4) (h64b : In64 b0 ∧ In64 b1 ∧ In64 b2 ∧ In64 b3 ∧ In64 b4)  (o0 : addO a0 b0 = none) :
    Calls Tryd.prog 22 #[(C5.mk a0 a1 a2 a3 a4).v, (C5.mk b0 b1 b2 b3 b4).v] w fun e w' => e = .returned (.tuple #[.agg #[.int .i64 0, .int .i64 0, .int .i64 0, .int .i64 0, .int .i64 0], .int .i64 2]) ∧ Below w.heap.size w w' := by
  have A0 := Lib.hid (fun w => radd_is a0 b0 0 2 h64a.1 h64b.1 (by rw [o0]; rfl) (by rw [o0]; rfl) w)
  clear h64a h64b o0
  go_enter Tryd.func22, Tryd.ntmps22
  go_wp2
  refine wp_loop_rounds 6 ?_
  rw [rounds_succ]
  go_wp2_with fail
  go_quiet ((go_at_call 12; exact Calls.quiet_of_same (A0.out _)))
  go_wp2_with fail
  refine bodyPost_ret (v := .tuple #[.agg #[.int .i64 0, .int .i64 0, .int .i64 0, .int .i64 0, .int .i64 0], .int .i64 2]) (by simp [results, Tryd.results22, go_sem]) rfl ⟨rfl, ?_⟩
  repeat (first | with_reducible refine Below.setCell ?_ (by dsimp only; omega) _ | with_reducible refine below_drewN ?_ _ | with_reducible refine Below.drew ?_ | with_reducible refine Below.alloc ?_ (by first | exact Nat.le_refl _ | (simp; done) | (simp; omega)) _ | with_reducible exact Below.refl _ _)

set_option maxRecDepth 100000 in
set_option maxHeartbeats 1000000 in
theorem rjoin_bad1 (a0 a1 a2 a3 a4 b0 b1 b2 b3 b4 s0 : Int) (w : World) (h64a : In64 a0 ∧ In64 a1 ∧ In64 a2 ∧ In64 a3 ∧ In64 a4) (h64b : In64 b0 ∧ In64 b1 ∧ In64 b2 ∧ In64 b3 ∧ In64 b4) (o0 : addO a0 b0 = some s0) (o1 : addO a1 b1 = none) :
    Calls Tryd.prog 22 #[(C5.mk a0 a1 a2 a3 a4).v, (C5.mk b0 b1 b2 b3 b4).v] w fun e w' => e = .returned (.tuple #[.agg #[.int .i64 0, .int .i64 0, .int .i64 0, .int .i64 0, .int .i64 0], .int .i64 2]) ∧ Below w.heap.size w w' := by
  have A0 := Lib.hid (fun w => radd_is a0 b0 s0 0 h64a.1 h64b.1 (by rw [o0]; rfl) (by rw [o0]; rfl) w)
  have A1 := Lib.hid (fun w => radd_is a1 b1 0 2 h64a.2.1 h64b.2.1 (by rw [o1]; rfl) (by rw [o1]; rfl) w)
  clear h64a h64b o0 o1
  go_enter Tryd.func22, Tryd.ntmps22
  go_wp2
  refine wp_loop_rounds 6 ?_
  rw [rounds_succ]
  go_wp2_with fail
  go_quiet ((go_at_call 12; exact Calls.quiet_of_same (A0.out _)))
  go_wp2_with fail
  rw [rounds_succ]
  go_wp2_with fail
  go_quiet ((go_at_call 12; exact Calls.quiet_of_same (A1.out _)))
  go_wp2_with fail
  refine bodyPost_ret (v := .tuple #[.agg #[.int .i64 0, .int .i64 0, .int .i64 0, .int .i64 0, .int .i64 0], .int .i64 2]) (by simp [results, Tryd.results22, go_sem]) rfl ⟨rfl, ?_⟩
  repeat (first | with_reducible refine Below.setCell ?_ (by dsimp only; omega) _ | with_reducible refine below_drewN ?_ _ | with_reducible refine Below.drew ?_ | with_reducible refine Below.alloc ?_ (by first | exact Nat.le_refl _ | (simp; done) | (simp; omega)) _ | with_reducible exact Below.refl _ _)

set_option maxRecDepth 100000 in
set_option maxHeartbeats 1000000 in
theorem rjoin_bad2 (a0 a1 a2 a3 a4 b0 b1 b2 b3 b4 s0 s1 : Int) (w : World) (h64a : In64 a0 ∧ In64 a1 ∧ In64 a2 ∧ In64 a3 ∧ In64 a4) (h64b : In64 b0 ∧ In64 b1 ∧ In64 b2 ∧ In64 b3 ∧ In64 b4) (o0 : addO a0 b0 = some s0) (o1 : addO a1 b1 = some s1) (o2 : addO a2 b2 = none) :
    Calls Tryd.prog 22 #[(C5.mk a0 a1 a2 a3 a4).v, (C5.mk b0 b1 b2 b3 b4).v] w fun e w' => e = .returned (.tuple #[.agg #[.int .i64 0, .int .i64 0, .int .i64 0, .int .i64 0, .int .i64 0], .int .i64 2]) ∧ Below w.heap.size w w' := by
  have A0 := Lib.hid (fun w => radd_is a0 b0 s0 0 h64a.1 h64b.1 (by rw [o0]; rfl) (by rw [o0]; rfl) w)
  have A1 := Lib.hid (fun w => radd_is a1 b1 s1 0 h64a.2.1 h64b.2.1 (by rw [o1]; rfl) (by rw [o1]; rfl) w)
  have A2 := Lib.hid (fun w => radd_is a2 b2 0 2 h64a.2.2.1 h64b.2.2.1 (by rw [o2]; rfl) (by rw [o2]; rfl) w)
  clear h64a h64b o0 o1 o2
  go_enter Tryd.func22, Tryd.ntmps22
  go_wp2
  refine wp_loop_rounds 6 ?_
  rw [rounds_succ]
  go_wp2_with fail
  go_quiet ((go_at_call 12; exact Calls.quiet_of_same (A0.out _)))
  go_wp2_with fail
  rw [rounds_succ]
  go_wp2_with fail
  go_quiet ((go_at_call 12; exact Calls.quiet_of_same (A1.out _)))
  go_wp2_with fail
  rw [rounds_succ]
  go_wp2_with fail
  go_quiet ((go_at_call 12; exact Calls.quiet_of_same (A2.out _)))
  go_wp2_with fail
  refine bodyPost_ret (v := .tuple #[.agg #[.int .i64 0, .int .i64 0, .int .i64 0, .int .i64 0, .int .i64 0], .int .i64 2]) (by simp [results, Tryd.results22, go_sem]) rfl ⟨rfl, ?_⟩
  repeat (first | with_reducible refine Below.setCell ?_ (by dsimp only; omega) _ | with_reducible refine below_drewN ?_ _ | with_reducible refine Below.drew ?_ | with_reducible refine Below.alloc ?_ (by first | exact Nat.le_refl _ | (simp; done) | (simp; omega)) _ | with_reducible exact Below.refl _ _)

set_option maxRecDepth 100000 in
set_option maxHeartbeats 1000000 in
theorem rjoin_bad3 (a0 a1 a2 a3 a4 b0 b1 b2 b3 b4 s0 s1 s2 : Int) (w : World) (h64a : In64 a0 ∧ In64 a1 ∧ In64 a2 ∧ In64 a3 ∧ In64 a4) (h64b : In64 b0 ∧ In64 b1 ∧ In64 b2 ∧ In64 b3 ∧ In64 b4) (o0 : addO a0 b0 = some s0) (o1 : addO a1 b1 = some s1) (o2 : addO a2 b2 = some s2) (o3 : addO a3 b3 = none) :
    Calls Tryd.prog 22 #[(C5.mk a0 a1 a2 a3 a4).v, (C5.mk b0 b1 b2 b3 b4).v] w fun e w' => e = .returned (.tuple #[.agg #[.int .i64 0, .int .i64 0, .int .i64 0, .int .i64 0, .int .i64 0], .int .i64 2]) ∧ Below w.heap.size w w' := by
  have A0 := Lib.hid (fun w => radd_is a0 b0 s0 0 h64a.1 h64b.1 (by rw [o0]; rfl) (by rw [o0]; rfl) w)
  have A1 := Lib.hid (fun w => radd_is a1 b1 s1 0 h64a.2.1 h64b.2.1 (by rw [o1]; rfl) (by rw [o1]; rfl) w)
  have A2 := Lib.hid (fun w => radd_is a2 b2 s2 0 h64a.2.2.1 h64b.2.2.1 (by rw [o2]; rfl) (by rw [o2]; rfl) w)
  have A3 := Lib.hid (fun w => radd_is a3 b3 0 2 h64a.2.2.2.1 h64b.2.2.2.1 (by rw [o3]; rfl) (by rw [o3]; rfl) w)
  clear h64a h64b o0 o1 o2 o3
  go_enter Tryd.func22, Tryd.ntmps22
  go_wp2
  refine wp_loop_rounds 6 ?_
  rw [rounds_succ]
  go_wp2_with fail
  go_quiet ((go_at_call 12; exact Calls.quiet_of_same (A0.out _)))
  go_wp2_with fail
  rw [rounds_succ]
  go_wp2_with fail
  go_quiet ((go_at_call 12; exact Calls.quiet_of_same (A1.out _)))
  go_wp2_with fail
  rw [rounds_succ]
  go_wp2_with fail
  go_quiet ((go_at_call 12; exact Calls.quiet_of_same (A2.out _)))
  go_wp2_with fail
  rw [rounds_succ]
  go_wp2_with fail
  go_quiet ((go_at_call 12; exact Calls.quiet_of_same (A3.out _)))
  go_wp2_with fail
  refine bodyPost_ret (v := .tuple #[.agg #[.int .i64 0, .int .i64 0, .int .i64 0, .int .i64 0, .int .i64 0], .int .i64 2]) (by simp [results, Tryd.results22, go_sem]) rfl ⟨rfl, ?_⟩
  repeat (first | with_reducible refine Below.setCell ?_ (by dsimp only; omega) _ | with_reducible refine below_drewN ?_ _ | with_reducible refine Below.drew ?_ | with_reducible refine Below.alloc ?_ (by first | exact Nat.le_refl _ | (simp; done) | (simp; omega)) _ | with_reducible exact Below.refl _ _)

set_option maxRecDepth 100000 in
set_option maxHeartbeats 1000000 in
theorem rjoin_bad4 (a0 a1 a2 a3 a4 b0 b1 b2 b3 b4 s0 s1 s2 s3 : Int) (w : World) (h64a : In64 a0 ∧ In64 a1 ∧ In64 a2 ∧ In64 a3 ∧ In64 a4) (h64b : In64 b0 ∧ In64 b1 ∧ In64 b2 ∧ In64 b3 ∧ In64 b4) (o0 : addO a0 b0 = some s0) (o1 : addO a1 b1 = some s1) (o2 : addO a2 b2 = some s2) (o3 : addO a3 b3 = some s3) (o4 : addO a4 b4 = none) :
    Calls Tryd.prog 22 #[(C5.mk a0 a1 a2 a3 a4).v, (C5.mk b0 b1 b2 b3 b4).v] w fun e w' => e = .returned (.tuple #[.agg #[.int .i64 0, .int .i64 0, .int .i64 0, .int .i64 0, .int .i64 0], .int .i64 2]) ∧ Below w.heap.size w w' := by
  have A0 := Lib.hid (fun w => radd_is a0 b0 s0 0 h64a.1 h64b.1 (by rw [o0]; rfl) (by rw [o0]; rfl) w)
  have A1 := Lib.hid (fun w => radd_is a1 b1 s1 0 h64a.2.1 h64b.2.1 (by rw [o1]; rfl) (by rw [o1]; rfl) w)
  have A2 := Lib.hid (fun w => radd_is a2 b2 s2 0 h64a.2.2.1 h64b.2.2.1 (by rw [o2]; rfl) (by rw [o2]; rfl) w)
  have A3 := Lib.hid (fun w => radd_is a3 b3 s3 0 h64a.2.2.2.1 h64b.2.2.2.1 (by rw [o3]; rfl) (by rw [o3]; rfl) w)
  have A4 := Lib.hid (fun w => radd_is a4 b4 0 2 h64a.2.2.2.2 h64b.2.2.2.2 (by rw [o4]; rfl) (by rw [o4]; rfl) w)
  clear h64a h64b o0 o1 o2 o3 o4
  go_enter Tryd.func22, Tryd.ntmps22
  go_wp2
  refine wp_loop_rounds 6 ?_
  rw [rounds_succ]
  go_wp2_with fail
  go_quiet ((go_at_call 12; exact Calls.quiet_of_same (A0.out _)))
  go_wp2_with fail
  rw [rounds_succ]
  go_wp2_with fail
  go_quiet ((go_at_call 12; exact Calls.quiet_of_same (A1.out _)))
  go_wp2_with fail
  rw [rounds_succ]
  go_wp2_with fail
  go_quiet ((go_at_call 12; exact Calls.quiet_of_same (A2.out _)))
  go_wp2_with fail
  rw [rounds_succ]
  go_wp2_with fail
  go_quiet ((go_at_call 12; exact Calls.quiet_of_same (A3.out _)))
  go_wp2_with fail
  rw [rounds_succ]
  go_wp2_with fail
  go_quiet ((go_at_call 12; exact Calls.quiet_of_same (A4.out _)))
  go_wp2_with fail
  refine bodyPost_ret (v := .tuple #[.agg #[.int .i64 0, .int .i64 0, .int .i64 0, .int .i64 0, .int .i64 0], .int .i64 2]) (by simp [results, Tryd.results22, go_sem]) rfl ⟨rfl, ?_⟩
  repeat (first | with_reducible refine Below.setCell ?_ (by dsimp only; omega) _ | with_reducible refine below_drewN ?_ _ | with_reducible refine Below.drew ?_ | with_reducible refine Below.alloc ?_ (by first | exact Nat.le_refl _ | (simp; done) | (simp; omega)) _ | with_reducible exact Below.refl _ _)

set_option maxRecDepth 100000 in
set_option maxHeartbeats 1000000 in
theorem rjoin_ok (a0 a1 a2 a3 a4 b0 b1 b2 b3 b4 s0 s1 s2 s3 s4 : Int) (w : World) (h64a : In64 a0 ∧ In64 a1 ∧ In64 a2 ∧ In64 a3 ∧ In64 a4) (h64b : In64 b0 ∧ In64 b1 ∧ In64 b2 ∧ In64 b3 ∧ In64 b4) (o0 : addO a0 b0 = some s0) (o1 : addO a1 b1 = some s1) (o2 : addO a2 b2 = some s2) (o3 : addO a3 b3 = some s3) (o4 : addO a4 b4 = some s4) :
    Calls Tryd.prog 22 #[(C5.mk a0 a1 a2 a3 a4).v, (C5.mk b0 b1 b2 b3 b4).v] w fun e w' => e = .returned (.tuple #[.agg #[.int .i64 s0, .int .i64 s1, .int .i64 s2, .int .i64 s3, .int .i64 s4], .int .i64 0]) ∧ Below w.heap.size w w' := by
  have A0 := Lib.hid (fun w => radd_is a0 b0 s0 0 h64a.1 h64b.1 (by rw [o0]; rfl) (by rw [o0]; rfl) w)
  have A1 := Lib.hid (fun w => radd_is a1 b1 s1 0 h64a.2.1 h64b.2.1 (by rw [o1]; rfl) (by rw [o1]; rfl) w)
  have A2 := Lib.hid (fun w => radd_is a2 b2 s2 0 h64a.2.2.1 h64b.2.2.1 (by rw [o2]; rfl) (by rw [o2]; rfl) w)
  have A3 := Lib.hid (fun w => radd_is a3 b3 s3 0 h64a.2.2.2.1 h64b.2.2.2.1 (by rw [o3]; rfl) (by rw [o3]; rfl) w)
  have A4 := Lib.hid (fun w => radd_is a4 b4 s4 0 h64a.2.2.2.2 h64b.2.2.2.2 (by rw [o4]; rfl) (by rw [o4]; rfl) w)
  clear h64a h64b o0 o1 o2 o3 o4
  go_enter Tryd.func22, Tryd.ntmps22
  go_wp2
  refine wp_loop_rounds 6 ?_
  rw [rounds_succ]
  go_wp2_with fail
  go_quiet ((go_at_call 12; exact Calls.quiet_of_same (A0.out _)))
  go_wp2_with fail
  rw [rounds_succ]
  go_wp2_with fail
  go_quiet ((go_at_call 12; exact Calls.quiet_of_same (A1.out _)))
  go_wp2_with fail
  rw [rounds_succ]
  go_wp2_with fail
  go_quiet ((go_at_call 12; exact Calls.quiet_of_same (A2.out _)))
  go_wp2_with fail
  rw [rounds_succ]
  go_wp2_with fail
  go_quiet ((go_at_call 12; exact Calls.quiet_of_same (A3.out _)))
  go_wp2_with fail
  rw [rounds_succ]
  go_wp2_with fail
  go_quiet ((go_at_call 12; exact Calls.quiet_of_same (A4.out _)))
  go_wp2_with fail
  rw [rounds_succ]
  go_wp2_with fail
  refine bodyPost_ret (v := .tuple #[.agg #[.int .i64 s0, .int .i64 s1, .int .i64 s2, .int .i64 s3, .int .i64 s4], .int .i64 0]) (by simp [results, Tryd.results22, go_sem]) rfl ⟨rfl, ?_⟩
  repeat (first | with_reducible refine Below.setCell ?_ (by dsimp only; omega) _ | with_reducible refine below_drewN ?_ _ | with_reducible refine Below.drew ?_ | with_reducible refine Below.alloc ?_ (by first | exact Nat.le_refl _ | (simp; done) | (simp; omega)) _ | with_reducible exact Below.refl _ _)

theorem rjoin_any (a b : C5) (w : World) (ha : C64 a) (hb : C64 b) :
    Calls Tryd.prog 22 #[a.v, b.v] w fun e w' => e = .returned (.tuple #[(joinV (joinO a b)).v, .int .i64 (errC (joinO a b))]) ∧ Below w.heap.size w w' := by
  obtain ⟨a0, a1, a2, a3, a4⟩ := a
  obtain ⟨b0, b1, b2, b3, b4⟩ := b
  cases o0 : addO a0 b0 with
  | none =>
    rw [show joinO ⟨a0, a1, a2, a3, a4⟩ ⟨b0, b1, b2, b3, b4⟩ = none from by simp [joinO, o0]]
    exact rjoin_bad0 _ _ _ _ _ _ _ _ _ _ w ha hb o0
  | some s0 =>
    cases o1 : addO a1 b1 with
    | none =>
      rw [show joinO ⟨a0, a1, a2, a3, a4⟩ ⟨b0, b1, b2, b3, b4⟩ = none from by simp [joinO, o0, o1]]
      exact rjoin_bad1 _ _ _ _ _ _ _ _ _ _ s0 w ha hb o0 o1
    | some s1 =>
      cases o2 : addO a2 b2 with
      | none =>
        rw [show joinO ⟨a0, a1, a2, a3, a4⟩ ⟨b0, b1, b2, b3, b4⟩ = none from by simp [joinO, o0, o1, o2]]
        exact rjoin_bad2 _ _ _ _ _ _ _ _ _ _ s0 s1 w ha hb o0 o1 o2
      | some s2 =>
        cases o3 : addO a3 b3 with
        | none =>
          rw [show joinO ⟨a0, a1, a2, a3, a4⟩ ⟨b0, b1, b2, b3, b4⟩ = none from by simp [joinO, o0, o1, o2, o3]]
          exact rjoin_bad3 _ _ _ _ _ _ _ _ _ _ s0 s1 s2 w ha hb o0 o1 o2 o3
        | some s3 =>
          cases o4 : addO a4 b4 with
          | none =>
            rw [show joinO ⟨a0, a1, a2, a3, a4⟩ ⟨b0, b1, b2, b3, b4⟩ = none from by simp [joinO, o0, o1, o2, o3, o4]]
            exact rjoin_bad4 _ _ _ _ _ _ _ _ _ _ s0 s1 s2 s3 w ha hb o0 o1 o2 o3 o4
          | some s4 =>
            rw [show joinO ⟨a0, a1, a2, a3, a4⟩ ⟨b0, b1, b2, b3, b4⟩ = some ⟨s0, s1, s2, s3, s4⟩ from by simp [joinO, o0, o1, o2, o3, o4]]
            exact rjoin_ok _ _ _ _ _ _ _ _ _ _ s0 s1 s2 s3 s4 w ha hb o0 o1 o2 o3 o4
end Go.Proofs.YtjdpocoahinbfaaDoor
