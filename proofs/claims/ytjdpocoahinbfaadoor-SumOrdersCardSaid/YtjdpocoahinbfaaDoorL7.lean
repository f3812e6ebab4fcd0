/-
  SumOrders: the walk.
-/
import Derived.Test.YtjdpocoahinbfaaDoorL6
import Derived.Test.YtjdpocoahinbfaaDoorP5
namespace Go.Proofs.YtjdpocoahinbfaaDoor
open Go.RowKit Go.Lib
attribute [local go_sem ↓] Go.wp_at_zero Go.wp_at_succ

abbrev row3 (a b c : C5) : Array Value := #[.int .i64 a.a0, .int .i64 a.a1, .int .i64 a.a2, .int .i64 a.a3, .int .i64 a.a4, .int .i64 b.a0, .int .i64 b.a1, .int .i64 b.a2, .int .i64 b.a3, .int .i64 b.a4,
  .int .i64 c.a0, .int .i64 c.a1, .int .i64 c.a2, .int .i64 c.a3, .int .i64 c.a4]

theorem isCosts_made (w : World) (a b c : C5) : IsCosts (w.alloc (.cells (row3 a b c) 32)) (some ⟨w.heap.size, 0, none⟩) 3 [a, b, c] := by
  refine ⟨rfl, .inr ⟨w.heap.size, 0, rfl, by simp, fun i hi => ?_⟩⟩
  match i, hi with
  | 0, _ => exact ⟨by simp [go_sem, ccs], by simp [go_sem, ccs], by simp [go_sem, ccs], by simp [go_sem, ccs], by simp [go_sem, ccs]⟩
  | 1, _ => exact ⟨by simp [go_sem, ccs], by simp [go_sem, ccs], by simp [go_sem, ccs], by simp [go_sem, ccs], by simp [go_sem, ccs]⟩
  | 2, _ => exact ⟨by simp [go_sem, ccs], by simp [go_sem, ccs], by simp [go_sem, ccs], by simp [go_sem, ccs], by simp [go_sem, ccs]⟩

set_option maxRecDepth 100000 in
set_option maxHeartbeats 4000000 in
theorem orders_walk (a b c : C5) (x : Addr) (w : World) (_ : C64 a) (_ : C64 b) (_ : C64 c) (hg : Sent x w) :
    Calls Tryd.prog 6 #[a.v, b.v, c.v] w fun e w' => e = .returned (.bool true) ∧ Below w.heap.size w w' := by
  have H := Lib.hid hg
  clear hg
  obtain ⟨m, hm⟩ : ∃ m, cmp5 a b = m := ⟨_, rfl⟩
  obtain ⟨n, hn⟩ : ∃ n, cmp5 b c = n := ⟨_, rfl⟩
  obtain ⟨o, ho⟩ : ∃ o, cmp5 a c = o := ⟨_, rfl⟩
  have hbd := bestTo_bd [a, b, c] 3 (by omega)
  obtain ⟨k, hk⟩ := Int.eq_ofNat_of_zero_le hbd.1
  have hk3 : k < 3 := by have := hbd.2; rw [hk] at this; omega
  obtain ⟨e, he⟩ : ∃ e, ccs [a, b, c] k = e := ⟨_, rfl⟩
  have l0 := bestTo_least [a, b, c] 3 0 (by omega)
  have l1 := bestTo_least [a, b, c] 3 1 (by omega)
  have l2 := bestTo_least [a, b, c] 3 2 (by omega)
  rw [hk, Int.toNat_natCast, he] at l0 l1 l2
  have mb : -1 ≤ m ∧ m ≤ 1 := by rw [← hm]; exact cmp5_bd a b
  have hba : cmp5 b a = -m := by rw [← hm]; exact cmp5_anti a b
  have heq : (m == 0) = (a.a0 == b.a0 && a.a1 == b.a1 && a.a2 == b.a2 && a.a3 == b.a3 && a.a4 == b.a4) := by
    rw [← hm]
    have := cmp5_zero a b
    cases hq : (a.a0 == b.a0 && a.a1 == b.a1 && a.a2 == b.a2 && a.a3 == b.a3 && a.a4 == b.a4) <;> rw [hq] at this <;> simpa using this
  have hcase : (decide (m ≤ 0) = false) ∨ (decide (m ≤ 0) = true ∧ decide (n ≤ 0) = false) ∨ (decide (m ≤ 0) = true ∧ decide (n ≤ 0) = true ∧ decide (0 < o) = false) := by
    by_cases h1 : m ≤ 0
    · by_cases h2 : n ≤ 0
      · have h3 : o ≤ 0 := by subst hm hn ho; exact cmp5_trans h1 h2
        exact .inr (.inr ⟨by simpa using h1, by simpa using h2, by simpa using h3⟩)
      · exact .inr (.inl ⟨by simpa using h1, by simpa using h2⟩)
    · exact .inl (by simpa using h1)
  have C1 := Lib.hid (fun w => (Compare_any a b w).mono fun r w' h => (⟨h.1.trans (by rw [hm]), h.2⟩ : r = Ending.returned (.int .i64 m) ∧ Below w.heap.size w w'))
  have C2 := Lib.hid (fun w => (Compare_any b c w).mono fun r w' h => (⟨h.1.trans (by rw [hn]), h.2⟩ : r = Ending.returned (.int .i64 n) ∧ Below w.heap.size w w'))
  have C3 := Lib.hid (fun w => (Compare_any a c w).mono fun r w' h => (⟨h.1.trans (by rw [ho]), h.2⟩ : r = Ending.returned (.int .i64 o) ∧ Below w.heap.size w w'))
  have C4 := Lib.hid (fun w => (Compare_any b a w).mono fun r w' h => (⟨h.1.trans (by rw [hba]), h.2⟩ : r = Ending.returned (.int .i64 (-m)) ∧ Below w.heap.size w w'))
  have C5' := Lib.hid (fun w d hi => (Best_any d 3 3 [a, b, c] w (by omega) hi).mono fun r w' h => (⟨h.1.trans (by rw [hk]), h.2⟩ : r = Ending.returned (.int .i64 (k : Int)) ∧ Below w.heap.size w w'))
  have HE := Lib.hid he
  have L0 := Lib.hid l0
  have L1 := Lib.hid l1
  have L2 := Lib.hid l2
  have MB := Lib.hid mb
  have HQ := Lib.hid heq
  have HC := Lib.hid hcase
  clear hm hn ho hk hbd he l0 l1 l2 mb hba heq hcase
  go_enter Tryd.func6, Tryd.ntmps6
  go_wp2_with fail
  have b0 : Below w.heap.size w (((w.alloc (.cells a.arr 32)).alloc (.cells b.arr 32)).alloc (.cells c.arr 32)) := (((Below.refl _ _).alloc (Nat.le_refl _) _).alloc (by simp) _).alloc (by simp; omega) _
  have A := Lib.hid (((BoxAt.made w a).alloc (.cells b.arr 32)).alloc (.cells c.arr 32))
  have B := Lib.hid ((BoxAt.made (w.alloc (.cells a.arr 32)) b).alloc (.cells c.arr 32))
  have C := Lib.hid (BoxAt.made ((w.alloc (.cells a.arr 32)).alloc (.cells b.arr 32)) c)
  refine (shown_any x _ (H.out.below b0 H.out.pos)).mono ?_
  rintro r w1 ⟨rfl, b1⟩
  have HB := Lib.hid (b0.trans (b1.bel.mono (b0.size)))
  have A1 := Lib.hid (A.out.below b1.bel (Nat.le_refl _))
  have B1 := Lib.hid (B.out.below b1.bel (Nat.le_refl _))
  have C1' := Lib.hid (C.out.below b1.bel (Nat.le_refl _))
  clear b0 b1 A B C H
  obtain ⟨ba, hba⟩ : ∃ ba, w.heap.size = ba := ⟨_, rfl⟩
  obtain ⟨bb, hbb⟩ : ∃ bb, ba + 1 = bb := ⟨_, rfl⟩
  obtain ⟨bc, hbc⟩ : ∃ bc, bb + 1 = bc := ⟨_, rfl⟩
  rw [show (w.alloc (.cells a.arr 32)).heap.size = ba + 1 from by simp [hba]] at B1
  rw [show ((w.alloc (.cells a.arr 32)).alloc (.cells b.arr 32)).heap.size = ba + 1 + 1 from by simp [hba]] at C1'
  have HE' := Lib.hid hba
  rw [hba] at A1 HB ⊢
  rw [hbb] at B1 C1' ⊢
  rw [hbc] at C1' ⊢
  clear hba hbb hbc
  obtain ⟨_, q0, q1, q2, q3, q4⟩ := A1.out
  obtain ⟨_, r0, r1, r2, r3, r4⟩ := B1.out
  go_wp2_with fail
  refine (C1.out _).mono ?_
  rintro r w2 ⟨rfl, b2⟩
  have HB2 := Lib.hid (HB.out.trans (b2.mono (by rw [← HE'.out]; exact HB.out.size)))
  have A2 := Lib.hid (A1.out.below b2 (Nat.le_refl _))
  have B2 := Lib.hid (B1.out.below b2 (Nat.le_refl _))
  have C2' := Lib.hid (C1'.out.below b2 (Nat.le_refl _))
  clear q0 q1 q2 q3 q4 r0 r1 r2 r3 r4 A1 B1 C1' HB b2 C1
  obtain ⟨_, r0, r1, r2, r3, r4⟩ := B2.out
  obtain ⟨_, s0, s1, s2, s3, s4⟩ := C2'.out
  go_wp2_with fail
  refine (C2.out _).mono ?_
  rintro r w3 ⟨rfl, b3⟩
  have HB3 := Lib.hid (HB2.out.trans (b3.mono (by rw [← HE'.out]; exact HB2.out.size)))
  have A3 := Lib.hid (A2.out.below b3 (Nat.le_refl _))
  have B3 := Lib.hid (B2.out.below b3 (Nat.le_refl _))
  have C3' := Lib.hid (C2'.out.below b3 (Nat.le_refl _))
  clear r0 r1 r2 r3 r4 s0 s1 s2 s3 s4 A2 B2 C2' HB2 b3 C2
  obtain ⟨_, q0, q1, q2, q3, q4⟩ := A3.out
  obtain ⟨_, s0, s1, s2, s3, s4⟩ := C3'.out
  go_wp2_with fail
  refine (C3.out _).mono ?_
  rintro r w4 ⟨rfl, b4⟩
  have HB4 := Lib.hid (HB3.out.trans (b4.mono (by rw [← HE'.out]; exact HB3.out.size)))
  have A4 := Lib.hid (A3.out.below b4 (Nat.le_refl _))
  have B4 := Lib.hid (B3.out.below b4 (Nat.le_refl _))
  have C4' := Lib.hid (C3'.out.below b4 (Nat.le_refl _))
  clear q0 q1 q2 q3 q4 s0 s1 s2 s3 s4 A3 B3 C3' HB3 b4 C3
  obtain ⟨_, q0, q1, q2, q3, q4⟩ := A4.out
  obtain ⟨_, r0, r1, r2, r3, r4⟩ := B4.out
  obtain ⟨_, s0, s1, s2, s3, s4⟩ := C4'.out
  go_wp2_with fail
  have R5 := Lib.hid (isCosts_made w4 a b c)
  have b5 : Below w4.heap.size w4 (w4.alloc (.cells (row3 a b c) 32)) := (Below.refl _ _).alloc (Nat.le_refl _) _
  refine (C5'.out _ _ R5.out).mono ?_
  rintro r w6 ⟨rfl, b6⟩
  replace b6 := b5.trans (b6.mono b5.size)
  have HB6 := Lib.hid (HB4.out.trans (b6.mono (by rw [← HE'.out]; exact HB4.out.size)))
  have A6 := Lib.hid (A4.out.below b6 (Nat.le_refl _))
  have B6 := Lib.hid (B4.out.below b6 (Nat.le_refl _))
  have C6' := Lib.hid (C4'.out.below b6 (Nat.le_refl _))
  clear q0 q1 q2 q3 q4 r0 r1 r2 r3 r4 s0 s1 s2 s3 s4 A4 B4 C4' HB4 b5 b6 C5' R5
  generalize w4.heap.size = bs at *
  obtain ⟨_, q0, q1, q2, q3, q4⟩ := A6.out
  obtain ⟨_, r0, r1, r2, r3, r4⟩ := B6.out
  have weq : ∀ w, (binOp .eql 32 (.agg #[.int .i64 a.a0, .int .i64 a.a1, .int .i64 a.a2, .int .i64 a.a3, .int .i64 a.a4]) (.agg #[.int .i64 b.a0, .int .i64 b.a1, .int .i64 b.a2, .int .i64 b.a3, .int .i64 b.a4])).run Tryd.prog w = .ok (.bool (m == 0)) w := fun w => by rw [eqv32 a b w, HQ.out]
  have wr : IntKind.i64.wrap m = m := by have := MB.out; simp [IntKind.wrap, IntKind.signed, IntKind.bits]; omega
  have k0 : decide ((k : Int) < 0) = false := by simp
  have k2 : decide (2 < k) = false := by simp; omega
  rcases HC.out with g1 | ⟨g1, g2⟩ | ⟨g1, g2, g3⟩
  all_goals
    go_wp2_with (go_at_call 19; refine (C4.out _).mono ?_; rintro r w7 ⟨rfl, b7⟩; have HB7 := Lib.hid (HB6.out.trans (b7.mono (by rw [← HE'.out]; exact HB6.out.size))); have A7 := Lib.hid (A6.out.below b7 (Nat.le_refl _)); have B7 := Lib.hid (B6.out.below b7 (Nat.le_refl _)); have C7' := Lib.hid (C6'.out.below b7 (Nat.le_refl _)); clear q0 q1 q2 q3 q4 r0 r1 r2 r3 r4 A6 B6 C6' HB6 b7; obtain ⟨_, q0, q1, q2, q3, q4⟩ := A7.out; obtain ⟨_, r0, r1, r2, r3, r4⟩ := B7.out; obtain ⟨_, s0, s1, s2, s3, s4⟩ := C7'.out)
  all_goals
    have b8 : Below w7.heap.size w7 (w7.alloc (.cells (row3 a b c) 32)) := (Below.refl _ _).alloc (Nat.le_refl _) _
    have HB8 := Lib.hid (HB7.out.trans (b8.mono (by rw [← HE'.out]; exact HB7.out.size)))
    have A8 := Lib.hid (A7.out.below b8 (Nat.le_refl _))
    have B8 := Lib.hid (B7.out.below b8 (Nat.le_refl _))
    have C8' := Lib.hid (C7'.out.below b8 (Nat.le_refl _))
    have R8 := Lib.hid (isCosts_made w7 a b c)
    clear q0 q1 q2 q3 q4 r0 r1 r2 r3 r4 s0 s1 s2 s3 s4 A7 B7 C7' HB7 b8
    change Code.wp _ _ _ _ (w7.alloc (.cells (row3 a b c) 32))
    generalize w7.alloc (.cells (row3 a b c) 32) = W at *
    generalize w7.heap.size = bt at *
    have key : ∀ w', Below W.heap.size W w' → (Hid (Below W.heap.size W w') ∧ w'.cell? ⟨ba, 0, none⟩ = some (.int .i64 a.a0) ∧ w'.cell? ⟨ba, 1, none⟩ = some (.int .i64 a.a1) ∧ w'.cell? ⟨ba, 2, none⟩ = some (.int .i64 a.a2) ∧ w'.cell? ⟨ba, 3, none⟩ = some (.int .i64 a.a3) ∧ w'.cell? ⟨ba, 4, none⟩ = some (.int .i64 a.a4) ∧ w'.cell? ⟨bb, 0, none⟩ = some (.int .i64 b.a0) ∧ w'.cell? ⟨bb, 1, none⟩ = some (.int .i64 b.a1) ∧ w'.cell? ⟨bb, 2, none⟩ = some (.int .i64 b.a2) ∧ w'.cell? ⟨bb, 3, none⟩ = some (.int .i64 b.a3) ∧ w'.cell? ⟨bb, 4, none⟩ = some (.int .i64 b.a4) ∧ w'.cell? ⟨bc, 0, none⟩ = some (.int .i64 c.a0) ∧ w'.cell? ⟨bc, 1, none⟩ = some (.int .i64 c.a1) ∧ w'.cell? ⟨bc, 2, none⟩ = some (.int .i64 c.a2) ∧ w'.cell? ⟨bc, 3, none⟩ = some (.int .i64 c.a3) ∧ w'.cell? ⟨bc, 4, none⟩ = some (.int .i64 c.a4) ∧ w'.cell? ⟨bt, k * 5, none⟩ = some (.int .i64 e.a0) ∧ w'.cell? ⟨bt, k * 5 + 1, none⟩ = some (.int .i64 e.a1) ∧ w'.cell? ⟨bt, k * 5 + 2, none⟩ = some (.int .i64 e.a2) ∧ w'.cell? ⟨bt, k * 5 + 3, none⟩ = some (.int .i64 e.a3) ∧ w'.cell? ⟨bt, k * 5 + 4, none⟩ = some (.int .i64 e.a4)) := fun w' h => by
      obtain ⟨_, p0, p1, p2, p3, p4⟩ := A8.out.below h (Nat.le_refl _)
      obtain ⟨_, q0, q1, q2, q3, q4⟩ := B8.out.below h (Nat.le_refl _)
      obtain ⟨_, r0, r1, r2, r3, r4⟩ := C8'.out.below h (Nat.le_refl _)
      obtain ⟨b', off, eb, _, hcell⟩ : ∃ b' off, some (⟨bt, 0, none⟩ : Addr) = some ⟨b', off, none⟩ ∧ b' < w'.heap.size ∧ ∀ i, i < 3 → _ := by
        rcases (R8.out.below h (Nat.le_refl _)).2 with h | h
        · omega
        · exact h
      simp at eb
      obtain ⟨rfl, rfl⟩ := eb
      obtain ⟨s0, s1, s2, s3, s4⟩ := hcell k hk3
      rw [HE.out] at s0 s1 s2 s3 s4
      rw [Nat.zero_add] at s0 s1 s2 s3 s4
      exact ⟨Lib.hid h, p0, p1, p2, p3, p4, q0, q1, q2, q3, q4, r0, r1, r2, r3, r4, s0, s1, s2, s3, s4⟩
    have start := key W.drew (Below.refl _ _).drew
    have HF' : Hid (∀ w', Below W.heap.size W w' → Below w.heap.size w w') := Lib.hid fun w' h => by rw [HE'.out]; exact HB8.out.trans (h.mono (by rw [← HE'.out]; exact HB8.out.size))
    have T1 : ∃ r, decide (r ≤ 0) = true ∧ Hid (∀ w' (_ : Hid (Below W.heap.size W w') ∧ w'.cell? ⟨ba, 0, none⟩ = some (.int .i64 a.a0) ∧ w'.cell? ⟨ba, 1, none⟩ = some (.int .i64 a.a1) ∧ w'.cell? ⟨ba, 2, none⟩ = some (.int .i64 a.a2) ∧ w'.cell? ⟨ba, 3, none⟩ = some (.int .i64 a.a3) ∧ w'.cell? ⟨ba, 4, none⟩ = some (.int .i64 a.a4) ∧ w'.cell? ⟨bb, 0, none⟩ = some (.int .i64 b.a0) ∧ w'.cell? ⟨bb, 1, none⟩ = some (.int .i64 b.a1) ∧ w'.cell? ⟨bb, 2, none⟩ = some (.int .i64 b.a2) ∧ w'.cell? ⟨bb, 3, none⟩ = some (.int .i64 b.a3) ∧ w'.cell? ⟨bb, 4, none⟩ = some (.int .i64 b.a4) ∧ w'.cell? ⟨bc, 0, none⟩ = some (.int .i64 c.a0) ∧ w'.cell? ⟨bc, 1, none⟩ = some (.int .i64 c.a1) ∧ w'.cell? ⟨bc, 2, none⟩ = some (.int .i64 c.a2) ∧ w'.cell? ⟨bc, 3, none⟩ = some (.int .i64 c.a3) ∧ w'.cell? ⟨bc, 4, none⟩ = some (.int .i64 c.a4) ∧ w'.cell? ⟨bt, k * 5, none⟩ = some (.int .i64 e.a0) ∧ w'.cell? ⟨bt, k * 5 + 1, none⟩ = some (.int .i64 e.a1) ∧ w'.cell? ⟨bt, k * 5 + 2, none⟩ = some (.int .i64 e.a2) ∧ w'.cell? ⟨bt, k * 5 + 3, none⟩ = some (.int .i64 e.a3) ∧ w'.cell? ⟨bt, k * 5 + 4, none⟩ = some (.int .i64 e.a4)), Calls Tryd.prog 19 #[e.v, a.v] w' fun rr w'' => rr = .returned (.int .i64 r) ∧ Hid (Below W.heap.size W w'') ∧ w''.cell? ⟨ba, 0, none⟩ = some (.int .i64 a.a0) ∧ w''.cell? ⟨ba, 1, none⟩ = some (.int .i64 a.a1) ∧ w''.cell? ⟨ba, 2, none⟩ = some (.int .i64 a.a2) ∧ w''.cell? ⟨ba, 3, none⟩ = some (.int .i64 a.a3) ∧ w''.cell? ⟨ba, 4, none⟩ = some (.int .i64 a.a4) ∧ w''.cell? ⟨bb, 0, none⟩ = some (.int .i64 b.a0) ∧ w''.cell? ⟨bb, 1, none⟩ = some (.int .i64 b.a1) ∧ w''.cell? ⟨bb, 2, none⟩ = some (.int .i64 b.a2) ∧ w''.cell? ⟨bb, 3, none⟩ = some (.int .i64 b.a3) ∧ w''.cell? ⟨bb, 4, none⟩ = some (.int .i64 b.a4) ∧ w''.cell? ⟨bc, 0, none⟩ = some (.int .i64 c.a0) ∧ w''.cell? ⟨bc, 1, none⟩ = some (.int .i64 c.a1) ∧ w''.cell? ⟨bc, 2, none⟩ = some (.int .i64 c.a2) ∧ w''.cell? ⟨bc, 3, none⟩ = some (.int .i64 c.a3) ∧ w''.cell? ⟨bc, 4, none⟩ = some (.int .i64 c.a4) ∧ w''.cell? ⟨bt, k * 5, none⟩ = some (.int .i64 e.a0) ∧ w''.cell? ⟨bt, k * 5 + 1, none⟩ = some (.int .i64 e.a1) ∧ w''.cell? ⟨bt, k * 5 + 2, none⟩ = some (.int .i64 e.a2) ∧ w''.cell? ⟨bt, k * 5 + 3, none⟩ = some (.int .i64 e.a3) ∧ w''.cell? ⟨bt, k * 5 + 4, none⟩ = some (.int .i64 e.a4)) :=
      ⟨_, decide_eq_true L0.out, Lib.hid fun w' h => (Compare_any e a w').mono fun _ w'' ⟨he, hb⟩ => ⟨he, key _ (h.1.out.trans (hb.mono h.1.out.size))⟩⟩
    have T2 : ∃ r, decide (r ≤ 0) = true ∧ Hid (∀ w' (_ : Hid (Below W.heap.size W w') ∧ w'.cell? ⟨ba, 0, none⟩ = some (.int .i64 a.a0) ∧ w'.cell? ⟨ba, 1, none⟩ = some (.int .i64 a.a1) ∧ w'.cell? ⟨ba, 2, none⟩ = some (.int .i64 a.a2) ∧ w'.cell? ⟨ba, 3, none⟩ = some (.int .i64 a.a3) ∧ w'.cell? ⟨ba, 4, none⟩ = some (.int .i64 a.a4) ∧ w'.cell? ⟨bb, 0, none⟩ = some (.int .i64 b.a0) ∧ w'.cell? ⟨bb, 1, none⟩ = some (.int .i64 b.a1) ∧ w'.cell? ⟨bb, 2, none⟩ = some (.int .i64 b.a2) ∧ w'.cell? ⟨bb, 3, none⟩ = some (.int .i64 b.a3) ∧ w'.cell? ⟨bb, 4, none⟩ = some (.int .i64 b.a4) ∧ w'.cell? ⟨bc, 0, none⟩ = some (.int .i64 c.a0) ∧ w'.cell? ⟨bc, 1, none⟩ = some (.int .i64 c.a1) ∧ w'.cell? ⟨bc, 2, none⟩ = some (.int .i64 c.a2) ∧ w'.cell? ⟨bc, 3, none⟩ = some (.int .i64 c.a3) ∧ w'.cell? ⟨bc, 4, none⟩ = some (.int .i64 c.a4) ∧ w'.cell? ⟨bt, k * 5, none⟩ = some (.int .i64 e.a0) ∧ w'.cell? ⟨bt, k * 5 + 1, none⟩ = some (.int .i64 e.a1) ∧ w'.cell? ⟨bt, k * 5 + 2, none⟩ = some (.int .i64 e.a2) ∧ w'.cell? ⟨bt, k * 5 + 3, none⟩ = some (.int .i64 e.a3) ∧ w'.cell? ⟨bt, k * 5 + 4, none⟩ = some (.int .i64 e.a4)), Calls Tryd.prog 19 #[e.v, b.v] w' fun rr w'' => rr = .returned (.int .i64 r) ∧ Hid (Below W.heap.size W w'') ∧ w''.cell? ⟨ba, 0, none⟩ = some (.int .i64 a.a0) ∧ w''.cell? ⟨ba, 1, none⟩ = some (.int .i64 a.a1) ∧ w''.cell? ⟨ba, 2, none⟩ = some (.int .i64 a.a2) ∧ w''.cell? ⟨ba, 3, none⟩ = some (.int .i64 a.a3) ∧ w''.cell? ⟨ba, 4, none⟩ = some (.int .i64 a.a4) ∧ w''.cell? ⟨bb, 0, none⟩ = some (.int .i64 b.a0) ∧ w''.cell? ⟨bb, 1, none⟩ = some (.int .i64 b.a1) ∧ w''.cell? ⟨bb, 2, none⟩ = some (.int .i64 b.a2) ∧ w''.cell? ⟨bb, 3, none⟩ = some (.int .i64 b.a3) ∧ w''.cell? ⟨bb, 4, none⟩ = some (.int .i64 b.a4) ∧ w''.cell? ⟨bc, 0, none⟩ = some (.int .i64 c.a0) ∧ w''.cell? ⟨bc, 1, none⟩ = some (.int .i64 c.a1) ∧ w''.cell? ⟨bc, 2, none⟩ = some (.int .i64 c.a2) ∧ w''.cell? ⟨bc, 3, none⟩ = some (.int .i64 c.a3) ∧ w''.cell? ⟨bc, 4, none⟩ = some (.int .i64 c.a4) ∧ w''.cell? ⟨bt, k * 5, none⟩ = some (.int .i64 e.a0) ∧ w''.cell? ⟨bt, k * 5 + 1, none⟩ = some (.int .i64 e.a1) ∧ w''.cell? ⟨bt, k * 5 + 2, none⟩ = some (.int .i64 e.a2) ∧ w''.cell? ⟨bt, k * 5 + 3, none⟩ = some (.int .i64 e.a3) ∧ w''.cell? ⟨bt, k * 5 + 4, none⟩ = some (.int .i64 e.a4)) :=
      ⟨_, decide_eq_true L1.out, Lib.hid fun w' h => (Compare_any e b w').mono fun _ w'' ⟨he, hb⟩ => ⟨he, key _ (h.1.out.trans (hb.mono h.1.out.size))⟩⟩
    have T3 : ∃ r, decide (r ≤ 0) = true ∧ Hid (∀ w' (_ : Hid (Below W.heap.size W w') ∧ w'.cell? ⟨ba, 0, none⟩ = some (.int .i64 a.a0) ∧ w'.cell? ⟨ba, 1, none⟩ = some (.int .i64 a.a1) ∧ w'.cell? ⟨ba, 2, none⟩ = some (.int .i64 a.a2) ∧ w'.cell? ⟨ba, 3, none⟩ = some (.int .i64 a.a3) ∧ w'.cell? ⟨ba, 4, none⟩ = some (.int .i64 a.a4) ∧ w'.cell? ⟨bb, 0, none⟩ = some (.int .i64 b.a0) ∧ w'.cell? ⟨bb, 1, none⟩ = some (.int .i64 b.a1) ∧ w'.cell? ⟨bb, 2, none⟩ = some (.int .i64 b.a2) ∧ w'.cell? ⟨bb, 3, none⟩ = some (.int .i64 b.a3) ∧ w'.cell? ⟨bb, 4, none⟩ = some (.int .i64 b.a4) ∧ w'.cell? ⟨bc, 0, none⟩ = some (.int .i64 c.a0) ∧ w'.cell? ⟨bc, 1, none⟩ = some (.int .i64 c.a1) ∧ w'.cell? ⟨bc, 2, none⟩ = some (.int .i64 c.a2) ∧ w'.cell? ⟨bc, 3, none⟩ = some (.int .i64 c.a3) ∧ w'.cell? ⟨bc, 4, none⟩ = some (.int .i64 c.a4) ∧ w'.cell? ⟨bt, k * 5, none⟩ = some (.int .i64 e.a0) ∧ w'.cell? ⟨bt, k * 5 + 1, none⟩ = some (.int .i64 e.a1) ∧ w'.cell? ⟨bt, k * 5 + 2, none⟩ = some (.int .i64 e.a2) ∧ w'.cell? ⟨bt, k * 5 + 3, none⟩ = some (.int .i64 e.a3) ∧ w'.cell? ⟨bt, k * 5 + 4, none⟩ = some (.int .i64 e.a4)), Calls Tryd.prog 19 #[e.v, c.v] w' fun rr w'' => rr = .returned (.int .i64 r) ∧ Hid (Below W.heap.size W w'') ∧ w''.cell? ⟨ba, 0, none⟩ = some (.int .i64 a.a0) ∧ w''.cell? ⟨ba, 1, none⟩ = some (.int .i64 a.a1) ∧ w''.cell? ⟨ba, 2, none⟩ = some (.int .i64 a.a2) ∧ w''.cell? ⟨ba, 3, none⟩ = some (.int .i64 a.a3) ∧ w''.cell? ⟨ba, 4, none⟩ = some (.int .i64 a.a4) ∧ w''.cell? ⟨bb, 0, none⟩ = some (.int .i64 b.a0) ∧ w''.cell? ⟨bb, 1, none⟩ = some (.int .i64 b.a1) ∧ w''.cell? ⟨bb, 2, none⟩ = some (.int .i64 b.a2) ∧ w''.cell? ⟨bb, 3, none⟩ = some (.int .i64 b.a3) ∧ w''.cell? ⟨bb, 4, none⟩ = some (.int .i64 b.a4) ∧ w''.cell? ⟨bc, 0, none⟩ = some (.int .i64 c.a0) ∧ w''.cell? ⟨bc, 1, none⟩ = some (.int .i64 c.a1) ∧ w''.cell? ⟨bc, 2, none⟩ = some (.int .i64 c.a2) ∧ w''.cell? ⟨bc, 3, none⟩ = some (.int .i64 c.a3) ∧ w''.cell? ⟨bc, 4, none⟩ = some (.int .i64 c.a4) ∧ w''.cell? ⟨bt, k * 5, none⟩ = some (.int .i64 e.a0) ∧ w''.cell? ⟨bt, k * 5 + 1, none⟩ = some (.int .i64 e.a1) ∧ w''.cell? ⟨bt, k * 5 + 2, none⟩ = some (.int .i64 e.a2) ∧ w''.cell? ⟨bt, k * 5 + 3, none⟩ = some (.int .i64 e.a3) ∧ w''.cell? ⟨bt, k * 5 + 4, none⟩ = some (.int .i64 e.a4)) :=
      ⟨_, decide_eq_true L2.out, Lib.hid fun w' h => (Compare_any e c w').mono fun _ w'' ⟨he, hb⟩ => ⟨he, key _ (h.1.out.trans (hb.mono h.1.out.size))⟩⟩
    clear key A8 B8 C8' R8 HB8 L0 L1 L2 C4 HC HQ MB HE
    obtain ⟨t1, d1, T1⟩ := T1
    obtain ⟨t2, d2, T2⟩ := T2
    obtain ⟨t3, d3, T3⟩ := T3
    have i0 : (0 : Int) ≤ k := by omega
    have i1 : (k : Int) < 3 := by omega
    have i2 : (k : Int) ≤ 3 := by omega
    go_region_held3 (fun w' => Hid (Below W.heap.size W w') ∧ w'.cell? ⟨ba, 0, none⟩ = some (.int .i64 a.a0) ∧ w'.cell? ⟨ba, 1, none⟩ = some (.int .i64 a.a1) ∧ w'.cell? ⟨ba, 2, none⟩ = some (.int .i64 a.a2) ∧ w'.cell? ⟨ba, 3, none⟩ = some (.int .i64 a.a3) ∧ w'.cell? ⟨ba, 4, none⟩ = some (.int .i64 a.a4) ∧ w'.cell? ⟨bb, 0, none⟩ = some (.int .i64 b.a0) ∧ w'.cell? ⟨bb, 1, none⟩ = some (.int .i64 b.a1) ∧ w'.cell? ⟨bb, 2, none⟩ = some (.int .i64 b.a2) ∧ w'.cell? ⟨bb, 3, none⟩ = some (.int .i64 b.a3) ∧ w'.cell? ⟨bb, 4, none⟩ = some (.int .i64 b.a4) ∧ w'.cell? ⟨bc, 0, none⟩ = some (.int .i64 c.a0) ∧ w'.cell? ⟨bc, 1, none⟩ = some (.int .i64 c.a1) ∧ w'.cell? ⟨bc, 2, none⟩ = some (.int .i64 c.a2) ∧ w'.cell? ⟨bc, 3, none⟩ = some (.int .i64 c.a3) ∧ w'.cell? ⟨bc, 4, none⟩ = some (.int .i64 c.a4) ∧ w'.cell? ⟨bt, k * 5, none⟩ = some (.int .i64 e.a0) ∧ w'.cell? ⟨bt, k * 5 + 1, none⟩ = some (.int .i64 e.a1) ∧ w'.cell? ⟨bt, k * 5 + 2, none⟩ = some (.int .i64 e.a2) ∧ w'.cell? ⟨bt, k * 5 + 3, none⟩ = some (.int .i64 e.a3) ∧ w'.cell? ⟨bt, k * 5 + 4, none⟩ = some (.int .i64 e.a4))
      (assumption) (first
        | (go_at_call 19; with_reducible refine Calls.mono (T1.out _ (by assumption)) ?_; rintro e w' ⟨rfl, hS'⟩)
        | (go_at_call 19; with_reducible refine Calls.mono (T2.out _ (by assumption)) ?_; rintro e w' ⟨rfl, hS'⟩)
        | (go_at_call 19; with_reducible refine Calls.mono (T3.out _ (by assumption)) ?_; rintro e w' ⟨rfl, hS'⟩))
    rename_i hfin
    have HF := Lib.hid (HF'.out _ hfin.1.out)
    clear hfin start
    go_wp2_with fail
    go_ret
    exact ⟨by simp, HF.out⟩
end Go.Proofs.YtjdpocoahinbfaaDoor
