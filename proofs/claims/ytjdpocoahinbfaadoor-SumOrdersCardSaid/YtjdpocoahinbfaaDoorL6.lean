/-
  SumCosts: the walk.
-/
import Derived.Test.YtjdpocoahinbfaaDoorL3
import Derived.Test.YtjdpocoahinbfaaDoorWh
import Derived.Test.YtjdpocoahinbfaaDoorRe
import Derived.Deep.RegionHeld3
import Derived.Deep.DrawnRows
import Derived.Laws.StructEq
import Derived.Outline
namespace Go.Proofs.YtjdpocoahinbfaaDoor
open Go.RowKit Go.Lib
attribute [local go_sem ↓] Go.wp_at_zero Go.wp_at_succ

theorem eq32 (a b : C5) (w : World) : (Op.equalIn 10000 32 a.v b.v).run Tryd.prog w = .ok (a.a0 == b.a0 && a.a1 == b.a1 && a.a2 == b.a2 && a.a3 == b.a3 && a.a4 == b.a4) w := by
  obtain ⟨a0, a1, a2, a3, a4⟩ := a
  obtain ⟨b0, b1, b2, b3, b4⟩ := b
  have hu3 := Tryd.underlying3
  have ha3 := Tryd.isAgg3
  have hz3 := Tryd.sizeOf3
  rw [show (10000 : Nat) = 9999 + 1 from rfl, Op.equalIn]
  simp only [Sem.run_bind, run_underlying Tryd.underlying32, Result.andThen_ok]
  simp only [Std.Legacy.Range.forIn_eq_forIn_range', Std.Legacy.Range.size, Nat.sub_zero, Nat.add_sub_cancel, Nat.div_one, List.range'_succ, List.range'_zero, List.forIn_cons, List.forIn_nil]
  go_simp
  by_cases h0 : a0 = b0 <;> by_cases h1 : a1 = b1 <;> by_cases h2 : a2 = b2 <;> by_cases h3 : a3 = b3 <;> by_cases h4 : a4 = b4 <;> simp [h0, h1, h2, h3, h4]

theorem eqv32 (a b : C5) (w : World) : (binOp .eql 32 a.v b.v).run Tryd.prog w = .ok (.bool (a.a0 == b.a0 && a.a1 == b.a1 && a.a2 == b.a2 && a.a3 == b.a3 && a.a4 == b.a4)) w := by
  rw [run_eql_struct, eq32]
  rfl

def BoxAt (w : World) (b : Nat) (c : C5) : Prop :=
  b < w.heap.size ∧ w.cell? ⟨b, 0, none⟩ = some (.int .i64 c.a0) ∧ w.cell? ⟨b, 1, none⟩ = some (.int .i64 c.a1) ∧ w.cell? ⟨b, 2, none⟩ = some (.int .i64 c.a2) ∧
    w.cell? ⟨b, 3, none⟩ = some (.int .i64 c.a3) ∧ w.cell? ⟨b, 4, none⟩ = some (.int .i64 c.a4)

theorem BoxAt.below {w w' : World} {b : Nat} {c : C5} {B : Nat} (h : BoxAt w b c) (hb : Below B w w') (hB : w.heap.size ≤ B) : BoxAt w' b c := by
  obtain ⟨h1, q0, q1, q2, q3, q4⟩ := h
  have hbl : ∀ o : Nat, w'.cell? ⟨b, o, none⟩ = w.cell? ⟨b, o, none⟩ := fun o => hb.cell (p := ⟨b, o, none⟩) (by show b < B; omega)
  exact ⟨by have := hb.size; omega, (hbl _).trans q0, (hbl _).trans q1, (hbl _).trans q2, (hbl _).trans q3, (hbl _).trans q4⟩

theorem BoxAt.made (w : World) (c : C5) : BoxAt (w.alloc (.cells c.arr 32)) w.heap.size c :=
  ⟨by simp, by simp [go_sem], by simp [go_sem], by simp [go_sem], by simp [go_sem], by simp [go_sem]⟩

theorem BoxAt.alloc {w : World} {b : Nat} {c : C5} (h : BoxAt w b c) (o : Obj) : BoxAt (w.alloc o) b c :=
  h.below ((Below.refl _ _).alloc (Nat.le_refl _) o) (Nat.le_refl _)

theorem BoxAt.drew {w : World} {b : Nat} {c : C5} (h : BoxAt w b c) : BoxAt w.drew b c :=
  h.below ((Below.refl w.heap.size _).drew) (Nat.le_refl _)

set_option maxRecDepth 100000 in
set_option maxHeartbeats 4000000 in
theorem costs_walk (c d : C5) (a : Option Addr) (len cap : Nat) (cs : List C5) (x : Addr) (w : World) (hc : C64 c) (hd : C64 d) (hi : IsCosts w a len cs) (_ : len ≤ maxLen) (hg : Sent x w) :
    Calls Tryd.prog 9 #[c.v, d.v, .slice a len cap] w fun e w' => e = .returned (.bool true) ∧ Below w.heap.size w w' := by
  have H := Lib.hid hg
  have I := Lib.hid hi
  have HC := Lib.hid hc
  have HD := Lib.hid hd
  clear hg hi hc hd
  have L : len ≤ 1000 ∨ 1000 < len := by omega
  go_enter Tryd.func9, Tryd.ntmps9
  go_wp2_with fail
  have b0 : Below w.heap.size w ((w.alloc (.cells c.arr 32)).alloc (.cells d.arr 32)) := ((Below.refl _ _).alloc (Nat.le_refl _) _).alloc (by simp) _
  have A := Lib.hid ((BoxAt.made w c).alloc (.cells d.arr 32))
  have B := Lib.hid (BoxAt.made (w.alloc (.cells c.arr 32)) d)
  refine (shown_any x _ (H.out.below b0 H.out.pos)).mono ?_
  rintro r w1 ⟨rfl, b1⟩
  have HB := Lib.hid (b0.trans (b1.bel.mono (b0.size)))
  have HS := Lib.hid b1.sent
  have A1 := Lib.hid (A.out.below b1.bel (Nat.le_refl _))
  have B1 := Lib.hid (B.out.below b1.bel (Nat.le_refl _))
  have I1 := Lib.hid (I.out.below HB.out (Nat.le_refl _))
  clear b0 b1 A B H I
  rcases L with L | L
  · have dl : decide (1000 < len) = false := by simp; omega
    obtain ⟨ba, hba⟩ : ∃ ba, w.heap.size = ba := ⟨_, rfl⟩
    obtain ⟨bb, hbb⟩ : ∃ bb, ba + 1 = bb := ⟨_, rfl⟩
    rw [show (w.alloc (.cells c.arr 32)).heap.size = ba + 1 from by simp [hba]] at B1
    rw [hba] at A1 HB ⊢
    rw [hbb] at B1 ⊢
    obtain ⟨_, q0, q1, q2, q3, q4⟩ := A1.out
    obtain ⟨_, r0, r1, r2, r3, r4⟩ := B1.out
    have HE := Lib.hid hba
    clear hba hbb
    go_wp2_with fail
    refine (Join_any c d x _ HC.out HD.out HS.out).mono ?_
    rintro r w2 ⟨rfl, b2⟩
    have HB2 := Lib.hid (HB.out.trans (b2.mono (by rw [← HE.out]; exact HB.out.size)))
    have HS2 := Lib.hid (HS.out.below b2 HS.out.pos)
    have A2 := Lib.hid (A1.out.below b2 (Nat.le_refl _))
    have B2 := Lib.hid (B1.out.below b2 (Nat.le_refl _))
    have I2 := Lib.hid (I1.out.below b2 (Nat.le_refl _))
    clear q0 q1 q2 q3 q4 r0 r1 r2 r3 r4
    obtain ⟨_, q0, q1, q2, q3, q4⟩ := A2.out
    obtain ⟨_, r0, r1, r2, r3, r4⟩ := B2.out
    clear b2 HB HS A1 B1 I1
    have hrj := Lib.hid (fun w => rjoin_any c d w HC.out HD.out)
    generalize joinV (joinO c d) = j at *
    generalize errC (joinO c d) = ec at *
    go_wp2_with fail
    have J3 := Lib.hid (BoxAt.made w2 j)
    have b3 : Below w2.heap.size w2 (w2.alloc (.cells j.arr 32)) := (Below.refl _ _).alloc (Nat.le_refl _) _
    refine (hrj.out _).mono ?_
    rintro r w4 ⟨rfl, b4⟩
    have J4 := Lib.hid (J3.out.below b4 (Nat.le_refl _))
    have c4 := b3.trans (b4.mono b3.size)
    have HB4 := Lib.hid (HB2.out.trans (c4.mono (by rw [← HE.out]; exact HB2.out.size)))
    have A4 := Lib.hid (A2.out.below c4 (Nat.le_refl _))
    have B4 := Lib.hid (B2.out.below c4 (Nat.le_refl _))
    have I4 := Lib.hid (I2.out.below c4 (Nat.le_refl _))
    clear q0 q1 q2 q3 q4 r0 r1 r2 r3 r4 b3 b4 c4 HB2 HS2 A2 B2 I2 J3 hrj
    generalize w2.heap.size = bj at *
    have dec1 : decide (ec = ec) = true := by simp
    go_wp2_with fail
    have K5 := Lib.hid (BoxAt.made w4 j)
    have b5 : Below w4.heap.size w4 (w4.alloc (.cells j.arr 32)) := (Below.refl _ _).alloc (Nat.le_refl _) _
    have J5 := Lib.hid (J4.out.below b5 (Nat.le_refl _))
    have HB5 := Lib.hid (HB4.out.trans (b5.mono (by rw [← HE.out]; exact HB4.out.size)))
    have A5 := Lib.hid (A4.out.below b5 (Nat.le_refl _))
    have B5 := Lib.hid (B4.out.below b5 (Nat.le_refl _))
    have I5 := Lib.hid (I4.out.below b5 (Nat.le_refl _))
    clear b5 J4 HB4 A4 B4 I4
    change Code.wp _ _ _ _ (w4.alloc (.cells j.arr 32))
    generalize w4.alloc (.cells j.arr 32) = W at *
    generalize w4.heap.size = bk at *
    have key : ∀ w', Below W.heap.size W w' → (Hid (Below W.heap.size W w') ∧ w'.cell? ⟨ba, 0, none⟩ = some (.int .i64 c.a0) ∧ w'.cell? ⟨ba, 1, none⟩ = some (.int .i64 c.a1) ∧ w'.cell? ⟨ba, 2, none⟩ = some (.int .i64 c.a2) ∧ w'.cell? ⟨ba, 3, none⟩ = some (.int .i64 c.a3) ∧ w'.cell? ⟨ba, 4, none⟩ = some (.int .i64 c.a4) ∧ w'.cell? ⟨bb, 0, none⟩ = some (.int .i64 d.a0) ∧ w'.cell? ⟨bb, 1, none⟩ = some (.int .i64 d.a1) ∧ w'.cell? ⟨bb, 2, none⟩ = some (.int .i64 d.a2) ∧ w'.cell? ⟨bb, 3, none⟩ = some (.int .i64 d.a3) ∧ w'.cell? ⟨bb, 4, none⟩ = some (.int .i64 d.a4) ∧ w'.cell? ⟨bj, 0, none⟩ = some (.int .i64 j.a0) ∧ w'.cell? ⟨bj, 1, none⟩ = some (.int .i64 j.a1) ∧ w'.cell? ⟨bj, 2, none⟩ = some (.int .i64 j.a2) ∧ w'.cell? ⟨bj, 3, none⟩ = some (.int .i64 j.a3) ∧ w'.cell? ⟨bj, 4, none⟩ = some (.int .i64 j.a4) ∧ w'.cell? ⟨bk, 0, none⟩ = some (.int .i64 j.a0) ∧ w'.cell? ⟨bk, 1, none⟩ = some (.int .i64 j.a1) ∧ w'.cell? ⟨bk, 2, none⟩ = some (.int .i64 j.a2) ∧ w'.cell? ⟨bk, 3, none⟩ = some (.int .i64 j.a3) ∧ w'.cell? ⟨bk, 4, none⟩ = some (.int .i64 j.a4)) := fun w' h => by
      obtain ⟨_, p0, p1, p2, p3, p4⟩ := A5.out.below h (Nat.le_refl _)
      obtain ⟨_, q0, q1, q2, q3, q4⟩ := B5.out.below h (Nat.le_refl _)
      obtain ⟨_, r0, r1, r2, r3, r4⟩ := J5.out.below h (Nat.le_refl _)
      obtain ⟨_, s0, s1, s2, s3, s4⟩ := K5.out.below h (Nat.le_refl _)
      exact ⟨Lib.hid h, p0, p1, p2, p3, p4, q0, q1, q2, q3, q4, r0, r1, r2, r3, r4, s0, s1, s2, s3, s4⟩
    have start := key W.drew (Below.refl _ _).drew
    obtain ⟨n, hn⟩ : ∃ n, cmp5 c d = n := ⟨_, rfl⟩
    obtain ⟨m, hm'⟩ : ∃ n, bestTo cs len = n := ⟨_, rfl⟩
    have C1 := Lib.hid (fun w' (h : Hid (Below W.heap.size W w') ∧ w'.cell? ⟨ba, 0, none⟩ = some (.int .i64 c.a0) ∧ w'.cell? ⟨ba, 1, none⟩ = some (.int .i64 c.a1) ∧ w'.cell? ⟨ba, 2, none⟩ = some (.int .i64 c.a2) ∧ w'.cell? ⟨ba, 3, none⟩ = some (.int .i64 c.a3) ∧ w'.cell? ⟨ba, 4, none⟩ = some (.int .i64 c.a4) ∧ w'.cell? ⟨bb, 0, none⟩ = some (.int .i64 d.a0) ∧ w'.cell? ⟨bb, 1, none⟩ = some (.int .i64 d.a1) ∧ w'.cell? ⟨bb, 2, none⟩ = some (.int .i64 d.a2) ∧ w'.cell? ⟨bb, 3, none⟩ = some (.int .i64 d.a3) ∧ w'.cell? ⟨bb, 4, none⟩ = some (.int .i64 d.a4) ∧ w'.cell? ⟨bj, 0, none⟩ = some (.int .i64 j.a0) ∧ w'.cell? ⟨bj, 1, none⟩ = some (.int .i64 j.a1) ∧ w'.cell? ⟨bj, 2, none⟩ = some (.int .i64 j.a2) ∧ w'.cell? ⟨bj, 3, none⟩ = some (.int .i64 j.a3) ∧ w'.cell? ⟨bj, 4, none⟩ = some (.int .i64 j.a4) ∧ w'.cell? ⟨bk, 0, none⟩ = some (.int .i64 j.a0) ∧ w'.cell? ⟨bk, 1, none⟩ = some (.int .i64 j.a1) ∧ w'.cell? ⟨bk, 2, none⟩ = some (.int .i64 j.a2) ∧ w'.cell? ⟨bk, 3, none⟩ = some (.int .i64 j.a3) ∧ w'.cell? ⟨bk, 4, none⟩ = some (.int .i64 j.a4)) => show Calls Tryd.prog 19 #[c.v, d.v] w' fun e w'' => e = .returned (.int .i64 n) ∧ Hid (Below W.heap.size W w'') ∧ w''.cell? ⟨ba, 0, none⟩ = some (.int .i64 c.a0) ∧ w''.cell? ⟨ba, 1, none⟩ = some (.int .i64 c.a1) ∧ w''.cell? ⟨ba, 2, none⟩ = some (.int .i64 c.a2) ∧ w''.cell? ⟨ba, 3, none⟩ = some (.int .i64 c.a3) ∧ w''.cell? ⟨ba, 4, none⟩ = some (.int .i64 c.a4) ∧ w''.cell? ⟨bb, 0, none⟩ = some (.int .i64 d.a0) ∧ w''.cell? ⟨bb, 1, none⟩ = some (.int .i64 d.a1) ∧ w''.cell? ⟨bb, 2, none⟩ = some (.int .i64 d.a2) ∧ w''.cell? ⟨bb, 3, none⟩ = some (.int .i64 d.a3) ∧ w''.cell? ⟨bb, 4, none⟩ = some (.int .i64 d.a4) ∧ w''.cell? ⟨bj, 0, none⟩ = some (.int .i64 j.a0) ∧ w''.cell? ⟨bj, 1, none⟩ = some (.int .i64 j.a1) ∧ w''.cell? ⟨bj, 2, none⟩ = some (.int .i64 j.a2) ∧ w''.cell? ⟨bj, 3, none⟩ = some (.int .i64 j.a3) ∧ w''.cell? ⟨bj, 4, none⟩ = some (.int .i64 j.a4) ∧ w''.cell? ⟨bk, 0, none⟩ = some (.int .i64 j.a0) ∧ w''.cell? ⟨bk, 1, none⟩ = some (.int .i64 j.a1) ∧ w''.cell? ⟨bk, 2, none⟩ = some (.int .i64 j.a2) ∧ w''.cell? ⟨bk, 3, none⟩ = some (.int .i64 j.a3) ∧ w''.cell? ⟨bk, 4, none⟩ = some (.int .i64 j.a4) from
      (Compare_any c d w').mono fun e w'' ⟨he, hb⟩ => ⟨by rw [← hn]; exact he, key _ (h.1.out.trans (hb.mono h.1.out.size))⟩)
    have C2 := Lib.hid (fun w' (h : Hid (Below W.heap.size W w') ∧ w'.cell? ⟨ba, 0, none⟩ = some (.int .i64 c.a0) ∧ w'.cell? ⟨ba, 1, none⟩ = some (.int .i64 c.a1) ∧ w'.cell? ⟨ba, 2, none⟩ = some (.int .i64 c.a2) ∧ w'.cell? ⟨ba, 3, none⟩ = some (.int .i64 c.a3) ∧ w'.cell? ⟨ba, 4, none⟩ = some (.int .i64 c.a4) ∧ w'.cell? ⟨bb, 0, none⟩ = some (.int .i64 d.a0) ∧ w'.cell? ⟨bb, 1, none⟩ = some (.int .i64 d.a1) ∧ w'.cell? ⟨bb, 2, none⟩ = some (.int .i64 d.a2) ∧ w'.cell? ⟨bb, 3, none⟩ = some (.int .i64 d.a3) ∧ w'.cell? ⟨bb, 4, none⟩ = some (.int .i64 d.a4) ∧ w'.cell? ⟨bj, 0, none⟩ = some (.int .i64 j.a0) ∧ w'.cell? ⟨bj, 1, none⟩ = some (.int .i64 j.a1) ∧ w'.cell? ⟨bj, 2, none⟩ = some (.int .i64 j.a2) ∧ w'.cell? ⟨bj, 3, none⟩ = some (.int .i64 j.a3) ∧ w'.cell? ⟨bj, 4, none⟩ = some (.int .i64 j.a4) ∧ w'.cell? ⟨bk, 0, none⟩ = some (.int .i64 j.a0) ∧ w'.cell? ⟨bk, 1, none⟩ = some (.int .i64 j.a1) ∧ w'.cell? ⟨bk, 2, none⟩ = some (.int .i64 j.a2) ∧ w'.cell? ⟨bk, 3, none⟩ = some (.int .i64 j.a3) ∧ w'.cell? ⟨bk, 4, none⟩ = some (.int .i64 j.a4)) => show Calls Tryd.prog 23 #[c.v, d.v] w' fun e w'' => e = .returned (.int .i64 n) ∧ Hid (Below W.heap.size W w'') ∧ w''.cell? ⟨ba, 0, none⟩ = some (.int .i64 c.a0) ∧ w''.cell? ⟨ba, 1, none⟩ = some (.int .i64 c.a1) ∧ w''.cell? ⟨ba, 2, none⟩ = some (.int .i64 c.a2) ∧ w''.cell? ⟨ba, 3, none⟩ = some (.int .i64 c.a3) ∧ w''.cell? ⟨ba, 4, none⟩ = some (.int .i64 c.a4) ∧ w''.cell? ⟨bb, 0, none⟩ = some (.int .i64 d.a0) ∧ w''.cell? ⟨bb, 1, none⟩ = some (.int .i64 d.a1) ∧ w''.cell? ⟨bb, 2, none⟩ = some (.int .i64 d.a2) ∧ w''.cell? ⟨bb, 3, none⟩ = some (.int .i64 d.a3) ∧ w''.cell? ⟨bb, 4, none⟩ = some (.int .i64 d.a4) ∧ w''.cell? ⟨bj, 0, none⟩ = some (.int .i64 j.a0) ∧ w''.cell? ⟨bj, 1, none⟩ = some (.int .i64 j.a1) ∧ w''.cell? ⟨bj, 2, none⟩ = some (.int .i64 j.a2) ∧ w''.cell? ⟨bj, 3, none⟩ = some (.int .i64 j.a3) ∧ w''.cell? ⟨bj, 4, none⟩ = some (.int .i64 j.a4) ∧ w''.cell? ⟨bk, 0, none⟩ = some (.int .i64 j.a0) ∧ w''.cell? ⟨bk, 1, none⟩ = some (.int .i64 j.a1) ∧ w''.cell? ⟨bk, 2, none⟩ = some (.int .i64 j.a2) ∧ w''.cell? ⟨bk, 3, none⟩ = some (.int .i64 j.a3) ∧ w''.cell? ⟨bk, 4, none⟩ = some (.int .i64 j.a4) from
      (rcompare_any c d w').mono fun e w'' ⟨he, hb⟩ => ⟨by rw [← hn]; exact he, key _ (h.1.out.trans (hb.mono h.1.out.size))⟩)
    have C3 := Lib.hid (fun w' (h : Hid (Below W.heap.size W w') ∧ w'.cell? ⟨ba, 0, none⟩ = some (.int .i64 c.a0) ∧ w'.cell? ⟨ba, 1, none⟩ = some (.int .i64 c.a1) ∧ w'.cell? ⟨ba, 2, none⟩ = some (.int .i64 c.a2) ∧ w'.cell? ⟨ba, 3, none⟩ = some (.int .i64 c.a3) ∧ w'.cell? ⟨ba, 4, none⟩ = some (.int .i64 c.a4) ∧ w'.cell? ⟨bb, 0, none⟩ = some (.int .i64 d.a0) ∧ w'.cell? ⟨bb, 1, none⟩ = some (.int .i64 d.a1) ∧ w'.cell? ⟨bb, 2, none⟩ = some (.int .i64 d.a2) ∧ w'.cell? ⟨bb, 3, none⟩ = some (.int .i64 d.a3) ∧ w'.cell? ⟨bb, 4, none⟩ = some (.int .i64 d.a4) ∧ w'.cell? ⟨bj, 0, none⟩ = some (.int .i64 j.a0) ∧ w'.cell? ⟨bj, 1, none⟩ = some (.int .i64 j.a1) ∧ w'.cell? ⟨bj, 2, none⟩ = some (.int .i64 j.a2) ∧ w'.cell? ⟨bj, 3, none⟩ = some (.int .i64 j.a3) ∧ w'.cell? ⟨bj, 4, none⟩ = some (.int .i64 j.a4) ∧ w'.cell? ⟨bk, 0, none⟩ = some (.int .i64 j.a0) ∧ w'.cell? ⟨bk, 1, none⟩ = some (.int .i64 j.a1) ∧ w'.cell? ⟨bk, 2, none⟩ = some (.int .i64 j.a2) ∧ w'.cell? ⟨bk, 3, none⟩ = some (.int .i64 j.a3) ∧ w'.cell? ⟨bk, 4, none⟩ = some (.int .i64 j.a4)) => show Calls Tryd.prog 20 #[.slice a len cap] w' fun e w'' => e = .returned (.int .i64 m) ∧ Hid (Below W.heap.size W w'') ∧ w''.cell? ⟨ba, 0, none⟩ = some (.int .i64 c.a0) ∧ w''.cell? ⟨ba, 1, none⟩ = some (.int .i64 c.a1) ∧ w''.cell? ⟨ba, 2, none⟩ = some (.int .i64 c.a2) ∧ w''.cell? ⟨ba, 3, none⟩ = some (.int .i64 c.a3) ∧ w''.cell? ⟨ba, 4, none⟩ = some (.int .i64 c.a4) ∧ w''.cell? ⟨bb, 0, none⟩ = some (.int .i64 d.a0) ∧ w''.cell? ⟨bb, 1, none⟩ = some (.int .i64 d.a1) ∧ w''.cell? ⟨bb, 2, none⟩ = some (.int .i64 d.a2) ∧ w''.cell? ⟨bb, 3, none⟩ = some (.int .i64 d.a3) ∧ w''.cell? ⟨bb, 4, none⟩ = some (.int .i64 d.a4) ∧ w''.cell? ⟨bj, 0, none⟩ = some (.int .i64 j.a0) ∧ w''.cell? ⟨bj, 1, none⟩ = some (.int .i64 j.a1) ∧ w''.cell? ⟨bj, 2, none⟩ = some (.int .i64 j.a2) ∧ w''.cell? ⟨bj, 3, none⟩ = some (.int .i64 j.a3) ∧ w''.cell? ⟨bj, 4, none⟩ = some (.int .i64 j.a4) ∧ w''.cell? ⟨bk, 0, none⟩ = some (.int .i64 j.a0) ∧ w''.cell? ⟨bk, 1, none⟩ = some (.int .i64 j.a1) ∧ w''.cell? ⟨bk, 2, none⟩ = some (.int .i64 j.a2) ∧ w''.cell? ⟨bk, 3, none⟩ = some (.int .i64 j.a3) ∧ w''.cell? ⟨bk, 4, none⟩ = some (.int .i64 j.a4) from
      (Best_any a len cap cs w' (by omega) (I5.out.below h.1.out (Nat.le_refl _))).mono fun e w'' ⟨he, hb⟩ => ⟨by rw [← hm']; exact he, key _ (h.1.out.trans (hb.mono h.1.out.size))⟩)
    have C4 := Lib.hid (fun w' (h : Hid (Below W.heap.size W w') ∧ w'.cell? ⟨ba, 0, none⟩ = some (.int .i64 c.a0) ∧ w'.cell? ⟨ba, 1, none⟩ = some (.int .i64 c.a1) ∧ w'.cell? ⟨ba, 2, none⟩ = some (.int .i64 c.a2) ∧ w'.cell? ⟨ba, 3, none⟩ = some (.int .i64 c.a3) ∧ w'.cell? ⟨ba, 4, none⟩ = some (.int .i64 c.a4) ∧ w'.cell? ⟨bb, 0, none⟩ = some (.int .i64 d.a0) ∧ w'.cell? ⟨bb, 1, none⟩ = some (.int .i64 d.a1) ∧ w'.cell? ⟨bb, 2, none⟩ = some (.int .i64 d.a2) ∧ w'.cell? ⟨bb, 3, none⟩ = some (.int .i64 d.a3) ∧ w'.cell? ⟨bb, 4, none⟩ = some (.int .i64 d.a4) ∧ w'.cell? ⟨bj, 0, none⟩ = some (.int .i64 j.a0) ∧ w'.cell? ⟨bj, 1, none⟩ = some (.int .i64 j.a1) ∧ w'.cell? ⟨bj, 2, none⟩ = some (.int .i64 j.a2) ∧ w'.cell? ⟨bj, 3, none⟩ = some (.int .i64 j.a3) ∧ w'.cell? ⟨bj, 4, none⟩ = some (.int .i64 j.a4) ∧ w'.cell? ⟨bk, 0, none⟩ = some (.int .i64 j.a0) ∧ w'.cell? ⟨bk, 1, none⟩ = some (.int .i64 j.a1) ∧ w'.cell? ⟨bk, 2, none⟩ = some (.int .i64 j.a2) ∧ w'.cell? ⟨bk, 3, none⟩ = some (.int .i64 j.a3) ∧ w'.cell? ⟨bk, 4, none⟩ = some (.int .i64 j.a4)) => show Calls Tryd.prog 24 #[.slice a len cap] w' fun e w'' => e = .returned (.int .i64 m) ∧ Hid (Below W.heap.size W w'') ∧ w''.cell? ⟨ba, 0, none⟩ = some (.int .i64 c.a0) ∧ w''.cell? ⟨ba, 1, none⟩ = some (.int .i64 c.a1) ∧ w''.cell? ⟨ba, 2, none⟩ = some (.int .i64 c.a2) ∧ w''.cell? ⟨ba, 3, none⟩ = some (.int .i64 c.a3) ∧ w''.cell? ⟨ba, 4, none⟩ = some (.int .i64 c.a4) ∧ w''.cell? ⟨bb, 0, none⟩ = some (.int .i64 d.a0) ∧ w''.cell? ⟨bb, 1, none⟩ = some (.int .i64 d.a1) ∧ w''.cell? ⟨bb, 2, none⟩ = some (.int .i64 d.a2) ∧ w''.cell? ⟨bb, 3, none⟩ = some (.int .i64 d.a3) ∧ w''.cell? ⟨bb, 4, none⟩ = some (.int .i64 d.a4) ∧ w''.cell? ⟨bj, 0, none⟩ = some (.int .i64 j.a0) ∧ w''.cell? ⟨bj, 1, none⟩ = some (.int .i64 j.a1) ∧ w''.cell? ⟨bj, 2, none⟩ = some (.int .i64 j.a2) ∧ w''.cell? ⟨bj, 3, none⟩ = some (.int .i64 j.a3) ∧ w''.cell? ⟨bj, 4, none⟩ = some (.int .i64 j.a4) ∧ w''.cell? ⟨bk, 0, none⟩ = some (.int .i64 j.a0) ∧ w''.cell? ⟨bk, 1, none⟩ = some (.int .i64 j.a1) ∧ w''.cell? ⟨bk, 2, none⟩ = some (.int .i64 j.a2) ∧ w''.cell? ⟨bk, 3, none⟩ = some (.int .i64 j.a3) ∧ w''.cell? ⟨bk, 4, none⟩ = some (.int .i64 j.a4) from
      (rbest_any a len cap cs w' (by omega) (I5.out.below h.1.out (Nat.le_refl _))).mono fun e w'' ⟨he, hb⟩ => ⟨by rw [← hm']; exact he, key _ (h.1.out.trans (hb.mono h.1.out.size))⟩)
    have eqj : ∀ w, (binOp .eql 32 (.agg #[.int .i64 j.a0, .int .i64 j.a1, .int .i64 j.a2, .int .i64 j.a3, .int .i64 j.a4]) (.agg #[.int .i64 j.a0, .int .i64 j.a1, .int .i64 j.a2, .int .i64 j.a3, .int .i64 j.a4])).run Tryd.prog w = .ok (.bool true) w := fun w => by rw [eqv32 j j w]; simp
    have HB6 : Hid (∀ w', Below W.heap.size W w' → Below w.heap.size w w') := Lib.hid fun w' h => by rw [HE.out]; exact HB5.out.trans (h.mono (by rw [← HE.out]; exact HB5.out.size))
    clear key A5 B5 J5 K5 I5 HB5 HC HD hn hm' dec1
    go_region_held3 (fun w' => Hid (Below W.heap.size W w') ∧ w'.cell? ⟨ba, 0, none⟩ = some (.int .i64 c.a0) ∧ w'.cell? ⟨ba, 1, none⟩ = some (.int .i64 c.a1) ∧ w'.cell? ⟨ba, 2, none⟩ = some (.int .i64 c.a2) ∧ w'.cell? ⟨ba, 3, none⟩ = some (.int .i64 c.a3) ∧ w'.cell? ⟨ba, 4, none⟩ = some (.int .i64 c.a4) ∧ w'.cell? ⟨bb, 0, none⟩ = some (.int .i64 d.a0) ∧ w'.cell? ⟨bb, 1, none⟩ = some (.int .i64 d.a1) ∧ w'.cell? ⟨bb, 2, none⟩ = some (.int .i64 d.a2) ∧ w'.cell? ⟨bb, 3, none⟩ = some (.int .i64 d.a3) ∧ w'.cell? ⟨bb, 4, none⟩ = some (.int .i64 d.a4) ∧ w'.cell? ⟨bj, 0, none⟩ = some (.int .i64 j.a0) ∧ w'.cell? ⟨bj, 1, none⟩ = some (.int .i64 j.a1) ∧ w'.cell? ⟨bj, 2, none⟩ = some (.int .i64 j.a2) ∧ w'.cell? ⟨bj, 3, none⟩ = some (.int .i64 j.a3) ∧ w'.cell? ⟨bj, 4, none⟩ = some (.int .i64 j.a4) ∧ w'.cell? ⟨bk, 0, none⟩ = some (.int .i64 j.a0) ∧ w'.cell? ⟨bk, 1, none⟩ = some (.int .i64 j.a1) ∧ w'.cell? ⟨bk, 2, none⟩ = some (.int .i64 j.a2) ∧ w'.cell? ⟨bk, 3, none⟩ = some (.int .i64 j.a3) ∧ w'.cell? ⟨bk, 4, none⟩ = some (.int .i64 j.a4))
      (assumption) (first
        | (go_at_call 19; refine (C1.out _ (by assumption)).mono ?_; rintro e w' ⟨rfl, hS'⟩)
        | (go_at_call 23; refine (C2.out _ (by assumption)).mono ?_; rintro e w' ⟨rfl, hS'⟩)
        | (go_at_call 20; refine (C3.out _ (by assumption)).mono ?_; rintro e w' ⟨rfl, hS'⟩)
        | (go_at_call 24; refine (C4.out _ (by assumption)).mono ?_; rintro e w' ⟨rfl, hS'⟩))
    rename_i hfin
    have HF := Lib.hid (HB6.out _ hfin.1.out)
    clear hfin start
    go_wp2_with fail
    go_ret
    exact ⟨by simp, HF.out⟩
  · have dl : decide (1000 < len) = true := by simp; omega
    go_wp2_with fail
    go_ret
    exact ⟨rfl, HB.out⟩
end Go.Proofs.YtjdpocoahinbfaaDoor
