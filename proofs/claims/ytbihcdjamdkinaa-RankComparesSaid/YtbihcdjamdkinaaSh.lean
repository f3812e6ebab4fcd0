/-
  The chapter's examples, at the head of all statements: shown returns true.
-/
import Derived.Test.YtbihcdjamdkinaaSp
namespace Go.Proofs.Ytbihcdjamdkinaa
open Go.RowKit Go.Lib

theorem isU_made (w : World) (cs : Array Value) (xs : List Int) (hcs : cs = (xs.map (Value.int .u64)).toArray) : IsU (w.alloc (.cells cs 22)) (some ⟨w.heap.size, 0, none⟩) xs.length xs := by
  refine ⟨rfl, .inr ⟨w.heap.size, 0, rfl, by simp, fun i hi => ?_⟩⟩
  subst hcs
  have hb := heap_alloc_new w (.cells (xs.map (Value.int .u64)).toArray 22)
  simp only [World.cell?, hb]
  simp [hi]

def shX : List Int := [4607182418800017408, 9221120237041090560, 4611686018427387904]
theorem sh_order {es : List Int} (h : Ordered shX 3 es) : es = [2, 0, 1] := by
  have e : insOut shX 0 (3 - (0 + 1)) (0 + 1) (upI 3) = [2, 0, 1] := by decide +kernel
  exact (h.one (small_ordered shX 3 (by decide))).trans e

def shA (k : Nat) : List Int := if k ≤ 1024 then [0, 0, 1, (k : Int) * 1099511627776] else [0, 0, 0, 563499709235200]
def shS (k : Nat) : Int := if k ≤ 1024 then 0 else 1
theorem set3 (a b c d e : Int) : [a, b, c, d].set 3 ([a, b, c, d].getD 3 0 + e) = [a, b, c, d + e] := rfl
theorem sh_bump (k : Nat) (hk : k < 1025) : bumpA (shA k) 3 1099511627776 = shA (k + 1) ∧ bumpS (shA k) 3 1099511627776 (shS k) = shS (k + 1) := by
  have e : shA k = [0, 0, 1, (k : Int) * 1099511627776] := if_pos (by omega)
  have es : shS k = 0 := if_pos (by omega)
  by_cases h : k + 1 ≤ 1024
  · have e' : shA (k + 1) = [0, 0, 1, ((k + 1 : Nat) : Int) * 1099511627776] := if_pos h
    have es' : shS (k + 1) = 0 := if_pos h
    have ho : over (shA k) 3 1099511627776 = false := by
      rw [e]
      show decide (1125899906842624 < (k : Int) * 1099511627776 + 1099511627776) = false
      simp; omega
    unfold bumpA bumpS
    rw [ho, e', es, es', e, if_neg (by decide), if_neg (by decide), set3]
    refine ⟨?_, rfl⟩
    have : (k : Int) * 1099511627776 + 1099511627776 = ((k + 1 : Nat) : Int) * 1099511627776 := by omega
    rw [this]
  · obtain rfl : k = 1024 := by omega
    decide +kernel

def shI : Nat → Bool := upd (upd allI 2 false) 1 false
theorem sh_A1 : bumpA (newA 3) 2 1 = shA 0 := by decide +kernel
theorem sh_S1 : bumpS (newA 3) 2 1 0 = shS 0 := by decide +kernel
theorem sh_t1 : topF (shA 0) allI 3 = 2 := by decide +kernel
theorem sh_t2 : topF (shA 0) (upd allI 2 false) 3 = 1 := by decide +kernel
theorem sh_c1 : fcmp 9221120237041090560 18442240474082181120 = -1 := by decide +kernel
theorem sh_c2 : fcmp 9223372036854775808 0 = 0 := by decide +kernel
theorem sh_c3 : fcmp 9221120237041090560 9221120237041090560 = 0 := by decide +kernel
def shB : List Int := [9221120237041090560, 4607182418800017408, 4607182418800017408]
theorem sh_b : bestTo shB 3 = 1 := by decide +kernel

set_option maxRecDepth 100000 in
set_option maxHeartbeats 4000000 in
theorem shown_any (w : World) : Calls Try.prog 9 #[] w fun e w' => e = .returned (.bool true) ∧ Below w.heap.size w w' := by
  go_enter Try.func9, Try.ntmps9
  go_wp2_with fail
  have B0 : Hid (Below w.heap.size w (w.alloc (.cells #[.int .u64 4607182418800017408, .int .u64 9221120237041090560, .int .u64 4611686018427387904] 22))) := Lib.hid ((Below.refl _ _).alloc (Nat.le_refl _) _)
  refine (Order_small _ 3 3 shX _ (by decide) (isU_made w _ shX rfl)).mono ?_
  rintro e w1 ⟨v, es, rfl, hO, hv, hel, hb⟩
  obtain rfl := sh_order hO
  have B1 := Lib.hid (B0.out.trans (hb.mono B0.out.size))
  obtain ⟨g, c, rfl, _, _, _, hg, hc, _⟩ := hv.at (by decide)
  have c0 := hc 0 (by decide)
  have c1 := hc 1 (by decide)
  have c2 := hc 2 (by decide)
  have HC : Hid (w1.cell? ⟨g, 0, none⟩ = some (.int .i64 2) ∧ w1.cell? ⟨g, 1, none⟩ = some (.int .i64 0) ∧ w1.cell? ⟨g, 2, none⟩ = some (.int .i64 1)) := Lib.hid ⟨c0, c1, c2⟩
  have HG := Lib.hid hg
  clear hO hv hb hel hc c0 c1 c2 B0 hg
  have WS : Hid (w.heap.size ≤ w1.heap.size) := Lib.hid B1.out.size
  go_wp2_with fail
  refine (New_ok 3 w1 (by decide) (fun k => k < w1.heap.size) (fun k h => h)).mono ?_
  rintro e w2 ⟨b, rfl, k2, _, r2⟩
  have K2 := Lib.hid k2
  have R2 := Lib.hid r2
  clear k2 r2
  have BU := Lib.hid (Bump_ok R2.out 2 1 (by decide) (by decide) (by decide) (by decide))
  rw [sh_A1, sh_S1] at BU
  go_wp2_with (go_at_call 19; refine BU.out.mono ?_; rintro e w3 ⟨rfl, k3, r3⟩; have K3 := Lib.hid (K2.out.trans k3); have R3 := Lib.hid r3; clear k3 r3)
  have TA := Lib.hid (Take_some R3.out (by rw [sh_t1]; decide))
  rw [sh_t1] at TA
  refine TA.out.mono ?_
  rintro e w4 ⟨rfl, k4, r4⟩
  have K4 := Lib.hid (K3.out.trans k4)
  have R4 := Lib.hid r4
  clear k4 r4 TA
  go_wp2_with fail
  have TA := Lib.hid (Take_some R4.out (by rw [sh_t2]; decide))
  rw [sh_t2] at TA
  refine TA.out.mono ?_
  rintro e w5 ⟨rfl, k5, r5⟩
  have K5 := Lib.hid (K4.out.trans k5)
  have R5 : Hid (RankAt w5 (fun k => k < w1.heap.size) b 3 (shA 0) shI (shS 0)) := Lib.hid r5
  clear k5 r5 TA K2 K3 K4 R2 R3 R4 BU
  go_wp2_with fail
  go_loopw [13] (fun vi wr => ∃ k : Nat, k ≤ 1025 ∧ vi = .int .i64 k ∧ Hid (Keep (fun k => k < w1.heap.size) w1 wr) ∧ Hid (RankAt wr (fun k => k < w1.heap.size) b 3 (shA k) shI (shS k))) (fun vi _ => 1025 - (intOf vi).toNat)
  case atStart => exact ⟨0, Nat.zero_le _, rfl, K5, R5⟩
  case round =>
    obtain ⟨k, hk, rfl, hK, hR⟩ := hrel
    clear K5 R5
    by_cases hlt : k < 1025
    · have BU := Lib.hid (Bump_ok hR.out 3 1099511627776 (by decide) (by decide) (by decide) (by unfold shS; split <;> decide))
      rw [(sh_bump k hlt).1, (sh_bump k hlt).2] at BU
      go_wp2_with (go_at_call 19; refine BU.out.mono ?_; rintro e w3 ⟨rfl, k3, r3⟩; have K3 := Lib.hid (hK.out.trans k3); have R3 := Lib.hid r3; clear k3 r3)
      go_roundw
      case rel => exact ⟨k + 1, by omega, by go_num, K3, R3⟩
      case measure => simp [intOf]; omega
    · obtain rfl : k = 1025 := by omega
      have hcl := fun j => hK.out.cell (p := ⟨g, j, none⟩) HG.out
      have c0 := (hcl 0).trans HC.out.1
      have c1 := (hcl 1).trans HC.out.2.1
      have c2 := (hcl 2).trans HC.out.2.2
      clear hcl
      have hga : g < wr.heap.size := by have := HG.out; have := hK.out.size; omega
      have hal := fun j => (Below.cell (B := wr.heap.size) ((Below.refl wr.heap.size wr).alloc (Nat.le_refl _) (.cells #[.int .u64 9221120237041090560, .int .u64 4607182418800017408, .int .u64 4607182418800017408] 22)) (p := ⟨g, j, none⟩) hga)
      have a0 := (hal 0).trans c0
      have a1 := (hal 1).trans c1
      have a2 := (hal 2).trans c2
      clear c0 c1 c2 hal hga
      have RA := Lib.hid (hR.out.below ((Below.refl wr.heap.size wr).alloc (Nat.le_refl _) (.cells #[.int .u64 9221120237041090560, .int .u64 4607182418800017408, .int .u64 4607182418800017408] 22)))
      have KA : Hid (Below w.heap.size w (wr.alloc (.cells #[.int .u64 9221120237041090560, .int .u64 4607182418800017408, .int .u64 4607182418800017408] 22))) := Lib.hid ((B1.out.trans ((hK.out.toBelow (n := w1.heap.size) (fun k h => h)).mono WS.out)).alloc (Nat.le_trans WS.out hK.out.size) _)
      have BE := Lib.hid (Bump_err RA.out 1 (-1) (by omega))
      have SC := Lib.hid (rScaled RA.out)
      have e1 := Lib.hid (Compare_any 9221120237041090560 18442240474082181120 wr)
      have e2 := Lib.hid (Compare_any 9223372036854775808 0 wr)
      have e3 := Lib.hid (Compare_any 9221120237041090560 9221120237041090560 wr)
      have e4 : Hid (Calls Try.prog 14 #[.slice (some ⟨wr.heap.size, 0, none⟩) 3 3] (wr.alloc (.cells #[.int .u64 9221120237041090560, .int .u64 4607182418800017408, .int .u64 4607182418800017408] 22)) fun e w' => e = .returned (.int .i64 1) ∧ w' = wr.alloc (.cells #[.int .u64 9221120237041090560, .int .u64 4607182418800017408, .int .u64 4607182418800017408] 22)) := by
        have := Best_any (some ⟨wr.heap.size, 0, none⟩) 3 3 shB (wr.alloc (.cells #[.int .u64 9221120237041090560, .int .u64 4607182418800017408, .int .u64 4607182418800017408] 22)) (by decide) (isU_made wr _ shB rfl)
        rw [sh_b] at this
        exact this
      rw [show fcmp (9221120237041090560 : Int).toNat (18442240474082181120 : Int).toNat = -1 from sh_c1] at e1
      rw [show fcmp (9223372036854775808 : Int).toNat (0 : Int).toNat = 0 from sh_c2] at e2
      rw [show fcmp (9221120237041090560 : Int).toNat (9221120237041090560 : Int).toNat = 0 from sh_c3] at e3
      clear hK
      go_wp2_with (first
        | (go_at_call 12; with_reducible refine Calls.mono e1.out ?_; rintro e w' ⟨rfl, rfl⟩)
        | (go_at_call 12; with_reducible refine Calls.mono e2.out ?_; rintro e w' ⟨rfl, rfl⟩)
        | (go_at_call 12; with_reducible refine Calls.mono e3.out ?_; rintro e w' ⟨rfl, rfl⟩)
        | (go_at_call 14; with_reducible refine Calls.mono e4.out ?_; rintro e w' ⟨rfl, rfl⟩))
      with_reducible refine Calls.mono BE.out ?_
      rintro e w9 ⟨rfl, rfl⟩
      go_wp2_with (go_at_call 18; with_reducible refine Calls.mono SC.out ?_; rintro e w9 ⟨rfl, rfl⟩)
      go_ret
      exact ⟨rfl, KA.out⟩
end Go.Proofs.Ytbihcdjamdkinaa
