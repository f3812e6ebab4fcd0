/-
  RankBounds: the walk.
-/
import Derived.Test.YtbihcdjamdkinaaRb
import Derived.StillTailTactics
namespace Go.Proofs.Ytbihcdjamdkinaa
open Go.RowKit Go.Lib
attribute [local go_sem ↓] Go.wp_at_zero Go.wp_at_succ

set_option maxRecDepth 100000 in
set_option maxHeartbeats 4000000 in
theorem bounds_core (n : Nat) (a : Option Addr) (len cap : Nat) (ac : List Act3) (v u : Int) (w : World) (hn : n ≤ 200) (hl : len ≤ 100) (hA : IsActs w a len ac) :
    Calls Try.prog 5 #[.int .i64 n, .slice a len cap, .int .i64 v, .int .i64 u] w fun e w' => e = .returned (.bool true) ∧ Below w.heap.size w w' := by
  have HA := Lib.hid hA
  have d1 : decide ((200 : Int) < n) = false := by simp; omega
  have d2 : decide (100 < len) = false := by simp; omega
  have d2' : decide ((100 : Int) < len) = false := by simp; omega
  clear hA
  go_enter Try.func5, Try.ntmps5
  go_wp2_with (go_at_call 9; refine (shown_any _).mono ?_; rintro e w1 ⟨rfl, hb⟩; have B1 := Lib.hid hb; clear hb)
  have HA1 := Lib.hid (HA.out.below B1.out (Nat.le_refl _))
  have WS : Hid (w.heap.size ≤ w1.heap.size) := Lib.hid B1.out.size
  clear HA
  refine (New_ok n w1 (by omega) (fun k => k < w1.heap.size) (fun k h => h)).mono ?_
  rintro e w2 ⟨b, rfl, k2, _, r2⟩
  have K2 := Lib.hid k2
  have R2 := Lib.hid r2
  clear k2 r2
  go_wp2_with fail
  clear d1 d2 d2'
  go_loopw [12] (fun vi wr => ∃ (k : Nat) (A : List Int) (sc : Int), vi = .int .i64 k ∧ k ≤ len ∧ sc ≤ k ∧ Hid (Keep (fun k => k < w1.heap.size) w1 wr) ∧ Hid (RankAt wr (fun k => k < w1.heap.size) b n A allI sc)) (fun vi _ => len - (intOf vi).toNat)
  case atStart => exact ⟨0, _, 0, rfl, Nat.zero_le _, Int.le_refl _, K2, R2⟩
  case round =>
    obtain ⟨k, A, sc, rfl, hk, hsc, hK, hR⟩ := hrel
    clear K2 R2
    by_cases hlt : k < len
    · obtain ⟨ab, off, rfl, hab, hcell⟩ := HA1.out.2.1.resolve_left (by omega)
      obtain ⟨_, cv, cy⟩ := hcell k hlt
      have HAB := Lib.hid hab
      have hcl := hR.out.len
      have OFv := Lib.hid (rOf hR.out v)
      have OFu := Lib.hid (rOf hR.out u)
      have SC := Lib.hid (rScaled hR.out)
      have kb : (actAt ac k).v ≠ v → (actAt ac k).v ≠ u → ofV n A v ≤ ofV n A u → ofV n (bA n A (actAt ac k).v (actAt ac k).by') v ≤ ofV n (bA n A (actAt ac k).v (actAt ac k).by') u := fun h1 h2 h => bA_keeps hcl (fun j => (hR.out.bd j).1) h h1 h2
      generalize (actAt ac k).v = x at *
      generalize (actAt ac k).by' = y at *
      have CV := Lib.hid cv
      have CY := Lib.hid cy
      have c1 := (hK.out.cell (p := ⟨ab, off + k * 3 + 1, none⟩) hab).trans cv
      have c2 := (hK.out.cell (p := ⟨ab, off + k * 3 + 2, none⟩) hab).trans cy
      have hT2 : ((x != v) = false) ∨ ((x != v) = true ∧ (x != u) = false) ∨ ((x != v) = true ∧ (x != u) = true ∧ decide (ofV n A v ≤ ofV n A u) = false) ∨ ((x != v) = true ∧ (x != u) = true ∧ decide (ofV n A v ≤ ofV n A u) = true ∧ decide (ofV n (bA n A x y) u < ofV n (bA n A x y) v) = false) := by
        by_cases h1 : x = v
        · left; simp [h1]
        · by_cases h2 : x = u
          · right; left; exact ⟨by simpa using h1, by simp [h2]⟩
          · by_cases h3 : ofV n A v ≤ ofV n A u
            · right; right; right
              have := kb h1 h2 h3
              exact ⟨by simpa using h1, by simpa using h2, by simpa using h3, by simp; omega⟩
            · right; right; left
              exact ⟨by simpa using h1, by simpa using h2, by simp; omega⟩
      have HT2 := Lib.hid hT2
      have hBC : (bC n x y = 1 ∧ bA n A x y = A ∧ bS n A x y sc = sc) ∨ bC n x y = 0 := by
        unfold bC bA bS
        cases okB n x y with
        | true => exact .inr rfl
        | false => exact .inl ⟨rfl, rfl, rfl⟩
      have HBC := Lib.hid hBC
      have HSB := Lib.hid (bS_bd n A x y sc)
      clear hcell hcl kb hT2 hBC cv cy hab
      go_wp2_with (first
        | (go_at_call 17; with_reducible refine Calls.mono OFv.out ?_; rintro e w3 ⟨rfl, rfl⟩)
        | (go_at_call 17; with_reducible refine Calls.mono OFu.out ?_; rintro e w3 ⟨rfl, rfl⟩)
        | (go_at_call 18; with_reducible refine Calls.mono SC.out ?_; rintro e w3 ⟨rfl, rfl⟩))
      go_still_tail 11, (by kernel_rfl)
      change wpList _ _ _ _ _ w3.drew
      have RD := Lib.hid (hR.out.below (Below.refl w3.heap.size w3).drew)
      have KD := Lib.hid hK.out.drew
      clear OFv OFu SC c1 c2 hK hR
      generalize w3.drew = w4 at *
      have BU := Lib.hid (Bump_all RD.out x y (by omega))
      have hw1 : IntKind.i64.wrap (sc + 1) = sc + 1 := by have := RD.out.hsc; simp [IntKind.wrap, IntKind.signed, IntKind.bits]; omega
      have q3 : decide (bS n A x y sc < sc) = false := by have := HSB.out; simp; omega
      have q4 : decide (sc + 1 < bS n A x y sc) = false := by have := HSB.out; simp; omega
      clear RD
      rcases HBC.out with ⟨e1, e2, e3⟩ | e1
      · rw [e1, e2, e3] at BU
        rw [e2] at HT2
        rw [e3] at HSB q3 q4
        clear e1 e2 e3 HBC
        rcases HT2.out with g1 | ⟨g1, g2⟩ | ⟨g1, g2, g3⟩ | ⟨g1, g2, g3, g4⟩
        all_goals
          go_wp2_with (first
            | (go_at_call 19; with_reducible refine Calls.mono BU.out ?_; rintro e w5 ⟨rfl, k5, r5⟩; have K5 := Lib.hid (KD.out.trans k5); have R5 := Lib.hid r5; clear k5 r5; have c5 := (K5.out.cell (p := ⟨ab, off + k * 3 + 1, none⟩) HAB.out).trans CV.out; have q0 := ofV_bd R5.out v; have q1 : decide (ofV n A v < 0) = false := (by simp; omega); have q2 : decide (1125899906842624 < ofV n A v) = false := (by simp; omega); clear q0)
            | (go_at_call 17; with_reducible refine Calls.mono (rOf R5.out v) ?_; rintro e w6 ⟨rfl, rfl⟩)
            | (go_at_call 17; with_reducible refine Calls.mono (rOf R5.out u) ?_; rintro e w6 ⟨rfl, rfl⟩)
            | (go_at_call 18; with_reducible refine Calls.mono (rScaled R5.out) ?_; rintro e w6 ⟨rfl, rfl⟩))
          go_roundw
          case rel => exact ⟨k + 1, A, sc, by go_num, by omega, by have := HSB.out; omega, K5, R5⟩
          case measure => simp [intOf]; omega
      · rw [e1] at BU
        clear e1 HBC
        generalize bA n A x y = A' at *
        generalize bS n A x y sc = sc' at *
        rcases HT2.out with g1 | ⟨g1, g2⟩ | ⟨g1, g2, g3⟩ | ⟨g1, g2, g3, g4⟩
        all_goals
          go_wp2_with (first
            | (go_at_call 19; with_reducible refine Calls.mono BU.out ?_; rintro e w5 ⟨rfl, k5, r5⟩; have K5 := Lib.hid (KD.out.trans k5); have R5 := Lib.hid r5; clear k5 r5; have c5 := (K5.out.cell (p := ⟨ab, off + k * 3 + 1, none⟩) HAB.out).trans CV.out; have q0 := ofV_bd R5.out v; have q1 : decide (ofV n A' v < 0) = false := (by simp; omega); have q2 : decide (1125899906842624 < ofV n A' v) = false := (by simp; omega); clear q0)
            | (go_at_call 17; with_reducible refine Calls.mono (rOf R5.out v) ?_; rintro e w6 ⟨rfl, rfl⟩)
            | (go_at_call 17; with_reducible refine Calls.mono (rOf R5.out u) ?_; rintro e w6 ⟨rfl, rfl⟩)
            | (go_at_call 18; with_reducible refine Calls.mono (rScaled R5.out) ?_; rintro e w6 ⟨rfl, rfl⟩))
          go_roundw
          case rel => exact ⟨k + 1, A', sc', by go_num, by omega, by have := HSB.out; omega, K5, R5⟩
          case measure => simp [intOf]; omega
    · have hnl : decide ((k : Int) < len) = false := by simp; omega
      have HF := Lib.hid (B1.out.trans ((hK.out.toBelow (n := w1.heap.size) (fun k h => h)).mono WS.out))
      clear hK hR HA1
      go_wp2_with fail
      go_ret
      exact ⟨rfl, HF.out⟩

set_option maxRecDepth 100000 in
set_option maxHeartbeats 1000000 in
theorem bounds_walk (n : Int) (a : Option Addr) (len cap : Nat) (ac : List Act3) (v u : Int) (w : World) (_ : In64 n) (hA : IsActs w a len ac) (_ : len ≤ maxLen) (_ : In64 v) (_ : In64 u) :
    Calls Try.prog 5 #[.int .i64 n, .slice a len cap, .int .i64 v, .int .i64 u] w fun e w' => e = .returned (.bool true) ∧ Below w.heap.size w w' := by
  by_cases h1 : 200 < n
  · have d1 : decide (200 < n) = true := by simpa using h1
    clear hA h1
    go_enter Try.func5, Try.ntmps5
    go_wp2_with (go_at_call 9; refine (shown_any _).mono ?_; rintro e w1 ⟨rfl, hb⟩; have B1 := Lib.hid hb; clear hb)
    go_ret
    exact ⟨rfl, B1.out⟩
  · have d1 : decide (200 < n) = false := by simpa using h1
    by_cases h2 : 100 < len
    · have d2 : decide (100 < len) = true := by simpa using h2
      have d2' : decide ((100 : Int) < len) = true := by simp; omega
      clear hA h1 h2
      go_enter Try.func5, Try.ntmps5
      go_wp2_with (go_at_call 9; refine (shown_any _).mono ?_; rintro e w1 ⟨rfl, hb⟩; have B1 := Lib.hid hb; clear hb)
      go_ret
      exact ⟨rfl, B1.out⟩
    · by_cases h0 : n < 0
      · have d2 : decide (100 < len) = false := by simpa using h2
        have d2' : decide ((100 : Int) < len) = false := by simp; omega
        have NN := Lib.hid (fun w => New_no n w (.inl h0))
        clear hA h1 h2 h0
        go_enter Try.func5, Try.ntmps5
        go_wp2_with (first
          | (go_at_call 9; refine (shown_any _).mono ?_; rintro e w1 ⟨rfl, hb⟩; have B1 := Lib.hid hb; clear hb)
          | (go_at_call 16; refine (NN.out _).mono ?_; rintro e w2 ⟨rfl, rfl⟩))
        go_ret
        exact ⟨rfl, B1.out⟩
      · obtain ⟨m, rfl⟩ := Int.eq_ofNat_of_zero_le (show 0 ≤ n by omega)
        exact bounds_core m a len cap ac v u w (by omega) (by omega) hA
end Go.Proofs.Ytbihcdjamdkinaa
