/-
  pick; RankTakes: the walk.
-/
import Derived.Test.YtbihcdjamdkinaaRb
import Derived.StillTailTactics
namespace Go.Proofs.Ytbihcdjamdkinaa
open Go.RowKit Go.Lib
attribute [local go_sem ↓] Go.wp_at_zero Go.wp_at_succ

/-- Which of seven a raw number speaks of. -/
def pk7 (c : Int) : Int := (if c < 0 then -(c + 1) else c) % 7
theorem pk7_bd (c : Int) : 0 ≤ pk7 c ∧ pk7 c < 7 := by unfold pk7; split <;> omega

theorem pick_any (c : Int) (hc : In64 c) (w : World) : Calls Try.prog 29 #[.int .i64 c, .int .i64 7] w fun e w' => e = .returned (.int .i64 (pk7 c)) ∧ w' = w := by
  obtain ⟨l1, l2⟩ := hc
  by_cases h : c < 0
  · have e : pk7 c = (-(c + 1)) % 7 := by unfold pk7; rw [if_pos h]
    rw [e]
    have d1 : decide (c < 0) = true := by simpa using h
    have e1 : IntKind.i64.wrap (c + 1) = c + 1 := by simp [IntKind.wrap, IntKind.signed, IntKind.bits]; omega
    have e2 : IntKind.i64.wrap (-(c + 1)) = -(c + 1) := by simp [IntKind.wrap, IntKind.signed, IntKind.bits]; omega
    have e3 : 0 ≤ -(c + 1) := by omega
    have e4 : (-(c + 1)).tmod 7 = (-(c + 1)) % 7 := Int.tmod_eq_emod_of_nonneg e3
    go_enter Try.func29, Try.ntmps29
    go_wp2_with fail
    go_ret
    exact ⟨by first | rfl | rw [e4], rfl⟩
  · have e : pk7 c = c % 7 := by unfold pk7; rw [if_neg h]
    rw [e]
    have d1 : decide (c < 0) = false := by simpa using h
    have e3 : 0 ≤ c := by omega
    go_enter Try.func29, Try.ntmps29
    go_wp2_with fail
    go_ret
    exact ⟨rfl, rfl⟩

theorem top_next {n : Nat} {A : List Int} {I : Nat → Bool} (h : topF A I n ≠ 0) : Best n A I (topF A I n) := by
  rcases topF_best A I n with ⟨e, _⟩ | ⟨_, hb⟩
  · exact absurd e h
  · exact hb
theorem top_pos {n : Nat} {A : List Int} {I : Nat → Bool} (h : cnt I n ≠ 0) : topF A I n ≠ 0 := by
  rcases topF_best A I n with ⟨_, hno⟩ | ⟨e, _⟩
  · intro _
    have : ∀ m, m ≤ n → cnt I m = 0 := fun m => by
      induction m with
      | zero => intro _; rfl
      | succ m ih =>
        intro hm
        unfold cnt
        rw [ih (by omega), hno (m + 1) (by omega) hm]
        rfl
    exact h (this n (Nat.le_refl _))
  · exact e
theorem top_zero {n : Nat} {A : List Int} {I : Nat → Bool} (h : cnt I n = 0) : topF A I n = 0 := by
  rcases topF_best A I n with ⟨e, _⟩ | ⟨e, hb⟩
  · exact e
  · have := cnt_zero h _ hb.lo hb.hi
    rw [hb.is] at this; cases this
theorem cnt_take {n : Nat} {A : List Int} {I : Nat → Bool} (h : topF A I n ≠ 0) : cnt (tI n A I) n + 1 = cnt I n := by
  have hb := top_next h
  have := cnt_upd I (topF A I n) false n hb.lo hb.hi
  rw [hb.is] at this
  unfold tI
  rw [if_neg h]
  simpa using this

/-- What was taken last is ahead of all that are in, and is in no more. -/
def Last (n : Nat) (A : List Int) (I : Nat → Bool) (l : Nat) : Prop := l = 0 ∨ (1 ≤ l ∧ l ≤ n ∧ I l = false ∧ ∀ u, 1 ≤ u → u ≤ n → I u = true → ahd A u l = false)
theorem Last.next {n : Nat} {A : List Int} {I : Nat → Bool} (h : topF A I n ≠ 0) : Last n A (tI n A I) (topF A I n) := by
  have hb := top_next h
  unfold tI
  rw [if_neg h]
  refine .inr ⟨hb.lo, hb.hi, upd_same _ _ _, fun u a c hu => ?_⟩
  by_cases e : u = topF A I n
  · rw [e, upd_same] at hu; cases hu
  · rw [upd_ne e] at hu; exact hb.le u a c hu
theorem Last.test {n : Nat} {A : List Int} {I : Nat → Bool} {l : Nat} (hl : Last n A I l) (h : topF A I n ≠ 0) (h0 : l ≠ 0) :
    ofV n A (topF A I n : Nat) < ofV n A (l : Nat) ∨ (ofV n A (topF A I n : Nat) = ofV n A (l : Nat) ∧ l < topF A I n) := by
  have hb := top_next h
  rcases hl with hl | ⟨l1, l2, l3, l4⟩
  · exact absurd hl h0
  · have := l4 _ hb.lo hb.hi hb.is
    have e : topF A I n ≠ l := fun e => by have h3 := hb.is; rw [e, l3] at h3; cases h3
    have hl1 := hb.lo
    have hl2 := hb.hi
    rw [ahd_no] at this
    unfold ofV
    rw [if_pos (by omega), if_pos (by omega), Int.toNat_natCast, Int.toNat_natCast]
    omega

set_option maxRecDepth 100000 in
set_option maxHeartbeats 4000000 in
theorem takes_core (n : Nat) (a : Option Addr) (len cap : Nat) (ac : List Act3) (w : World) (hn : n ≤ 200) (hl : len ≤ 100) (hA : IsActs w a len ac) :
    Calls Try.prog 8 #[.int .i64 n, .slice a len cap] w fun e w' => e = .returned (.bool true) ∧ Below w.heap.size w w' := by
  have HA := Lib.hid hA
  have d1 : decide ((200 : Int) < n) = false := by simp; omega
  have d2 : decide (100 < len) = false := by simp; omega
  have d2' : decide ((100 : Int) < len) = false := by simp; omega
  clear hA
  go_enter Try.func8, Try.ntmps8
  go_wp2_with (go_at_call 9; refine (shown_any _).mono ?_; rintro e w1 ⟨rfl, hb⟩; have B1 := Lib.hid hb; clear hb)
  have HA1 := Lib.hid (HA.out.below B1.out (Nat.le_refl _))
  have WS : Hid (w.heap.size ≤ w1.heap.size) := Lib.hid B1.out.size
  clear HA
  refine (New_ok n w1 (by omega) (fun k => k < w1.heap.size) (fun k h => h)).mono ?_
  rintro e w2 ⟨b, rfl, k2, _, r2⟩
  have K2 := Lib.hid k2
  have R2 := Lib.hid r2
  clear k2 r2
  go_wp2_with fail
  clear d1 d2 d2'
  go_loopw [8] (fun vi wr => ∃ (k : Nat) (A : List Int) (I : Nat → Bool) (sc : Int), vi = .int .i64 k ∧ k ≤ len ∧ sc ≤ k ∧ Hid (Keep (fun k => k < w1.heap.size) w1 wr) ∧ Hid (RankAt wr (fun k => k < w1.heap.size) b n A I sc)) (fun vi _ => len - (intOf vi).toNat)
  case atStart => exact ⟨0, _, _, 0, rfl, Nat.zero_le _, Int.le_refl _, K2, R2⟩
  case round =>
    obtain ⟨k, A, I, sc, rfl, hk, hsc, hK, hR⟩ := hrel
    clear K2 R2
    by_cases hlt : k < len
    · obtain ⟨ab, off, rfl, hab, hcell⟩ := HA1.out.2.1.resolve_left (by omega)
      obtain ⟨co, cv, cy⟩ := hcell k hlt
      have hok := HA1.out.2.2 k hlt
      have PK := Lib.hid (pick_any (actAt ac k).op hok.1)
      have hpk := pk7_bd (actAt ac k).op
      have c0 := (hK.out.cell (p := ⟨ab, off + k * 3, none⟩) hab).trans co
      have c1 := (hK.out.cell (p := ⟨ab, off + k * 3 + 1, none⟩) hab).trans cv
      have c2 := (hK.out.cell (p := ⟨ab, off + k * 3 + 2, none⟩) hab).trans cy
      generalize (actAt ac k).op = o at *
      generalize (actAt ac k).v = x at *
      generalize (actAt ac k).by' = y at *
      generalize pk7 o = q at *
      clear hcell hok co cv cy hab
      have hq : q = 4 ∨ q = 5 ∨ q = 6 ∨ ((q == 4) = false ∧ (q == 5) = false ∧ (q == 6) = false) := by
        by_cases h4 : q = 4
        · exact .inl h4
        · by_cases h5 : q = 5
          · exact .inr (.inl h5)
          · by_cases h6 : q = 6
            · exact .inr (.inr (.inl h6))
            · exact .inr (.inr (.inr ⟨by simpa using h4, by simpa using h5, by simpa using h6⟩))
      clear hpk
      rcases hq with rfl | rfl | rfl | ⟨q4, q5, q6⟩
      · go_wp2_with (first
          | (go_at_call 29; refine (PK.out _).mono ?_; rintro e w3 ⟨rfl, rfl⟩)
          | (go_at_call 20; refine (Take_all hR.out).mono ?_; rintro e w3 ⟨rfl, k3, r3⟩; have K3 := Lib.hid (hK.out.trans k3); have R3 := Lib.hid r3; clear k3 r3))
        go_roundw
        case rel => exact ⟨k + 1, _, _, sc, by go_num, by omega, by omega, K3, R3⟩
        case measure => simp [intOf]; omega
      · go_wp2_with (first
          | (go_at_call 29; refine (PK.out _).mono ?_; rintro e w3 ⟨rfl, rfl⟩)
          | (go_at_call 20; refine (Take_all hR.out).mono ?_; rintro e w3 ⟨rfl, k3, r3⟩; have K3 := Lib.hid (hK.out.trans k3); have R3 := Lib.hid r3; clear k3 r3))
        go_roundw
        case rel => exact ⟨k + 1, _, _, sc, by go_num, by omega, by omega, K3, R3⟩
        case measure => simp [intOf]; omega
      · go_wp2_with (first
          | (go_at_call 29; refine (PK.out _).mono ?_; rintro e w3 ⟨rfl, rfl⟩)
          | (go_at_call 21; refine (Put_all hR.out x).mono ?_; rintro e w3 ⟨rfl, k3, r3⟩; have K3 := Lib.hid (hK.out.trans k3); have R3 := Lib.hid r3; clear k3 r3))
        go_roundw
        case rel => exact ⟨k + 1, _, _, sc, by go_num, by omega, by omega, K3, R3⟩
        case measure => simp [intOf]; omega
      · go_wp2_with (go_at_call 29; refine (PK.out _).mono ?_; rintro e w3 ⟨rfl, rfl⟩)
        go_still_tail 11, (by kernel_rfl)
        change wpList _ _ _ _ _ w3.drew
        have RD := Lib.hid (hR.out.below (Below.refl w3.heap.size w3).drew)
        have KD := Lib.hid hK.out.drew
        clear c0 c1 c2 hK hR
        generalize w3.drew = w4 at *
        have hsb := bS_bd n A x y sc
        have BU := Lib.hid (Bump_all RD.out x y (by omega))
        go_wp2_with (go_at_call 19; with_reducible refine Calls.mono BU.out ?_; rintro e w5 ⟨rfl, k5, r5⟩; have K5 := Lib.hid (KD.out.trans k5); have R5 := Lib.hid r5; clear k5 r5)
        go_roundw
        case rel => exact ⟨k + 1, _, _, _, by go_num, by omega, by omega, K5, R5⟩
        case measure => simp [intOf]; omega
    · have hnl : decide ((k : Int) < len) = false := by simp; omega
      have LN := Lib.hid (rLen hR.out)
      have hcn := cnt_le I n
      have hm' : ∃ m, cnt I n = m := ⟨_, rfl⟩
      obtain ⟨m, hm⟩ := hm'
      rw [hm] at LN hcn
      have HM : Hid (0 + cnt I n = m) := Lib.hid (by omega)
      clear HA1 hm
      go_wp2_with (go_at_call 22; refine LN.out.mono ?_; rintro e w3 ⟨rfl, rfl⟩)
      clear LN hnl hlt
      go_loopw [10, 11] (fun vl vi wr => ∃ (j l : Nat) (J : Nat → Bool), vl = .int .i64 l ∧ vi = .int .i64 j ∧ j ≤ m ∧ l ≤ n ∧ Hid (j + cnt J n = m) ∧ Hid (Last n A J l) ∧ Hid (Keep (fun k => k < w1.heap.size) w1 wr) ∧ Hid (RankAt wr (fun k => k < w1.heap.size) b n A J sc)) (fun _ vi _ => m - (intOf vi).toNat)
      case atStart => exact ⟨0, 0, I, rfl, rfl, Nat.zero_le _, Nat.zero_le _, HM, Lib.hid (.inl rfl), hK, hR⟩
      case round =>
        obtain ⟨j, l, J, rfl, rfl, hj, hln, hJ, hL, hK2, hR2⟩ := hrel
        clear HM hK hR
        by_cases hlt : j < m
        · have htop : topF A J n ≠ 0 := top_pos (by have := hJ.out; omega)
          have hb := top_next htop
          have hcs := cnt_take htop
          have TA := Lib.hid (Take_all hR2.out)
          rw [show tOk n A J = true from decide_eq_true htop] at TA
          have hhas : hasV n (tI n A J) (topF A J n : Nat) = false := by
            unfold hasV tI
            rw [if_neg htop, Int.toNat_natCast, upd_same, Bool.and_false]
          have hnx : Hid (Last n A (tI n A J) (topF A J n)) := Last.next htop
          have hJ' : Hid (j + 1 + cnt (tI n A J) n = m) := Lib.hid (by have := hJ.out; omega)
          have t1 := hb.lo
          have t2 := hb.hi
          have hT2 : l = 0 ∨ (decide (0 < l) = true ∧ decide (ofV n A (l : Nat) < ofV n A (topF A J n : Nat)) = false ∧ (ofV n A (topF A J n : Nat) == ofV n A (l : Nat)) = false) ∨
              (decide (0 < l) = true ∧ decide (ofV n A (l : Nat) < ofV n A (topF A J n : Nat)) = false ∧ (ofV n A (topF A J n : Nat) == ofV n A (l : Nat)) = true ∧ decide (topF A J n ≤ l) = false) := by
            by_cases h0 : l = 0
            · exact .inl h0
            · rcases hL.out.test htop h0 with h | ⟨h, h'⟩
              · exact .inr (.inl ⟨by simp; omega, by simp; omega, by simp; omega⟩)
              · exact .inr (.inr ⟨by simp; omega, by simp; omega, by simpa using h, by simp; omega⟩)
          have HT2 := Lib.hid hT2
          have hcnt : ((cnt (tI n A J) n : Nat) : Int) = (m : Int) - 1 - j := by have := hJ'.out; omega
          have HCN := Lib.hid hcnt
          generalize topF A J n = t at *
          generalize tI n A J = J2 at *
          clear htop hb hcs hT2 hcnt hL hJ
          have v1 : decide ((t : Int) < 1) = false := by simp; omega
          have v2 : decide (n < t) = false := by simp; omega
          have v2' : decide ((n : Int) < t) = false := by simp; omega
          have e1 : IntKind.i64.wrap ((m : Int) - 1) = (m : Int) - 1 := by simp [IntKind.wrap, IntKind.signed, IntKind.bits]; omega
          have e2 : IntKind.i64.wrap ((m : Int) - 1 - j) = (m : Int) - 1 - j := by simp [IntKind.wrap, IntKind.signed, IntKind.bits]; omega
          have e3 : ((m : Int) - 1 - j != (m : Int) - 1 - j) = false := by simp
          rcases HT2.out with rfl | ⟨g1, g2, g3⟩ | ⟨g1, g2, g3, g4⟩
          all_goals
            clear HT2
            go_wp2_with (first
              | (go_at_call 20; refine TA.out.mono ?_; rintro e w4 ⟨rfl, k4, r4⟩; have K4 := Lib.hid (hK2.out.trans k4); have R4 := Lib.hid r4; clear k4 r4; have HS := Lib.hid (rHas R4.out t); rw [hhas] at HS; have LN := Lib.hid (rLen R4.out); rw [HCN.out] at LN)
              | (go_at_call 27; refine HS.out.mono ?_; rintro e w5 ⟨rfl, rfl⟩)
              | (go_at_call 22; refine LN.out.mono ?_; rintro e w5 ⟨rfl, rfl⟩)
              | (go_at_call 17; refine (rOf R4.out _).mono ?_; rintro e w6 ⟨rfl, rfl⟩))
            go_roundw
            case rel => exact ⟨j + 1, t, J2, rfl, by go_num, by omega, t2, hJ', hnx, K4, R4⟩
            case measure => simp [intOf]; omega
        · have htop : topF A J n = 0 := top_zero (by have := hJ.out; omega)
          have TA := Lib.hid (Take_all hR2.out)
          rw [show tOk n A J = false from decide_eq_false (by simp [htop])] at TA
          have hnl : decide (j < m) = false := by simpa using hlt
          clear htop
          have HF := Lib.hid (fun w' (hk : Keep (fun k => k < w1.heap.size) w1 w') => B1.out.trans ((hk.toBelow (n := w1.heap.size) (fun k h => h)).mono WS.out))
          go_wp2_with (go_at_call 20; refine TA.out.mono ?_; rintro e w4 ⟨rfl, k4, r4⟩; have K4 := Lib.hid (hK2.out.trans k4); clear k4 r4)
          go_ret
          exact ⟨rfl, HF.out _ K4.out⟩

set_option maxRecDepth 100000 in
set_option maxHeartbeats 1000000 in
theorem takes_walk (n : Int) (a : Option Addr) (len cap : Nat) (ac : List Act3) (w : World) (_ : In64 n) (hA : IsActs w a len ac) (_ : len ≤ maxLen) :
    Calls Try.prog 8 #[.int .i64 n, .slice a len cap] w fun e w' => e = .returned (.bool true) ∧ Below w.heap.size w w' := by
  by_cases h1 : 200 < n
  · have d1 : decide (200 < n) = true := by simpa using h1
    clear hA h1
    go_enter Try.func8, Try.ntmps8
    go_wp2_with (go_at_call 9; refine (shown_any _).mono ?_; rintro e w1 ⟨rfl, hb⟩; have B1 := Lib.hid hb; clear hb)
    go_ret
    exact ⟨rfl, B1.out⟩
  · have d1 : decide (200 < n) = false := by simpa using h1
    by_cases h2 : 100 < len
    · have d2 : decide (100 < len) = true := by simpa using h2
      have d2' : decide ((100 : Int) < len) = true := by simp; omega
      clear hA h1 h2
      go_enter Try.func8, Try.ntmps8
      go_wp2_with (go_at_call 9; refine (shown_any _).mono ?_; rintro e w1 ⟨rfl, hb⟩; have B1 := Lib.hid hb; clear hb)
      go_ret
      exact ⟨rfl, B1.out⟩
    · by_cases h0 : n < 0
      · have d2 : decide (100 < len) = false := by simpa using h2
        have d2' : decide ((100 : Int) < len) = false := by simp; omega
        have d3 : decide (n < 0) = true := by simpa using h0
        have NN := Lib.hid (fun w => New_no n w (.inl h0))
        clear hA h1 h2 h0
        go_enter Try.func8, Try.ntmps8
        go_wp2_with (first
          | (go_at_call 9; refine (shown_any _).mono ?_; rintro e w1 ⟨rfl, hb⟩; have B1 := Lib.hid hb; clear hb)
          | (go_at_call 16; refine (NN.out _).mono ?_; rintro e w2 ⟨rfl, rfl⟩))
        go_ret
        exact ⟨rfl, B1.out⟩
      · obtain ⟨m, rfl⟩ := Int.eq_ofNat_of_zero_le (show 0 ≤ n by omega)
        exact takes_core m a len cap ac w (by omega) (by omega) hA
end Go.Proofs.Ytbihcdjamdkinaa
