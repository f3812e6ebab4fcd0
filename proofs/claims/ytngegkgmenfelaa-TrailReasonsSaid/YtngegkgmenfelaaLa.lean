/-
  The walk of TrailBack.
-/
import Derived.Test.YtngegkgmenfelaaXf
namespace Go.Proofs.Ytngegkgmenfelaa
open Go.RowKit Go.Lib
attribute [local go_sem ↓] Go.wp_at_zero Go.wp_at_succ

theorem reads_old {W w : World} {s : Value} {xs : List Int} (h : Reads W s xs) (hb : Below W.heap.size W w) : Reads w s xs := h.below hb (Nat.le_refl _)
theorem readsL_old {W w : World} {s : Value} {L : List (List Int)} (h : ReadsL W s L) (hb : Below W.heap.size W w) : ReadsL w s L := h.below hb (Nat.le_refl _)
theorem smallB_yes {L : List (List Int)} (h : smallB L = true) : L.length ≤ 60 ∧ ∀ c ∈ L, c.length ≤ 20 := of_decide_eq_true h
theorem rightB_nat {n : Int} {L : List (List Int)} (h : rightB n L = true) : ∃ m : Nat, n = (m : Nat) := by
  unfold rightB at h
  simp only [Bool.and_eq_true, decide_eq_true_eq] at h
  exact ⟨n.toNat, by omega⟩

/-- New, for a statement: what it tells. -/
def NewPost (W w : World) (n : Int) (L : List (List Int)) (e : Ending) (w' : World) : Prop :=
  Below W.heap.size W w' ∧ ((rightB n L = false ∧ e = .returned (.tuple #[.pointer none, .int .i64 1])) ∨
    ∃ (m b : Nat) (T : Tr), n = (m : Nat) ∧ rightB n L = true ∧ e = .returned (.tuple #[.pointer (some ⟨b, 0, none⟩), .int .i64 0]) ∧ w.heap.size ≤ b ∧ TrailAt w' (Old W) b T ∧ Good m T ∧ SameL T L ∧ T.lits = [] ∧ T.starts = [])
theorem New_law {W w : World} {s : Value} {L : List (List Int)} (n : Int) (h : ReadsL W s L) (hx : In64L L) (hl : L.length ≤ 60) (hb : Below W.heap.size W w) :
    Calls Try.prog 10 #[.int .i64 n, s] w (NewPost W w n L) := by
  cases hr : rightB n L with
  | false =>
    refine (New_no n (readsL_old h hb) hx hr).mono ?_
    rintro e w' ⟨rfl, h2⟩
    exact ⟨hb.trans (h2.mono hb.size), .inl ⟨hr, rfl⟩⟩
  | true =>
    obtain ⟨m, rfl⟩ := rightB_nat hr
    refine (New_ok (B := Old W) m (readsL_old h hb) hx hr (old_there hb) (by omega) (fun w' hk => readsL_old h (old_keep hb hk))).mono ?_
    rintro e w' ⟨b, rfl, hk, hle, ht⟩
    obtain ⟨g1, g2, g3, g4⟩ := new_facts hr (by omega)
    exact ⟨old_keep hb hk, .inr ⟨m, b, _, rfl, hr, rfl, hle, ht, g1, g2, g3, g4⟩⟩

set_option maxRecDepth 1000000 in
set_option maxHeartbeats 8000000 in
theorem TrailBack_walk {W : World} (n : Int) (s u v : Value) (L : List (List Int)) (G H : List Int) (hn : In64 n) (hL : ReadsL W s L) (hLx : In64L L) (hG : Reads W u G) (hGx : ∀ x ∈ G, In64 x) (hH : Reads W v H) (hHx : ∀ x ∈ H, In64 x) :
    Calls Try.prog 3 #[.int .i64 n, s, u, v] W fun e W' => e = .returned (.bool true) ∧ Below W.heap.size W W' := by
  have HS := Lib.hid (shown_any W)
  have HL := Lib.hid hL
  have HLX := Lib.hid hLx
  have HG := Lib.hid hG
  have HGX := Lib.hid hGx
  have HH := Lib.hid hH
  have HHX := Lib.hid hHx
  obtain ⟨sa, sc, rfl⟩ := hL.form
  obtain ⟨ua, uc, rfl⟩ := hG.form
  obtain ⟨va, vc, rfl⟩ := hH.form
  obtain ⟨q, hq⟩ : ∃ q, L.length = q := ⟨_, rfl⟩
  obtain ⟨gq, hgq⟩ : ∃ q, G.length = q := ⟨_, rfl⟩
  obtain ⟨hq', hhq⟩ : ∃ q, H.length = q := ⟨_, rfl⟩
  have HQ := Lib.hid hq
  have HGQ := Lib.hid hgq
  have HHQ := Lib.hid hhq
  rw [hq] at HL ⊢
  rw [hgq] at HG ⊢
  rw [hhq] at HH ⊢
  clear hL hLx hG hGx hH hHx hq hgq hhq
  go_enter Try.func3, Try.ntmps3
  go_wp2_with fail
  go_at_call 8
  refine HS.out.mono ?_
  rintro e w1 ⟨rfl, b1⟩
  have HSM := Lib.hid (small_any (readsL_old HL.out b1))
  have B1 := Lib.hid b1
  clear b1 HS
  go_wp2_with fail
  go_at_call 9
  refine HSM.out.mono ?_
  rintro e w2 ⟨rfl, hw⟩
  obtain rfl := hw.symm
  clear HSM hw
  cases hsm : smallB L with
  | false =>
    go_wp2_with fail
    go_ret
    exact ⟨rfl, B1.out⟩
  | true =>
    obtain ⟨hl1, _⟩ := smallB_yes hsm
    rw [HQ.out] at hl1
    clear hsm
    by_cases hn1 : 100 < n
    · have hdn : decide (100 < n) = true := decide_eq_true hn1
      go_wp2_with fail
      go_ret
      exact ⟨rfl, B1.out⟩
    · have hdn : decide (100 < n) = false := decide_eq_false hn1
      by_cases hg1 : 40 < gq
      · have hd : decide ((40 : Int) < (gq : Int)) = true := decide_eq_true (by omega)
        go_wp2_with fail
        go_ret
        exact ⟨rfl, B1.out⟩
      · have hg2 : decide ((40 : Int) < (gq : Int)) = false := decide_eq_false (by omega)
        by_cases hh1 : 40 < hq'
        · have hd : decide ((40 : Int) < (hq' : Int)) = true := decide_eq_true (by omega)
          go_wp2_with fail
          go_ret
          exact ⟨rfl, B1.out⟩
        · have hh2 : decide ((40 : Int) < (hq' : Int)) = false := decide_eq_false (by omega)
          have HN := Lib.hid (New_law n HL.out HLX.out (by rw [HQ.out]; exact hl1) B1.out)
          go_wp2_with fail
          go_at_call 10
          refine HN.out.mono ?_
          rintro e w2 ⟨b2, hcase⟩
          rcases hcase with ⟨-, rfl⟩ | ⟨m, b, T0, rfl, -, rfl, -, t2, g0, l0, -, -⟩
          · have B2 := Lib.hid b2
            clear b2 HN
            go_wp2_with fail
            go_ret
            exact ⟨rfl, B2.out⟩
          · have B2 := Lib.hid b2
            have HR := Lib.hid (row_any t2 g0 (fun w' hk => reads_old HG.out (old_keep B2.out hk)) (by rw [HGQ.out]; omega) HGX.out)
            have HRF := Lib.hid (rowT_any g0 l0 G)
            clear b2 HN t2 g0 l0
            generalize rowT T0 G = R at *
            obtain ⟨on, T1⟩ := R
            go_wp2_with fail
            go_at_call 11
            refine HR.out.mono ?_
            rintro e w3 ⟨rfl, k3, t3⟩
            have B3 := Lib.hid (old_keep B2.out k3)
            clear HR k3
            cases on with
            | false =>
              go_wp2_with fail
              go_ret
              exact ⟨rfl, B3.out⟩
            | true =>
              have t3 : TrailAt w3 (Old W) b T1 := t3
              obtain ⟨g1, l1, c1⟩ := HRF.out
              have g1 : Good m T1 := g1
              have l1 : SameL T1 L := l1
              have c1 : Closed T1 := c1 rfl
              have HB := Lib.hid (back_law g1 l1 c1 H)
              have HG2 := Lib.hid (rowT_any g1 l1 H).1
              have G1 := Lib.hid g1
              have LV1 := Lib.hid (show T1.starts.length ≤ 20000 by have h1 := g1.startsLen; have h2 := g1.litsLen; have h3 := g1.ok.n2; omega)
              have LI1 := Lib.hid (show T1.lits.length ≤ 1000000 by have h2 := g1.litsLen; have h3 := g1.ok.n2; omega)
              have HLV := Lib.hid (Level_any t3)
              have HLI := Lib.hid (Lits_out t3 g1)
              have ST : Hid (Stays (Old W) w3 fun w2 => Below W.heap.size W w2) := Lib.hid fun w2 hk => old_keep B3.out hk
              clear g1 l1 c1 HRF t3 B3
              obtain ⟨lv, hlv⟩ : ∃ lv, T1.starts.length = lv := ⟨_, rfl⟩
              rw [hlv] at HLV HB LV1
              have ELV := Lib.hid hlv
              clear hlv
              go_wp2_with fail
              go_at_call 12
              refine HLV.out.mono ?_
              rintro e w9 ⟨rfl, hw⟩
              obtain rfl := hw.symm
              clear hw HLV
              go_wp2_with fail
              go_at_call 13
              refine HLI.out.mono ?_
              rintro e w4 ⟨v1, A1, rfl, hA1, t4, k4, r1⟩
              have R1 := Lib.hid r1
              have S1 := Lib.hid ((ST.out.step k4).grow hA1)
              have HR := Lib.hid (row_any t4 G1.out (fun w' hk => reads_old HH.out (S1.out w' hk)) (by rw [HHQ.out]; omega) HHX.out)
              clear HLI r1 hA1 t4 k4 ST
              go_wp2_with fail
              generalize rowT T1 H = R2 at HR HB HG2
              obtain ⟨on2, T2⟩ := R2
              go_at_call 11
              refine HR.out.mono ?_
              rintro e w5 ⟨rfl, k5, t5⟩
              have t5 : TrailAt w5 A1 b T2 := t5
              have G2 : Hid (Good m T2) := Lib.hid HG2.out
              have LI2 := Lib.hid (show T2.lits.length ≤ 1000000 by have h2 := G2.out.litsLen; have h3 := G2.out.ok.n2; omega)
              have HLI := Lib.hid (Lits_out t5 G2.out)
              have R1' := Lib.hid (R1.out.step k5)
              have S1' := Lib.hid (S1.out.step k5)
              clear HR k5 t5 HG2 R1 S1
              go_wp2_with fail
              go_at_call 13
              refine HLI.out.mono ?_
              rintro e w6 ⟨v2, A2, rfl, hA2, t6, k6, r2⟩
              have R2 := Lib.hid r2
              have R1 := Lib.hid ((R1'.out.step k6).grow hA2)
              have S1 := Lib.hid ((S1'.out.step k6).grow hA2)
              obtain ⟨h1, h2, h3, h4, h5, h6, h7, h8⟩ := HB.out
              have h1 : lv ≤ T2.starts.length := h1
              have HBK := Lib.hid (Back_A t6 G2.out lv h1)
              have h7 : on2 = (rowT (backA T2 lv) H).1 := h7
              have h8 : on2 = true → Sim T2 (rowT (backA T2 lv) H).2 := h8
              have h2 : Good m (backA T2 lv) := h2
              have h3 : (backA T2 lv).lits = T1.lits := h3
              have h4 : (backA T2 lv).starts.length = lv := (congrArg List.length h4).trans ELV.out
              have h5 : Closed (backA T2 lv) := h5
              have h6 : SameL (backA T2 lv) L := h6
              have HON := Lib.hid h7
              have HSIM := Lib.hid h8
              have G3 := Lib.hid h2
              have E3 := Lib.hid h3
              have LV3 := Lib.hid h4
              have HB3 : Hid _ := Lib.hid (back_law h2 h6 h5 H)
              have HR4 := Lib.hid (rowT_any h2 h6 H).1
              generalize backA T2 lv = T3 at *
              rw [h4] at HB3
              clear h1 h2 h3 h4 h5 h6 h7 h8 HB HLI r2 hA2 t6 k6 R1' S1'
              go_wp2_with fail
              go_at_call 14
              refine HBK.out.mono ?_
              rintro e w7 ⟨rfl, k7, t7⟩
              have HLI := Lib.hid (Lits_out t7 G3.out)
              have R1' := Lib.hid (R1.out.step k7)
              have R2' := Lib.hid (R2.out.step k7)
              have S1' := Lib.hid (S1.out.step k7)
              clear HBK k7 t7 R1 R2 S1
              go_wp2_with fail
              go_at_call 13
              refine HLI.out.mono ?_
              rintro e w8 ⟨v3, A3, rfl, hA3, t8, k8, r3⟩
              have R2 := Lib.hid ((R2'.out.step k8).grow hA3)
              have R1 := Lib.hid ((R1'.out.step k8).grow hA3)
              have S1 := Lib.hid ((S1'.out.step k8).grow hA3)
              have HSI := Lib.hid (sameInts_any r3.now R1.out.now (by rw [E3.out]; exact LI1.out) LI1.out)
              rw [E3.out, decide_eq_true rfl] at HSI
              have T8 := Lib.hid t8
              clear HLI r3 hA3 t8 k8 R1' R2' S1'
              go_wp2_with fail
              go_at_call 15
              refine HSI.out.mono ?_
              rintro e w9 ⟨rfl, b9⟩
              have k9 := (Keep.refl A3 w8).below b9 T8.out.there
              have T9 := Lib.hid (T8.out.below b9 (Nat.le_refl _))
              have R1' := Lib.hid (R1.out.step k9)
              have R2' := Lib.hid (R2.out.step k9)
              have S1' := Lib.hid (S1.out.step k9)
              have HLV := Lib.hid (Level_any T9.out)
              rw [LV3.out] at HLV
              clear HSI b9 k9 T8 R1 R2 S1
              go_wp2_with fail
              go_at_call 12
              refine HLV.out.mono ?_
              rintro e w10 ⟨rfl, hw⟩
              obtain rfl := hw.symm
              have HR := Lib.hid (row_any T9.out G3.out (fun w' hk => reads_old HH.out (S1'.out w' hk)) (by rw [HHQ.out]; omega) HHX.out)
              clear hw HLV T9
              go_wp2_with fail
              generalize rowT T3 H = R4 at *
              obtain ⟨on4, T4⟩ := R4
              go_at_call 11
              refine HR.out.mono ?_
              rintro e w11 ⟨rfl, k11, t11⟩
              have t11 : TrailAt w11 A3 b T4 := t11
              have G4 : Hid (Good m T4) := Lib.hid HR4.out
              have LI4 := Lib.hid (show T4.lits.length ≤ 1000000 by have h2 := G4.out.litsLen; have h3 := G4.out.ok.n2; omega)
              have HLI := Lib.hid (Lits_out t11 G4.out)
              have R1 := Lib.hid (R1'.out.step k11)
              have R2 := Lib.hid (R2'.out.step k11)
              have S1 := Lib.hid (S1'.out.step k11)
              clear HR k11 t11 HR4 R1' R2' S1'
              go_wp2_with fail
              go_at_call 13
              refine HLI.out.mono ?_
              rintro e w12 ⟨v4, A4, rfl, hA4, t12, k12, r4⟩
              have T12 := Lib.hid t12
              have R4 := Lib.hid r4
              have R1' := Lib.hid ((R1.out.step k12).grow hA4)
              have R2' := Lib.hid ((R2.out.step k12).grow hA4)
              have S1' := Lib.hid ((S1.out.step k12).grow hA4)
              obtain ⟨h1, h2, h3, -, -⟩ := HB3.out
              have h1 : lv ≤ T4.starts.length := h1
              have h2 : Good m (backA T4 lv) := h2
              have h3 : (backA T4 lv).lits = T1.lits := h3.trans E3.out
              have HBK := Lib.hid (Back_A t12 G4.out lv h1)
              have G5 := Lib.hid h2
              have E5 := Lib.hid h3
              have hon : on2 = on4 := HON.out
              subst hon
              clear h1 h2 h3 HB3 HLI r4 hA4 t12 k12 R1 R2 S1 HON
              generalize backA T4 lv = T5 at *
              cases on2 with
              | false =>
                clear HSIM
                go_wp2_with fail
                go_at_call 14
                refine HBK.out.mono ?_
                rintro e w13 ⟨rfl, k13, t13⟩
                have HLI := Lib.hid (Lits_out t13 G5.out)
                have R1 := Lib.hid (R1'.out.step k13)
                have S1 := Lib.hid (S1'.out.step k13)
                clear HBK k13 t13 R1' R2' S1'
                go_wp2_with fail
                go_at_call 13
                refine HLI.out.mono ?_
                rintro e w14 ⟨v5, A5, rfl, hA5, t14, k14, r5⟩
                have R1' := Lib.hid ((R1.out.step k14).grow hA5)
                have S1' := Lib.hid ((S1.out.step k14).grow hA5)
                have HSI := Lib.hid (sameInts_any r5.now R1'.out.now (by rw [E5.out]; exact LI1.out) LI1.out)
                rw [E5.out, decide_eq_true rfl] at HSI
                have T14 := Lib.hid t14
                clear HLI r5 hA5 t14 k14 R1 S1
                go_wp2_with fail
                go_at_call 15
                refine HSI.out.mono ?_
                rintro e w15 ⟨rfl, b15⟩
                have k15 := (Keep.refl A5 w14).below b15 T14.out.there
                have B15 := Lib.hid (S1'.out w15 k15)
                clear HSI k15 b15
                go_wp2_with fail
                go_ret
                exact ⟨rfl, B15.out⟩
              | true =>
                have hs : Sim T2 T4 := HSIM.out rfl
                have HK1 := Lib.hid (keeps_any R2'.out.now R4.out.now LI2.out LI4.out)
                have HK2 := Lib.hid (keeps_any R4.out.now R2'.out.now LI4.out LI2.out)
                rw [keepsB_sim hs] at HK1
                rw [keepsB_sim hs.symm] at HK2
                clear HSIM hs
                go_wp2_with fail
                go_at_call 16
                refine HK1.out.mono ?_
                rintro e w9 ⟨rfl, hw⟩
                obtain rfl := hw.symm
                clear hw HK1
                go_wp2_with fail
                go_at_call 16
                refine HK2.out.mono ?_
                rintro e w9 ⟨rfl, hw⟩
                obtain rfl := hw.symm
                clear hw HK2
                go_wp2_with fail
                go_at_call 14
                refine HBK.out.mono ?_
                rintro e w13 ⟨rfl, k13, t13⟩
                have HLI := Lib.hid (Lits_out t13 G5.out)
                have R1 := Lib.hid (R1'.out.step k13)
                have S1 := Lib.hid (S1'.out.step k13)
                clear HBK k13 t13 R1' R2' S1'
                go_wp2_with fail
                go_at_call 13
                refine HLI.out.mono ?_
                rintro e w14 ⟨v5, A5, rfl, hA5, t14, k14, r5⟩
                have R1' := Lib.hid ((R1.out.step k14).grow hA5)
                have S1' := Lib.hid ((S1.out.step k14).grow hA5)
                have HSI := Lib.hid (sameInts_any r5.now R1'.out.now (by rw [E5.out]; exact LI1.out) LI1.out)
                rw [E5.out, decide_eq_true rfl] at HSI
                have T14 := Lib.hid t14
                clear HLI r5 hA5 t14 k14 R1 S1
                go_wp2_with fail
                go_at_call 15
                refine HSI.out.mono ?_
                rintro e w15 ⟨rfl, b15⟩
                have k15 := (Keep.refl A5 w14).below b15 T14.out.there
                have B15 := Lib.hid (S1'.out w15 k15)
                clear HSI k15 b15
                go_wp2_with fail
                go_ret
                exact ⟨rfl, B15.out⟩
end Go.Proofs.Ytngegkgmenfelaa
