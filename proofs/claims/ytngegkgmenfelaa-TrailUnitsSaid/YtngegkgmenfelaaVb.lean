/-
  The document's answer of chapter 12: Value, last, set.
-/
import Derived.Test.YtngegkgmenfelaaVa
import Derived.Test.YtngegkgmenfelaaUe
namespace Go.Proofs.Ytngegkgmenfelaa
open Go.RowKit Go.Lib
attribute [local go_sem ↓] Go.wp_at_zero Go.wp_at_succ

theorem valC_one {A c : List Int} (h : Three A) {y : Int} (hy : y ∈ c) (hl : litA A y = 1) : valC A c = 1 := by
  have h1 := valC_three h c
  unfold valC at h1 ⊢
  have key : ∀ (c : List Int) (n : Int), y ∈ c → 1 ≤ c.foldl (fun n x => max n (litA A x)) n := by
    have mono : ∀ (c : List Int) (n : Int), n ≤ c.foldl (fun n x => max n (litA A x)) n := by
      intro c
      induction c with
      | nil => intro n; exact Int.le_refl _
      | cons z c ih => intro n; rw [List.foldl_cons]; have := ih (max n (litA A z)); omega
    intro c
    induction c with
    | nil => intro n h; cases h
    | cons z c ih =>
      intro n h
      rw [List.foldl_cons]
      rcases List.mem_cons.1 h with h | h
      · subst h
        have := mono c (max n (litA A y))
        omega
      · exact ih _ h
  have := key c (-1) hy
  omega

set_option maxRecDepth 100000 in
theorem ValueR_any {w : World} {s t : Value} {c A : List Int} (h : Reads w s c) (hA : Reads w t A) (h3 : Three A) (hl : A.length ≤ 20000) (hc : c.length ≤ 1000000) (hx : ∀ x ∈ c, In64 x) :
    Calls Try.prog 30 #[s, t] w fun e w' => e = .returned (.int .i64 (valC A c)) ∧ w' = w := by
  have H := Lib.hid h
  have HL : Hid (∀ x, In64 x → Calls Try.prog 48 #[.int .i64 x, t] w fun e w' => e = .returned (.int .i64 (litA A x)) ∧ w' = w) := Lib.hid fun x hx => LitR_any hA h3 hl x hx
  obtain ⟨a, cc, rfl⟩ := h.form
  obtain ⟨ta, tc, rfl⟩ := hA.form
  obtain ⟨q, hq⟩ : ∃ q, c.length = q := ⟨_, rfl⟩
  have HX := Lib.hid hx
  have H3 := Lib.hid h3
  obtain ⟨R, hR⟩ : ∃ R, valC A c = R := ⟨_, rfl⟩
  rw [hR]
  have HR := Lib.hid hR
  rw [hq] at hc H ⊢
  have HQ := Lib.hid hq
  generalize A.length = al at *
  clear h hA hx hq h3 hR
  go_enter Try.func30, Try.ntmps30
  go_wp2_with fail
  go_loop [4, 5, 6] (fun _ v5 v6 => ∃ (k : Nat) (b : Bool), k ≤ q ∧ v6 = .int .i64 k ∧ v5 = .bool b ∧ Hid (valC A (c.take k) = if b then 0 else -1)) (fun _ _ v6 => q - (intOf v6).toNat)
  case atStart => exact ⟨0, false, Nat.zero_le _, rfl, rfl, Lib.hid (by rw [List.take_zero]; rfl)⟩
  case round =>
    obtain ⟨k, b, hk, rfl, rfl, HG⟩ := hrel
    by_cases hlt : k < q
    · have hkc : k < c.length := by rw [HQ.out]; exact hlt
      obtain ⟨bb, off, c', e, _, hcc⟩ := H.out.resolve_left (fun h => by rw [h.2] at hkc; simp at hkc)
      injection e with e1 n1 n2
      subst e1
      clear n1 n2
      have ck := hcc k hkc
      have HM := Lib.hid (mem_getD (d := 0) hkc)
      have HLK := Lib.hid (HL.out _ (HX.out _ HM.out))
      have a2 := litA_three H3.out (c.getD k 0)
      have HN : Hid (valC A (c.take (k + 1)) = max (if b then 0 else -1) (litA A (c.getD k 0))) := Lib.hid (by rw [take_snoc hkc, valC_snoc, HG.out])
      have HV : Hid (litA A (c.getD k 0) = 1 → R = 1) := Lib.hid fun h => by rw [← HR.out]; exact valC_one H3.out HM.out h
      have hk1 : (k : Int) < (q : Int) := by omega
      have hk0 : (0 : Int) ≤ (k : Int) := by omega
      generalize litA A (c.getD k 0) = v at *
      generalize c.getD k 0 = y at *
      clear hcc hkc HG HM
      cases b with
      | false =>
        rcases a2 with rfl | rfl | rfl
        · as_aux_lemma =>
          go_wp2_with (go_at_call 48; refine HLK.out.mono ?_; rintro e w' ⟨rfl, hw⟩; obtain rfl := hw.symm)
          go_round
          case rel => exact ⟨k + 1, false, by omega, by go_num, rfl, Lib.hid (by rw [HN.out]; rfl)⟩
          case measure => simp [intOf]; omega
        · as_aux_lemma =>
          go_wp2_with (go_at_call 48; refine HLK.out.mono ?_; rintro e w' ⟨rfl, hw⟩; obtain rfl := hw.symm)
          go_round
          case rel => exact ⟨k + 1, true, by omega, by go_num, rfl, Lib.hid (by rw [HN.out]; rfl)⟩
          case measure => simp [intOf]; omega
        · have HV1 := Lib.hid (HV.out rfl)
          as_aux_lemma =>
          go_wp2_with (go_at_call 48; refine HLK.out.mono ?_; rintro e w' ⟨rfl, hw⟩; obtain rfl := hw.symm)
          go_ret
          exact ⟨by rw [HV1.out]; rfl, rfl⟩
      | true =>
        rcases a2 with rfl | rfl | rfl
        · as_aux_lemma =>
          go_wp2_with (go_at_call 48; refine HLK.out.mono ?_; rintro e w' ⟨rfl, hw⟩; obtain rfl := hw.symm)
          go_round
          case rel => exact ⟨k + 1, true, by omega, by go_num, rfl, Lib.hid (by rw [HN.out]; rfl)⟩
          case measure => simp [intOf]; omega
        · as_aux_lemma =>
          go_wp2_with (go_at_call 48; refine HLK.out.mono ?_; rintro e w' ⟨rfl, hw⟩; obtain rfl := hw.symm)
          go_round
          case rel => exact ⟨k + 1, true, by omega, by go_num, rfl, Lib.hid (by rw [HN.out]; rfl)⟩
          case measure => simp [intOf]; omega
        · have HV1 := Lib.hid (HV.out rfl)
          as_aux_lemma =>
          go_wp2_with (go_at_call 48; refine HLK.out.mono ?_; rintro e w' ⟨rfl, hw⟩; obtain rfl := hw.symm)
          go_ret
          exact ⟨by rw [HV1.out]; rfl, rfl⟩
    · obtain rfl : k = q := by omega
      have HN : Hid (R = if b then 0 else -1) := Lib.hid (by rw [← HR.out, ← HG.out, List.take_of_length_le (by rw [HQ.out]; exact Nat.le_refl _)])
      clear HG
      cases b with
      | false =>
        have HN1 : Hid (R = -1) := Lib.hid (by have := HN.out; simpa using this)
        as_aux_lemma =>
        go_wp2_with fail
        go_ret
        exact ⟨by rw [HN1.out]; rfl, rfl⟩
      | true =>
        have HN1 : Hid (R = 0) := Lib.hid (by have := HN.out; simpa using this)
        as_aux_lemma =>
        go_wp2_with fail
        go_ret
        exact ⟨by rw [HN1.out]; rfl, rfl⟩

set_option maxRecDepth 100000 in
theorem last_any {w : World} {s t : Value} {c A : List Int} (h : Reads w s c) (hA : Reads w t A) (h3 : Three A) (hl : A.length ≤ 20000) (hc : c.length ≤ 1000000) (hx : ∀ x ∈ c, In64 x) :
    Calls Try.prog 68 #[s, t] w fun e w' => e = .returned (.int .i64 (unitGo A c 0)) ∧ w' = w := by
  obtain ⟨R, hR⟩ : ∃ R, unitGo A c 0 = R := ⟨_, rfl⟩
  rw [hR]
  have H := Lib.hid h
  have HL : Hid (∀ x, In64 x → Calls Try.prog 48 #[.int .i64 x, t] w fun e w' => e = .returned (.int .i64 (litA A x)) ∧ w' = w) := Lib.hid fun x hx => LitR_any hA h3 hl x hx
  obtain ⟨a, cc, rfl⟩ := h.form
  obtain ⟨ta, tc, rfl⟩ := hA.form
  obtain ⟨q, hq⟩ : ∃ q, c.length = q := ⟨_, rfl⟩
  have HX := Lib.hid hx
  have H3 := Lib.hid h3
  rw [hq] at hc H ⊢
  have HQ := Lib.hid hq
  have HR := Lib.hid hR
  generalize A.length = al at *
  clear h hA hx hq h3 hR
  go_enter Try.func68, Try.ntmps68
  go_wp2_with fail
  go_loop [4, 5, 6] (fun _ v5 v11 => ∃ (k : Nat) (x : Int), k ≤ q ∧ v11 = .int .i64 k ∧ v5 = .int .i64 x ∧ Hid (unitGo A (c.drop k) x = R)) (fun _ _ v11 => q - (intOf v11).toNat)
  case atStart => exact ⟨0, 0, Nat.zero_le _, rfl, rfl, HR⟩
  case round =>
    obtain ⟨k, x, hk, rfl, rfl, HG⟩ := hrel
    by_cases hlt : k < q
    · have hkc : k < c.length := by rw [HQ.out]; exact hlt
      obtain ⟨b, off, c', e, _, hcc⟩ := H.out.resolve_left (fun h => by rw [h.2] at hkc; simp at hkc)
      injection e with e1 n1 n2
      subst e1
      clear n1 n2
      have ck := hcc k hkc
      have HLK := Lib.hid (HL.out _ (HX.out _ (mem_getD (d := 0) hkc)))
      have a2 := litA_three H3.out (c.getD k 0)
      have hg := HG.out
      rw [drop_cons hkc] at hg
      unfold unitGo at hg
      generalize litA A (c.getD k 0) = v at *
      generalize c.getD k 0 = y at *
      have HGO := Lib.hid hg
      have hk1 : (k : Int) < (q : Int) := by omega
      have hk0 : (0 : Int) ≤ (k : Int) := by omega
      clear hcc hkc hg HG
      rcases a2 with rfl | rfl | rfl
      · have HN : Hid (unitGo A (c.drop (k + 1)) x = R) := Lib.hid (by have := HGO.out; rw [if_neg (by omega), if_neg (by omega)] at this; exact this)
        as_aux_lemma =>
        go_wp2_with (go_at_call 48; refine HLK.out.mono ?_; rintro e w' ⟨rfl, hw⟩; obtain rfl := hw.symm)
        go_round
        case rel => exact ⟨k + 1, x, by omega, by go_num, rfl, HN⟩
        case measure => simp [intOf]; omega
      · by_cases hx0 : x = 0
        · subst hx0
          have HN : Hid (unitGo A (c.drop (k + 1)) y = R) := Lib.hid (by have := HGO.out; rw [if_neg (by simp), if_pos rfl] at this; exact this)
          as_aux_lemma =>
          go_wp2_with (go_at_call 48; refine HLK.out.mono ?_; rintro e w' ⟨rfl, hw⟩; obtain rfl := hw.symm)
          go_round
          case rel => exact ⟨k + 1, y, by omega, by go_num, rfl, HN⟩
          case measure => simp [intOf]; omega
        · have hb : (x != 0) = true := by simpa using hx0
          by_cases hxy : x = y
          · subst hxy
            have HN : Hid (unitGo A (c.drop (k + 1)) x = R) := Lib.hid (by have := HGO.out; rw [if_neg (by simp), if_pos rfl] at this; exact this)
            clear hx0
            as_aux_lemma =>
            go_wp2_with (go_at_call 48; refine HLK.out.mono ?_; rintro e w' ⟨rfl, hw⟩; obtain rfl := hw.symm)
            go_round
            case rel => exact ⟨k + 1, x, by omega, by go_num, rfl, HN⟩
            case measure => simp [intOf]; omega
          · have hb2 : (x != y) = true := by simpa using hxy
            have HN : Hid (0 = R) := Lib.hid (by have := HGO.out; rw [if_pos (.inr ⟨rfl, hx0, hxy⟩)] at this; exact this)
            clear hx0 hxy
            as_aux_lemma =>
            go_wp2_with (go_at_call 48; refine HLK.out.mono ?_; rintro e w' ⟨rfl, hw⟩; obtain rfl := hw.symm)
            go_ret
            exact ⟨by rw [← HN.out]; rfl, rfl⟩
      · have HN : Hid (0 = R) := Lib.hid (by have := HGO.out; rw [if_pos (.inl rfl)] at this; exact this)
        as_aux_lemma =>
        go_wp2_with (go_at_call 48; refine HLK.out.mono ?_; rintro e w' ⟨rfl, hw⟩; obtain rfl := hw.symm)
        go_ret
        exact ⟨by rw [← HN.out]; rfl, rfl⟩
    · obtain rfl : k = q := by omega
      have HN : Hid (x = R) := Lib.hid (by have := HG.out; rw [List.drop_of_length_le (by rw [HQ.out]; exact Nat.le_refl _)] at this; exact this)
      as_aux_lemma =>
      go_wp2_with fail
      go_ret
      exact ⟨by rw [← HN.out]; rfl, rfl⟩

set_option maxRecDepth 100000 in
theorem setR_no {w : World} {t : Value} {A : List Int} (h : Reads w t A) (h3 : Three A) (hl : A.length ≤ 20000) (x : Int) (hx : In64 x) (hn : okLit x A.length = false ∨ litA A x = -1) :
    Calls Try.prog 67 #[t, .int .i64 x] w fun e w' => e = .returned (.bool false) ∧ w' = w := by
  have HV := Lib.hid (Var_any x w hx)
  have HL := Lib.hid (LitR_any h h3 hl x hx)
  cases hok : okLit x A.length with
  | false =>
    have hv := varR_no hok
    obtain ⟨a, c, rfl⟩ := h.form
    generalize varR x = v at *
    generalize A.length = q at *
    clear h h3 hx hn hok HL
    by_cases h1 : v < 1
    · have hd : decide (v < 1) = true := decide_eq_true h1
      clear hv
      go_enter Try.func67, Try.ntmps67
      go_wp2_with (go_at_call 60; refine HV.out.mono ?_; rintro e w' ⟨rfl, hw⟩; obtain rfl := hw.symm)
      go_ret
      exact ⟨rfl, rfl⟩
    · have hd : decide (v < 1) = false := decide_eq_false h1
      have h2 : (q : Int) < v := hv.resolve_left h1
      clear hv
      go_enter Try.func67, Try.ntmps67
      go_wp2_with (go_at_call 60; refine HV.out.mono ?_; rintro e w' ⟨rfl, hw⟩; obtain rfl := hw.symm)
      go_ret
      exact ⟨rfl, rfl⟩
  | true =>
    have hlit : litA A x = -1 := hn.resolve_left (by rw [hok]; simp)
    rw [hlit] at HL
    have hok' : 1 ≤ x.natAbs ∧ x.natAbs ≤ A.length := of_decide_eq_true hok
    have hv := varR_ok hok (by omega)
    rw [hv] at HV
    obtain ⟨a, c, rfl⟩ := h.form
    generalize A.length = q at *
    obtain ⟨m, hm⟩ : ∃ m, x.natAbs = m + 1 := ⟨x.natAbs - 1, by omega⟩
    rw [hm, show ((m + 1 : Nat) : Int) = (m : Int) + 1 from by omega] at HV
    have hv1 : decide ((m : Int) + 1 < 1) = false := decide_eq_false (by omega)
    have hv2 : decide ((q : Int) < (m : Int) + 1) = false := decide_eq_false (by omega)
    clear h hx hn hv hok hlit hok' hm h3
    go_enter Try.func67, Try.ntmps67
    go_wp2_with (first | (go_at_call 60; refine HV.out.mono ?_; rintro e w' ⟨rfl, hw⟩; obtain rfl := hw.symm) | (go_at_call 48; refine HL.out.mono ?_; rintro e w' ⟨rfl, hw⟩; obtain rfl := hw.symm))
    go_ret
    exact ⟨rfl, rfl⟩

set_option maxRecDepth 100000 in
theorem setR_row {w : World} {t : Value} {A : List Int} (hr : Row w 3 1 t (ints A)) (h3 : Three A) (hl : A.length ≤ 20000) (x : Int) (hx : In64 x) (hok : okLit x A.length = true) (hlit : litA A x ≠ -1) :
    Calls Try.prog 67 #[t, .int .i64 x] w (SetPost w t A x) := by
  have h := hr.reads
  have HV := Lib.hid (Var_any x w hx)
  have HL := Lib.hid (LitR_any h h3 hl x hx)
  have hlt := litA_three h3 x
  have hok' : 1 ≤ x.natAbs ∧ x.natAbs ≤ A.length := of_decide_eq_true hok
  have hv := varR_ok hok (by omega)
  rw [hv] at HV
  obtain ⟨g, c, rfl, _, _, hg, hcc, hf⟩ := hr.at (by rw [ints_len]; omega)
  rw [ints_len] at *
  have HW1 := Lib.hid (hr.store (x.natAbs - 1) (.int .i64 1))
  have HW2 := Lib.hid (HW1.out.store (x.natAbs - 1) (.int .i64 (-1)))
  have HA1 : Hid (0 ≤ x → ints (setA A x) = (ints A).set (x.natAbs - 1) (.int .i64 1)) := Lib.hid fun h => by rw [intsA_set]; unfold setA sgn; rw [if_neg (by omega)]
  have HA2 : Hid (x < 0 → ints (setA A x) = ((ints A).set (x.natAbs - 1) (.int .i64 1)).set (x.natAbs - 1) (.int .i64 (-1))) := Lib.hid fun h => by rw [intsA_set, intsA_set, List.set_set]; unfold setA sgn; rw [if_pos h]
  have HB1 : Hid (∀ m, m ≤ g → Below m w (w.setCell ⟨g, x.natAbs - 1, none⟩ (.int .i64 1))) := Lib.hid fun m hm => (Below.refl m w).setCell hm _
  have HB2 : Hid (∀ m, m ≤ g → Below m w ((w.setCell ⟨g, x.natAbs - 1, none⟩ (.int .i64 1)).setCell ⟨g, x.natAbs - 1, none⟩ (.int .i64 (-1)))) := Lib.hid fun m hm => ((Below.refl m w).setCell hm _).setCell hm _
  obtain ⟨m, hm⟩ : ∃ m, x.natAbs = m + 1 := ⟨x.natAbs - 1, by omega⟩
  have cm := hcc m _ (ints_at (by omega))
  have fm := hf m
  have dm : (w.setCell ⟨g, m, none⟩ (.int .i64 1)).cell? ⟨g, m, none⟩ = some (.int .i64 1) := by
    have hW := HW1.out
    obtain ⟨g', c', e, _, _, _, hcc', _⟩ := hW.at (by simp [ints]; omega)
    injection e with e _ _
    injection e with e
    injection e with e _ _
    subst e
    have := hcc' m (.int .i64 1) (by rw [hm, Nat.add_sub_cancel, List.getElem?_set_self (by rw [ints_len]; omega)])
    rw [hm, Nat.add_sub_cancel] at this
    exact this
  have fdm : (w.setCell ⟨g, m, none⟩ (.int .i64 1)).frozen? ⟨g, m, none⟩ = false := by
    have hW := HW1.out
    obtain ⟨g', c', e, _, _, _, _, hf'⟩ := hW.at (by simp [ints]; omega)
    injection e with e _ _
    injection e with e
    injection e with e _ _
    subst e
    have := hf' m
    rw [hm, Nat.add_sub_cancel] at this
    exact this
  rw [hm, show ((m + 1 : Nat) : Int) = (m : Int) + 1 from by omega] at HV
  rw [hm, Nat.add_sub_cancel] at HW1 HW2 HA1 HA2 HB1 HB2
  obtain ⟨v, hv2⟩ : ∃ v, litA A x = v := ⟨_, rfl⟩
  rw [hv2] at HL hlit hlt
  have hv0 : decide (v < 0) = false := decide_eq_false (by omega)
  unfold SetPost
  generalize setA A x = A2 at *
  obtain ⟨q, hq⟩ : ∃ q, A.length = q := ⟨_, rfl⟩
  rw [hq] at HL hok' hl HW1 HW2 ⊢
  have hv1 : decide ((m : Int) + 1 < 1) = false := decide_eq_false (by omega)
  have hv2 : decide ((q : Int) < (m : Int) + 1) = false := decide_eq_false (by omega)
  have hmq : (m : Int) < (q : Int) := by omega
  have hm0 : (0 : Int) ≤ (m : Int) := by omega
  have hmb : m ≤ 20000 := by omega
  clear h h3 hx hok hlit hlt hv hq hcc hf hr hok' hm
  by_cases hneg : x < 0
  · have hd : decide (x < 0) = true := decide_eq_true hneg
    have HE := Lib.hid (HA2.out hneg)
    clear hneg HA1 HA2
    go_enter Try.func67, Try.ntmps67
    go_wp2_with (first | (go_at_call 60; refine HV.out.mono ?_; rintro e w' ⟨rfl, hw⟩; obtain rfl := hw.symm) | (go_at_call 48; refine HL.out.mono ?_; rintro e w' ⟨rfl, hw⟩; obtain rfl := hw.symm))
    go_ret
    exact ⟨rfl, by rw [HE.out]; exact HW2.out, fun k hk => HB2.out k (hk g rfl)⟩
  · have hd : decide (x < 0) = false := decide_eq_false hneg
    have HE := Lib.hid (HA1.out (by omega))
    clear hneg HA1 HA2
    go_enter Try.func67, Try.ntmps67
    go_wp2_with (first | (go_at_call 60; refine HV.out.mono ?_; rintro e w' ⟨rfl, hw⟩; obtain rfl := hw.symm) | (go_at_call 48; refine HL.out.mono ?_; rintro e w' ⟨rfl, hw⟩; obtain rfl := hw.symm))
    go_ret
    exact ⟨rfl, by rw [HE.out]; exact HW1.out, fun k hk => HB1.out k (hk g rfl)⟩
end Go.Proofs.Ytngegkgmenfelaa
