/-
  The document's answer of chapter 12: Value, last, set.
-/
import Derived.Test.YtngegkgmenfelaaVa
import Derived.Test.YtngegkgmenfelaaUe
namespace Go.Proofs.Ytngegkgmenfelaa
open Go.RowKit Go.Lib
attribute [local go_sem ↓] Go.wp_at_zero Go.wp_at_succ

theorem valC_one {A c : List Int} (h : Three A) {y : Int} (hy : y ∈ c) (hl : litA A y = 1) : valC A c = 1 := by
  have h1 := valC_three h c
  unfold valC at h1 ⊢
  have key : ∀ (c : List Int) (n : Int), y ∈ c → 1 ≤ c.foldl (fun n x => max n (litA A x)) n := by
    have mono : ∀ (c : List Int) (n : Int), n ≤ c.foldl (fun n x => max n (litA A x)) n := by
      intro c
      induction c with
      | nil => intro n; exact Int.le_refl _
      | cons z c ih => intro n; rw [List.foldl_cons]; have := ih (max n (litA A z)); omega
    intro c
    induction c with
    | nil => intro n h; cases h
    | cons z c ih =>
      intro n h
      rw [List.foldl_cons]
      rcases List.mem_cons.1 h with h | h
      · subst h
        have := mono c (max n (litA A y))
        omega
      · exact ih _ h
  have := key c (-1) hy
  omega

set_option maxRecDepth 100000 in
theorem ValueR_any {w : World} {s t : Value} {c A : List Int} (h : Reads w s c) (hA : Reads w t A) (h3 : Three A) (hl : A.length ≤ 20000) (hc : c.length ≤ 1000000) (hx : ∀ x ∈ c, In64 x) :
    Calls Try.prog 30 #[s, t] w fun e w' => e = .returned (.int .i64 (valC A c)) ∧ w' = w := by
  have H := Lib.hid h
  have HL : Hid (∀ x, In64 x → Calls Try.prog 48 #[.int .i64 x, t] w fun e w' => e = .returned (.int .i64 (litA A x)) ∧ w' = w) := Lib.hid fun x hx => LitR_any hA h3 hl x hx
  obtain ⟨a, cc, rfl⟩ := h.form
  obtain ⟨ta, tc, rfl⟩ := hA.form
  obtain ⟨q, hq⟩ : ∃ q, c.length = q := ⟨_, rfl⟩
  have HX := Lib.hid hx
  have H3 := Lib.hid h3
  obtain ⟨R, hR⟩ : ∃ R, valC A c = R := ⟨_, rfl⟩
  rw [hR]
  have HR := Lib.hid hR
  rw [hq] at hc H ⊢
  have HQ := Lib.hid hq
  generalize A.length = al at *
  clear h hA hx hq h3 hR
  go_enter Try.func30, Try.ntmps30
  go_wp2_with fail
  go_loop [4, 5, 6] (fun _ v5 v6 => ∃ (k : Nat) (b : Bool), k ≤ q ∧ v6 = .int .i64 k ∧ v5 = .bool b ∧ Hid (valC A (c.take k) = if b then 0 else -1)) (fun _ _ v6 => q - (intOf v6).toNat)
  case atStart => exact ⟨0, false, Nat.zero_le _, rfl, rfl, Lib.hid (by rw [List.take_zero]; rfl)⟩
  case round =>
    obtain ⟨k, b, hk, rfl, rfl, HG⟩ := hrel
    by_cases hlt : k < q
    · have hkc : k < c.length := by rw [HQ.out]; exact hlt
      obtain ⟨bb, off, c', e, _, hcc⟩ := H.out.resolve_left (fun h => by rw [h.2] at hkc; simp at hkc)
      injection e with e1 n1 n2
      subst e1
      clear n1 n2
      have ck := hcc k hkc
      have HM := Lib.hid (mem_getD (d := 0) hkc)
      have HLK := Lib.hid (HL.out _ (HX.out _ HM.out))
      have a2 := litA_three H3.out (c.getD k 0)
      have HN : Hid (valC A (c.take (k + 1)) = max (if b then 0 else -1) (litA A (c.getD k 0))) := Lib.hid (by rw [take_snoc hkc, valC_snoc, HG.out])
      have HV : Hid (litA A (c.getD k 0) = 1 → R = 1) := Lib.hid fun h => by rw [← HR.out]; exact valC_one H3.out HM.out h
      have hk1 : (k : Int) < (q : Int) := by omega
      have hk0 : (0 : Int) ≤ (k : Int) := by omega
      generalize litA A (c.getD k 0) = v at *
      generalize c.getD k 0 = y at *
      clear hcc hkc HG HM
      cases b with
      | false =>
        rcases a2 with rfl | rfl | rfl
        · as_aux_lemma =>
          go_wp2_with (go_at_call 48; refine HLK.out.mono ?_; rintro e w' ⟨rfl, hw⟩; obtain rfl := hw.symm)
          go_round
          case rel => exact ⟨k + 1, false, by omega, by go_num, rfl, Lib.hid (by rw [HN.out]; rfl)⟩
          case measure => simp [intOf]; omega
        · as_aux_lemma =>
          go_wp2_with (go_at_call 48; refine HLK.out.mono ?_; rintro e w' ⟨rfl, hw⟩; obtain rfl := hw.symm)
          go_round
          case rel => exact ⟨k + 1, true, by omega, by go_num, rfl, Lib.hid (by rw [HN.out]; rfl)⟩
          case measure => simp [intOf]; omega
        · have HV1 := Lib.hid (HV.out rfl)
          as_aux_lemma =>
          go_wp2_with (go_at_call 48; refine HLK.out.mono ?_; rintro e w' ⟨rfl, hw⟩; obtain rfl := hw.symm)
          go_ret
          exact ⟨by rw [HV1.out]; rfl, rfl⟩
      | true =>
        rcases a2 with rfl | rfl | rfl
        · as_aux_lemma =>
          go_wp2_with (go_at_call 48; refine HLK.out.mono ?_; rintro e w' ⟨rfl, hw⟩; obtain rfl := hw.symm)
          go_round
          case rel => exact ⟨k + 1, true, by omega, by go_num, rfl, Lib.hid (by rw [HN.out]; rfl)⟩
          case measure => simp [intOf]; omega
        · as_aux_lemma =>
          go_wp2_with (go_at_call 48; refine HLK.out.mono ?_; rintro e w' ⟨rfl, hw⟩; obtain rfl := hw.symm)
          go_round
          case rel => exact ⟨k + 1, true, by omega, by go_num, rfl, Lib.hid (by rw [HN.out]; rfl)⟩
          case measure => simp [intOf]; omega
        · have HV1 := Lib.hid (HV.out rfl)
          as_aux_lemma =>
          go_wp2_with (go_at_call 48; refine HLK.out.mono ?_; rintro e w' ⟨rfl, hw⟩; obtain rfl := hw.symm)
          go_ret
          exact ⟨by rw [HV1.out]; rfl, rfl⟩
    · obtain rfl : k = q := by omega
      have HN : Hid (R = if b then 0 else -1) := Lib.hid (by rw [← HR.out, ← HG.out, List.take_of_length_le (by rw [HQ.out]; exact Nat.le_refl _)])
      clear HG
      cases b with
      | false =>
        have HN1 : Hid (R = -1) := Lib.hid (by have := HN.out; simpa using this)
        as_aux_lemma =>
        go_wp2_with fail
        go_ret
        exact ⟨by rw [HN1.out]; rfl, rfl⟩
      | true =>
        have HN1 : Hid (R = 0) := Lib.hid (by have := HN.out; simpa using this)
        as_aux_lemma =>
        go_wp2_with fail
        go_ret
        exact ⟨by rw [HN1.out]; rfl, rfl⟩

set_option maxRecDepth 100000 in
theorem last_any {w : World} {s t : Value} {c A : List Int} (h : Reads w s c) (hA : Reads w t A) (h3 : Three A) (hl : A.length ≤ 20000) (hc : c.length ≤ 1000000) (hx : ∀ x ∈ c, In64 x) :
    Calls Try.prog 68 #[s, t] w fun e w' => e = .returned (.int .i64 (unitGo A c 0)) ∧ w' = w := by
  obtain ⟨R, hR⟩ : ∃ R, unitGo A c 0 = R := ⟨_, rfl⟩
  rw [hR]
  have H := Lib.hid h
  have HL : Hid (∀ x, In64 x → Calls Try.prog 48 #[.int .i64 x, t] w fun e w' => e = .returned (.int .i64 (litA A x)) ∧ w' = w) := Lib.hid fun x hx => LitR_any hA h3 hl x hx
  obtain ⟨a, cc, rfl⟩ := h.form
  obtain ⟨ta, tc, rfl⟩ := hA.form
  obtain ⟨q, hq⟩ : ∃ q, c.length = q := ⟨_, rfl⟩
  have HX := Lib.hid hx
  have H3 := Lib.hid h3
  rw [hq] at hc H ⊢
  have HQ := Lib.hid hq
  have HR := Lib.hid hR
  generalize A.length = al at *
  clear h hA hx hq h3 hR
  go_enter Try.func68, Try.ntmps68
  go_wp2_with fail
  go_loop [4, 5, 6] (fun _ v5 v11 => ∃ (k : Nat) (x : Int), k ≤ q ∧ v11 = .int .i64 k ∧ v5 = .int .i64 x ∧ Hid (unitGo A (c.drop k) x = R)) (fun _ _ v11 => q - (intOf v11).toNat)
  case atStart => exact ⟨0, 0, Nat.zero_le _, rfl, rfl, HR⟩
  case round =>
    obtain ⟨k, x, hk, rfl, rfl, HG⟩ := hrel
    by_cases hlt : k < q
    · have hkc : k < c.length := by rw [HQ.out]; exact hlt
      obtain ⟨b, off, c', e, _, hcc⟩ := H.out.resolve_left (fun h => by rw [h.2] at hkc; simp at hkc)
      injection e with e1 n1 n2
      subst e1
      clear n1 n2
      have ck := hcc k hkc
      have HLK := Lib.hid (HL.out _ (HX.out _ (mem_getD (d := 0) hkc)))
      have a2 := litA_three H3.out (c.getD k 0)
      have hg := HG.out
      rw [drop_cons hkc] at hg
      unfold unitGo at hg
      generalize litA A (c.getD k 0) = v at *
      generalize c.getD k 0 = y at *
      have HGO := Lib.hid hg
      have hk1 : (k : Int) < (q : Int) := by omega
      have hk0 : (0 : Int) ≤ (k : Int) := by omega
      clear hcc hkc hg HG
      rcases a2 with rfl | rfl | rfl
      · have HN : Hid (unitGo A (c.drop (k + 1)) x = R) := Lib.hid (by have := HGO.out; rw [if_neg (by omega), if_neg (by omega)] at this; exact this)
        as_aux_lemma =>
        go_wp2_with (go_at_call 48; refine HLK.out.mono ?_; rintro e w' ⟨rfl, hw⟩; obtain rfl := hw.symm)
        go_round
        case rel => exact ⟨k + 1, x, by omega, by go_num, rfl, HN⟩
        case measure => simp [intOf]; omega
      · by_cases hx0 : x = 0
        · subst hx0
          have HN : Hid (unitGo A (c.drop (k + 1)) y = R) := Lib.hid (by have := HGO.out; rw [if_neg (by simp), if_pos rfl] at this; exact this)
          as_aux_lemma =>
          go_wp2_with (go_at_call 48; refine HLK.out.mono ?_; rintro e w' ⟨rfl, hw⟩; obtain rfl := hw.symm)
          go_round
          case rel => exact ⟨k + 1, y, by omega, by go_num, rfl, HN⟩
          case measure => simp [intOf]; omega
        · have hb : (x != 0) = true := by simpa using hx0
          by_cases hxy : x = y
          · subst hxy
            have HN : Hid (unitGo A (c.drop (k + 1)) x = R) := Lib.hid (by have := HGO.out; rw [if_neg (by simp), if_pos rfl] at this; exact this)
            clear hx0
            as_aux_lemma =>
            go_wp2_with (go_at_call 48; refine HLK.out.mono ?_; rintro e w' ⟨rfl, hw⟩; obtain rfl := hw.symm)
            go_round
            case rel => exact ⟨k + 1, x, by omega, by go_num, rfl, HN⟩
            case measure => simp [intOf]; omega
          · have hb2 : (x != y) = true := by simpa using hxy
            have HN : Hid (0 = R) := Lib.hid (by have := HGO.out; rw [if_pos (.inr ⟨rfl, hx0, hxy⟩)] at this; exact this)
            clear hx0 hxy
            as_aux_lemma =>
            go_wp2_with (go_at_call 48; refine HLK.out.mono ?_; rintro e w' ⟨rfl, hw⟩; obtain rfl := hw.symm)
            go_ret
            exact ⟨by rw [← HN.out]; rfl, rfl⟩
      · have HN : Hid (0 = R) := Lib.hid (by have := HGO.out; rw [if_pos (.inl rfl)] at this; exact this)
        as_aux_lemma =>
        go_wp2_with (go_at_call 48; refine HLK.out.mono ?_; rintro e w' ⟨rfl, hw⟩; obtain rfl := hw.symm)
        go_ret
        exact ⟨by rw [← HN.out]; rfl, rfl⟩
    · obtain rfl : k = q := by omega
      have HN : Hid (x = R) := Lib.hid (by have := HG.out; rw [List.drop_of_length_le (by rw [HQ.out]; exact Nat.le_refl _)] at this; exact this)
      as_aux_lemma =>
      go_wp2_with fail
      go_ret
      exact ⟨by rw [← HN.out]; rfl, rfl⟩

set_option maxRecDepth 100000 in
theorem setR_no {w : World} {t : Value} {A : List Int} (h : Reads w t A) (h3 : Three A) (hl : A.length ≤ 20000) (x : Int) (hx : In64 x) (hn : okLit x A.length = false ∨ litA A x = -1) :
    Calls Try.prog 67 #[t, .int .i64 x] w fun e w' => e = .returned (.bool false) ∧ w' = w := by
  have HV := Lib.hid (Var_any x w hx)
  have HL := Lib.hid (LitR_any h h3 hl x hx)
  cases hok : okLit x A.length with
  | false =>
    have hv := varR_no hok
    obtain ⟨a, c, rfl⟩ := h.form
    generalize varR x = v at *
    generalize A.length = q at *
    clear h h3 hx hn hok HL
    by_cases h1 : v < 1
    · have hd : decide (v < 1) = true := decide_eq_true h1
      clear hv
      go_enter Try.func67, Try.ntmps67
      go_wp2_with (go_at_call 60; refine HV.out.mono ?_; rintro e w' ⟨rfl, hw⟩; obtain rfl := hw.symm)
      go_ret
      exact ⟨rfl, rfl⟩
    · have hd : decide (v < 1) = false := decide_eq_false h1
      have h2 : (q : Int) < v := hv.resolve_left h1
      clear hv
      go_enter Try.func67, Try.ntmps67
      go_wp2_with (go_at_call 60; refine HV.out.mono ?_; rintro e w' ⟨rfl, hw⟩; obtain rfl := hw.symm)
      go_ret
      exact ⟨rfl, rfl⟩
  | true =>
    have hlit : litA A x = -1 := hn.resolve_left (by rw [hok]; simp)
    rw [hlit] at HL
    have hok' : 1 ≤ x.natAbs ∧ x.natAbs ≤ A.length := of_decide_eq_true hok
    have hv := varR_ok hok (by omega)
    rw [hv] at HV
    obtain ⟨a, c, rfl⟩ := h.form
    generalize A.length = q at *
    obtain ⟨m, hm⟩ : ∃ m, x.natAbs = m + 1 := ⟨x.natAbs - 1, by omega⟩
    rw [hm, show ((m + 1 : Nat) : Int) = (m : Int) + 1 from by omega] at HV
    have hv1 : decide ((m : Int) + 1 < 1) = false := decide_eq_false (by omega)
    have hv2 : decide ((q : Int) < (m : Int) + 1) = false := decide_eq_false (by omega)
    clear h hx hn hv hok hlit hok' hm h3
    go_enter Try.func67, Try.ntmps67
    go_wp2_with (first | (go_at_call 60; refine HV.out.mono ?_; rintro e w' ⟨rfl, hw⟩; obtain rfl := hw.symm) | (go_at_call 48; refine HL.out.mono ?_; rintro e w' ⟨rfl, hw⟩; obtain rfl := hw.symm))
    go_ret
    exact ⟨rfl, rfl⟩

set_option maxRecDepth 100000 in
theorem setR_row {w : World} {t : Value} {A : List Int} (hr : Row w 3 1 t (ints A)) (h3 : Three A) (hl : A.length ≤ 20000) (x : Int) (hx : In64 x) (hok : okLit x A.length = true) (hlit : litA A x ≠ -1) :
    Calls Try.prog 67 #[t, .int .i64 x] w (SetPost w t A x) := by
  have h := hr.reads
  have HV := Lib.hid (Var_any x w hx)
  have HL := Lib.hid (LitR_any h h3 hl x hx)
  have hlt := litA_three h3 x
  have hok' : 1 ≤ x.natAbs ∧ x.natAbs ≤ A.length := of_decide_eq_true hok
  have hv := varR_ok hok (by omega)
  rw [hv] at HV
  obtain ⟨g, c, rfl, _, _, hg, hcc, hf⟩ := hr.at (by rw [ints_len]; omega)
  rw [ints_len] at *
  have HW1 := Lib.hid (hr.store (x.natAbs - 1) (.int .i64 1))
  have HW2 := Lib.hid (HW1.out.store (x.natAbs - 1) (.int .i64 (-1)))
  have HA1 : Hid (0 ≤ x → ints (setA A x) = (ints A).set (x.natAbs - 1) (.int .i64 1)) := Lib.hid fun h => by rw [intsA_set]; unfold setA sgn; rw [if_neg (by omega)]
  have HA2 : Hid (x < 0 → ints (setA A x) = ((ints A).set (x.natAbs - 1) (.int .i64 1)).set (x.natAbs - 1) (.int .i64 (-1))) := Lib.hid fun h => by rw [intsA_set, intsA_set, List.set_set]; unfold setA sgn; rw [if_pos h]
  have HB1 : Hid (∀ m, m ≤ g → Below m w (w.setCell ⟨g, x.natAbs - 1, none⟩ (.int .i64 1))) := Lib.hid fun m hm => (Below.refl m w).setCell hm _
  have HB2 : Hid (∀ m, m ≤ g → Below m w ((w.setCell ⟨g, x.natAbs - 1, none⟩ (.int .i64 1)).setCell ⟨g, x.natAbs - 1, none⟩ (.int .i64 (-1)))) := Lib.hid fun m hm => ((Below.refl m w).setCell hm _).setCell hm _
  obtain ⟨m, hm⟩ : ∃ m, x.natAbs = m + 1 := ⟨x.natAbs - 1, by omega⟩
  have cm := hcc m _ (ints_at (by omega))
  have fm := hf m
  have dm : (w.setCell ⟨g, m, none⟩ (.int .i64 1)).cell? ⟨g, m, none⟩ = some (.int .i64 1) := by
    have hW := HW1.out
    obtain ⟨g', c', e, _, _, _, hcc', _⟩ := hW.at (by simp [ints]; omega)
    injection e with e _ _
    injection e with e
    injection e with e _ _
    subst e
    have := hcc' m (.int .i64 1) (by rw [hm, Nat.add_sub_cancel, List.getElem?_set_self (by rw [ints_len]; omega)])
    rw [hm, Nat.add_sub_cancel] at this
    exact this
  have fdm : (w.setCell ⟨g, m, none⟩ (.int .i64 1)).frozen? ⟨g, m, none⟩ = false := by
    have hW := HW1.out
    obtain ⟨g', c', e, _, _, _, _, hf'⟩ := hW.at (by simp [ints]; omega)
    injection e with e _ _
    injection e with e
    injection e with e _ _
    subst e
    have := hf' m
    rw [hm, Nat.add_sub_cancel] at this
    exact this
  rw [hm, show ((m + 1 : Nat) : Int) = (m : Int) + 1 from by omega] at HV
  rw [hm, Nat.add_sub_cancel] at HW1 HW2 HA1 HA2 HB1 HB2
  obtain ⟨v, hv2⟩ : ∃ v, litA A x = v := ⟨_, rfl⟩
  rw [hv2] at HL hlit hlt
  have hv0 : decide (v < 0) = false := decide_eq_false (by omega)
  unfold SetPost
  generalize setA A x = A2 at *
  obtain ⟨q, hq⟩ : ∃ q, A.length = q := ⟨_, rfl⟩
  rw [hq] at HL hok' hl HW1 HW2 ⊢
  have hv1 : decide ((m : Int) + 1 < 1) = false := decide_eq_false (by omega)
  have hv2 : decide ((q : Int) < (m : Int) + 1) = false := decide_eq_false (by omega)
  have hmq : (m : Int) < (q : Int) := by omega
  have hm0 : (0 : Int) ≤ (m : Int) := by omega
  have hmb : m ≤ 20000 := by omega
  clear h h3 hx hok hlit hlt hv hq hcc hf hr hok' hm
  by_cases hneg : x < 0
  · have hd : decide (x < 0) = true := decide_eq_true hneg
    have HE := Lib.hid (HA2.out hneg)
    clear hneg HA1 HA2
    go_enter Try.func67, Try.ntmps67
    go_wp2_with (first | (go_at_call 60; refine HV.out.mono ?_; rintro e w' ⟨rfl, hw⟩; obtain rfl := hw.symm) | (go_at_call 48; refine HL.out.mono ?_; rintro e w' ⟨rfl, hw⟩; obtain rfl := hw.symm))
    go_ret
    exact ⟨rfl, by rw [HE.out]; exact HW2.out, fun k hk => HB2.out k (hk g rfl)⟩
  · have hd : decide (x < 0) = false := decide_eq_false hneg
    have HE := Lib.hid (HA1.out (by omega))
    clear hneg HA1 HA2
    go_enter Try.func67, Try.ntmps67
    go_wp2_with (first | (go_at_call 60; refine HV.out.mono ?_; rintro e w' ⟨rfl, hw⟩; obtain rfl := hw.symm) | (go_at_call 48; refine HL.out.mono ?_; rintro e w' ⟨rfl, hw⟩; obtain rfl := hw.symm))
    go_ret
    exact ⟨rfl, by rw [HE.out]; exact HW1.out, fun k hk => HB1.out k (hk g rfl)⟩
end Go.Proofs.Ytngegkgmenfelaa

/-
  The document's answer of chapter 12: Right.
-/
namespace Go.Proofs.Ytngegkgmenfelaa
open Go.RowKit Go.Lib
attribute [local go_sem ↓] Go.wp_at_zero Go.wp_at_succ

/-- A clause is right, as the answer looks at it. -/
def fineX (n : Int) (x : Int) : Prop := ¬ (varR x < 1 ∨ n < varR x)
def fineR (n : Int) (c : List Int) : Prop := (∀ x ∈ c, fineX n x) ∧ c.length ≤ 20000

theorem fineX_ok {n : Nat} (hn : n ≤ 20000) (x : Int) : fineX n x ↔ okLit x n = true := by
  unfold fineX
  constructor
  · intro h
    cases ho : okLit x n with
    | true => rfl
    | false => exact absurd (varR_no ho) h
  · intro h
    rw [varR_ok h (by omega)]
    have := (okLit_iff x n).1 h
    omega
theorem fineR_bad {n : Nat} (hn : n ≤ 20000) (c : List Int) : fineR n c ↔ badC n c = false := by
  unfold fineR badC
  rw [Bool.or_eq_false_iff, List.any_eq_false]
  simp only [fineX_ok hn, decide_eq_false_iff_not, Bool.not_eq_true', Bool.not_eq_false]
  constructor
  · rintro ⟨a, b⟩; exact ⟨by omega, a⟩
  · rintro ⟨a, b⟩; exact ⟨b, by omega⟩
theorem rightB_fine {n : Int} {L : List (List Int)} (h : ∀ c ∈ L, fineR n c) : rightB n L = (decide (0 ≤ n ∧ n ≤ 20000) && decide (L.length ≤ 400000)) := by
  unfold rightB
  by_cases hn : 0 ≤ n ∧ n ≤ 20000
  · have e : L.any (badC n.toNat) = false := List.any_eq_false.2 fun c hc => by
      have := (fineR_bad (n := n.toNat) (by omega) c).1 (by rw [Int.toNat_of_nonneg hn.1]; exact h c hc)
      simpa using this
    rw [e]; simp
  · rw [decide_eq_false hn]; simp
theorem rightB_bad {n : Int} {L : List (List Int)} {c : List Int} (hc : c ∈ L) (h : ¬ fineR n c) : rightB n L = false := by
  unfold rightB
  by_cases hn : 0 ≤ n ∧ n ≤ 20000
  · have e : L.any (badC n.toNat) = true := List.any_eq_true.2 ⟨c, hc, by
      cases hb : badC n.toNat c with
      | true => rfl
      | false => exact absurd ((fineR_bad (n := n.toNat) (by omega) c).2 hb) (by rw [Int.toNat_of_nonneg hn.1]; exact h)⟩
    rw [e]; simp
  · rw [decide_eq_false hn]; simp

set_option maxRecDepth 100000 in
set_option maxHeartbeats 4000000 in
theorem RightR_any {w : World} {s : Value} {L : List (List Int)} (n : Int) (h : ReadsL w s L) (hx : In64L L) (hL : L.length ≤ 1000000) (hc : ∀ c ∈ L, c.length ≤ 1000000) :
    Calls Try.prog 37 #[.int .i64 n, s] w fun e w' => e = .returned (.bool (rightB n L)) ∧ w' = w := by
  obtain ⟨R, hR⟩ : ∃ R, rightB n L = R := ⟨_, rfl⟩
  rw [hR]
  have HR := Lib.hid hR
  obtain ⟨a, c, rfl⟩ := h.form
  obtain ⟨q, hq⟩ : ∃ q, L.length = q := ⟨_, rfl⟩
  have HQ := Lib.hid hq
  have HX := Lib.hid hx
  have HC := Lib.hid hc
  have HV := Lib.hid (fun x hx => Var_any x w hx)
  rw [hq] at h hL ⊢
  have H := Lib.hid h
  clear h hR hq hx hc
  go_enter Try.func37, Try.ntmps37
  go_wp2_with fail
  as_aux_lemma =>
  go_loop [4, 5, 6, 7] (fun _ v5 _ _ => ∃ i : Nat, i ≤ q ∧ v5 = .int .i64 i ∧ Hid (∀ j, j < i → fineR n (L.getD j []))) (fun _ v5 _ _ => q - (intOf v5).toNat)
  case atStart => exact ⟨0, Nat.zero_le _, rfl, Lib.hid fun j hj => absurd hj (Nat.not_lt_zero _)⟩
  case round =>
    obtain ⟨i, hi, rfl, HF⟩ := hrel
    by_cases hlt : i < q
    · have hiL : i < L.length := by rw [HQ.out]; exact hlt
      obtain ⟨lb, off, c', vs, e, hlb, hcv⟩ := H.out.resolve_left (fun h => by rw [h.2] at hiL; simp at hiL)
      injection e with e1 n1 n2
      subst e1
      clear n1 n2
      obtain ⟨ci, hri⟩ := hcv i hiL
      have hcL : L.getD i [] ∈ L := mem_getD hiL
      have hlen := HC.out _ hcL
      have HCX := Lib.hid (HX.out _ hcL)
      have HBAD : Hid (¬ fineR n (L.getD i []) → R = false) := Lib.hid fun h => by rw [← HR.out]; exact rightB_bad hcL h
      have HNX : Hid (fineR n (L.getD i []) → ∀ j, j < i + 1 → fineR n (L.getD j [])) := Lib.hid fun h j hj => by
        by_cases e : j = i
        · rw [e]; exact h
        · exact HF.out j (by omega)
      have hi1 : (i : Int) < (q : Int) := by omega
      have hi0 : (0 : Int) ≤ (i : Int) := by omega
      clear hcv hiL HF hcL
      generalize vs i = vi at *
      generalize L.getD i [] = d at *
      obtain ⟨da, dc, rfl⟩ := hri.form
      obtain ⟨m, hm⟩ : ∃ m, d.length = m := ⟨_, rfl⟩
      have HM := Lib.hid hm
      rw [hm] at hlen hri ci
      have HRI := Lib.hid hri
      clear hm hri
      go_wp2_with fail
      as_aux_lemma =>
      go_loop [4, 6, 7] (fun _ v6 _ => ∃ k : Nat, k ≤ m ∧ v6 = .int .i64 k ∧ Hid (∀ x ∈ d.take k, fineX n x)) (fun _ v6 _ => m - (intOf v6).toNat)
      case atStart => exact ⟨0, Nat.zero_le _, rfl, Lib.hid fun x hx => by rw [List.take_zero] at hx; cases hx⟩
      case round =>
        obtain ⟨k, hk, rfl, HF⟩ := hrel
        by_cases hltk : k < m
        · have hkd : k < d.length := by rw [HM.out]; exact hltk
          obtain ⟨bb, boff, c2, e, _, hcc⟩ := HRI.out.resolve_left (fun h => by rw [h.2] at hkd; simp at hkd)
          injection e with e1 n1 n2
          subst e1
          clear n1 n2
          have ck := hcc k hkd
          have HMM := Lib.hid (mem_getD (d := 0) hkd)
          have HVX := Lib.hid (HV.out _ (HCX.out _ HMM.out))
          have HTS := Lib.hid (take_snoc hkd)
          have hk1 : (k : Int) < (m : Int) := by omega
          have hk0 : (0 : Int) ≤ (k : Int) := by omega
          clear hcc hkd
          by_cases h1 : varR (d.getD k 0) < 1
          · have hd : decide (varR (d.getD k 0) < 1) = true := decide_eq_true h1
            have HE : Hid (R = false) := Lib.hid (HBAD.out fun h => h.1 _ HMM.out (.inl h1))
            generalize varR (d.getD k 0) = v at *
            generalize d.getD k 0 = x at *
            clear h1
            as_aux_lemma =>
            go_wp2_with (go_at_call 60; refine HVX.out.mono ?_; rintro e w' ⟨rfl, hw⟩; obtain rfl := hw.symm)
            go_ret
            exact ⟨by rw [HE.out]; rfl, rfl⟩
          · have hd : decide (varR (d.getD k 0) < 1) = false := decide_eq_false h1
            by_cases h2 : n < varR (d.getD k 0)
            · have hd2 : decide (n < varR (d.getD k 0)) = true := decide_eq_true h2
              have HE : Hid (R = false) := Lib.hid (HBAD.out fun h => h.1 _ HMM.out (.inr h2))
              generalize varR (d.getD k 0) = v at *
              generalize d.getD k 0 = x at *
              clear h1 h2
              as_aux_lemma =>
              go_wp2_with (go_at_call 60; refine HVX.out.mono ?_; rintro e w' ⟨rfl, hw⟩; obtain rfl := hw.symm)
              go_ret
              exact ⟨by rw [HE.out]; rfl, rfl⟩
            · have hd2 : decide (n < varR (d.getD k 0)) = false := decide_eq_false h2
              have HN : Hid (∀ x ∈ d.take (k + 1), fineX n x) := Lib.hid fun x hx => by
                rw [HTS.out] at hx
                rcases List.mem_append.1 hx with hx | hx
                · exact HF.out x hx
                · obtain rfl := List.mem_singleton.1 hx
                  exact fun h => h.elim h1 h2
              generalize varR (d.getD k 0) = v at *
              generalize d.getD k 0 = x at *
              clear h1 h2 HF
              as_aux_lemma =>
              go_wp2_with (go_at_call 60; refine HVX.out.mono ?_; rintro e w' ⟨rfl, hw⟩; obtain rfl := hw.symm)
              go_round
              case rel => exact ⟨k + 1, by omega, by go_num, HN⟩
              case measure => simp [intOf]; omega
        · obtain rfl : k = m := by omega
          have HAll : Hid (∀ x ∈ d, fineX n x) := Lib.hid (by have := HF.out; rw [List.take_of_length_le (by rw [HM.out]; exact Nat.le_refl _)] at this; exact this)
          clear HF
          by_cases h20 : 20000 < k
          · have HE : Hid (R = false) := Lib.hid (HBAD.out fun h => by have := h.2; rw [HM.out] at this; omega)
            have hd : (20000 : Int) < (k : Int) := by omega
            as_aux_lemma =>
            go_wp2_with fail
            go_ret
            exact ⟨by rw [HE.out]; rfl, rfl⟩
          · have HE := Lib.hid (HNX.out ⟨HAll.out, by rw [HM.out]; omega⟩)
            have hd : ¬ (20000 : Int) < (k : Int) := by omega
            as_aux_lemma =>
            go_wp2_with fail
            go_round
            case rel => exact ⟨i + 1, by omega, by go_num, HE⟩
            case measure => simp [intOf]; omega
    · obtain rfl : i = q := by omega
      have HE : Hid (R = (decide (0 ≤ n ∧ n ≤ 20000) && decide (i ≤ 400000))) := Lib.hid (by
        rw [← HR.out, ← HQ.out]
        refine rightB_fine fun c hc => ?_
        obtain ⟨j, hj, rfl⟩ := List.getElem_of_mem hc
        have := HF.out j (by rw [← HQ.out]; exact hj)
        rw [List.getD_eq_getElem?_getD, List.getElem?_eq_getElem hj, Option.getD_some] at this
        exact this)
      clear HF
      by_cases hn0 : 0 ≤ n
      · have hd0 : decide (0 ≤ n) = true := decide_eq_true hn0
        by_cases hn1 : n ≤ 20000
        · have hd1 : decide (n ≤ 20000) = true := decide_eq_true hn1
          have HE2 : Hid (R = decide ((i : Int) ≤ 400000)) := Lib.hid (by
            rw [HE.out, decide_eq_true (show 0 ≤ n ∧ n ≤ 20000 from ⟨hn0, hn1⟩), Bool.true_and]
            by_cases hi4 : i ≤ 400000
            · rw [decide_eq_true hi4, decide_eq_true (by omega)]
            · rw [decide_eq_false hi4, decide_eq_false (by omega)])
          clear hn0 hn1
          as_aux_lemma =>
          go_wp2_with fail
          go_ret
          exact ⟨by rw [HE2.out]; rfl, rfl⟩
        · have hd1 : decide (n ≤ 20000) = false := decide_eq_false hn1
          have HE3 : Hid (R = false) := Lib.hid (by rw [HE.out, decide_eq_false (fun h => hn1 h.2)]; rfl)
          clear hn0 hn1
          as_aux_lemma =>
          go_wp2_with fail
          go_ret
          exact ⟨by rw [HE3.out]; rfl, rfl⟩
      · have hd0 : decide (0 ≤ n) = false := decide_eq_false hn0
        have HE3 : Hid (R = false) := Lib.hid (by rw [HE.out, decide_eq_false (fun h => hn0 h.1)]; rfl)
        clear hn0
        as_aux_lemma =>
        go_wp2_with fail
        go_ret
        exact ⟨by rw [HE3.out]; rfl, rfl⟩
end Go.Proofs.Ytngegkgmenfelaa
