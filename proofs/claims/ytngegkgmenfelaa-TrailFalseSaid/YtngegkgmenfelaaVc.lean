/-
  The document's answer of chapter 12: Right.
-/
import Derived.Test.YtngegkgmenfelaaVb
namespace Go.Proofs.Ytngegkgmenfelaa
open Go.RowKit Go.Lib
attribute [local go_sem ↓] Go.wp_at_zero Go.wp_at_succ

/-- A clause is right, as the answer looks at it. -/
def fineX (n : Int) (x : Int) : Prop := ¬ (varR x < 1 ∨ n < varR x)
def fineR (n : Int) (c : List Int) : Prop := (∀ x ∈ c, fineX n x) ∧ c.length ≤ 20000

theorem fineX_ok {n : Nat} (hn : n ≤ 20000) (x : Int) : fineX n x ↔ okLit x n = true := by
  unfold fineX
  constructor
  · intro h
    cases ho : okLit x n with
    | true => rfl
    | false => exact absurd (varR_no ho) h
  · intro h
    rw [varR_ok h (by omega)]
    have := (okLit_iff x n).1 h
    omega
theorem fineR_bad {n : Nat} (hn : n ≤ 20000) (c : List Int) : fineR n c ↔ badC n c = false := by
  unfold fineR badC
  rw [Bool.or_eq_false_iff, List.any_eq_false]
  simp only [fineX_ok hn, decide_eq_false_iff_not, Bool.not_eq_true', Bool.not_eq_false]
  constructor
  · rintro ⟨a, b⟩; exact ⟨by omega, a⟩
  · rintro ⟨a, b⟩; exact ⟨b, by omega⟩
theorem rightB_fine {n : Int} {L : List (List Int)} (h : ∀ c ∈ L, fineR n c) : rightB n L = (decide (0 ≤ n ∧ n ≤ 20000) && decide (L.length ≤ 400000)) := by
  unfold rightB
  by_cases hn : 0 ≤ n ∧ n ≤ 20000
  · have e : L.any (badC n.toNat) = false := List.any_eq_false.2 fun c hc => by
      have := (fineR_bad (n := n.toNat) (by omega) c).1 (by rw [Int.toNat_of_nonneg hn.1]; exact h c hc)
      simpa using this
    rw [e]; simp
  · rw [decide_eq_false hn]; simp
theorem rightB_bad {n : Int} {L : List (List Int)} {c : List Int} (hc : c ∈ L) (h : ¬ fineR n c) : rightB n L = false := by
  unfold rightB
  by_cases hn : 0 ≤ n ∧ n ≤ 20000
  · have e : L.any (badC n.toNat) = true := List.any_eq_true.2 ⟨c, hc, by
      cases hb : badC n.toNat c with
      | true => rfl
      | false => exact absurd ((fineR_bad (n := n.toNat) (by omega) c).2 hb) (by rw [Int.toNat_of_nonneg hn.1]; exact h)⟩
    rw [e]; simp
  · rw [decide_eq_false hn]; simp

set_option maxRecDepth 100000 in
set_option maxHeartbeats 4000000 in
theorem RightR_any {w : World} {s : Value} {L : List (List Int)} (n : Int) (h : ReadsL w s L) (hx : In64L L) (hL : L.length ≤ 1000000) (hc : ∀ c ∈ L, c.length ≤ 1000000) :
    Calls Try.prog 37 #[.int .i64 n, s] w fun e w' => e = .returned (.bool (rightB n L)) ∧ w' = w := by
  obtain ⟨R, hR⟩ : ∃ R, rightB n L = R := ⟨_, rfl⟩
  rw [hR]
  have HR := Lib.hid hR
  obtain ⟨a, c, rfl⟩ := h.form
  obtain ⟨q, hq⟩ : ∃ q, L.length = q := ⟨_, rfl⟩
  have HQ := Lib.hid hq
  have HX := Lib.hid hx
  have HC := Lib.hid hc
  have HV := Lib.hid (fun x hx => Var_any x w hx)
  rw [hq] at h hL ⊢
  have H := Lib.hid h
  clear h hR hq hx hc
  go_enter Try.func37, Try.ntmps37
  go_wp2_with fail
  as_aux_lemma =>
  go_loop [4, 5, 6, 7] (fun _ v5 _ _ => ∃ i : Nat, i ≤ q ∧ v5 = .int .i64 i ∧ Hid (∀ j, j < i → fineR n (L.getD j []))) (fun _ v5 _ _ => q - (intOf v5).toNat)
  case atStart => exact ⟨0, Nat.zero_le _, rfl, Lib.hid fun j hj => absurd hj (Nat.not_lt_zero _)⟩
  case round =>
    obtain ⟨i, hi, rfl, HF⟩ := hrel
    by_cases hlt : i < q
    · have hiL : i < L.length := by rw [HQ.out]; exact hlt
      obtain ⟨lb, off, c', vs, e, hlb, hcv⟩ := H.out.resolve_left (fun h => by rw [h.2] at hiL; simp at hiL)
      injection e with e1 n1 n2
      subst e1
      clear n1 n2
      obtain ⟨ci, hri⟩ := hcv i hiL
      have hcL : L.getD i [] ∈ L := mem_getD hiL
      have hlen := HC.out _ hcL
      have HCX := Lib.hid (HX.out _ hcL)
      have HBAD : Hid (¬ fineR n (L.getD i []) → R = false) := Lib.hid fun h => by rw [← HR.out]; exact rightB_bad hcL h
      have HNX : Hid (fineR n (L.getD i []) → ∀ j, j < i + 1 → fineR n (L.getD j [])) := Lib.hid fun h j hj => by
        by_cases e : j = i
        · rw [e]; exact h
        · exact HF.out j (by omega)
      have hi1 : (i : Int) < (q : Int) := by omega
      have hi0 : (0 : Int) ≤ (i : Int) := by omega
      clear hcv hiL HF hcL
      generalize vs i = vi at *
      generalize L.getD i [] = d at *
      obtain ⟨da, dc, rfl⟩ := hri.form
      obtain ⟨m, hm⟩ : ∃ m, d.length = m := ⟨_, rfl⟩
      have HM := Lib.hid hm
      rw [hm] at hlen hri ci
      have HRI := Lib.hid hri
      clear hm hri
      go_wp2_with fail
      as_aux_lemma =>
      go_loop [4, 6, 7] (fun _ v6 _ => ∃ k : Nat, k ≤ m ∧ v6 = .int .i64 k ∧ Hid (∀ x ∈ d.take k, fineX n x)) (fun _ v6 _ => m - (intOf v6).toNat)
      case atStart => exact ⟨0, Nat.zero_le _, rfl, Lib.hid fun x hx => by rw [List.take_zero] at hx; cases hx⟩
      case round =>
        obtain ⟨k, hk, rfl, HF⟩ := hrel
        by_cases hltk : k < m
        · have hkd : k < d.length := by rw [HM.out]; exact hltk
          obtain ⟨bb, boff, c2, e, _, hcc⟩ := HRI.out.resolve_left (fun h => by rw [h.2] at hkd; simp at hkd)
          injection e with e1 n1 n2
          subst e1
          clear n1 n2
          have ck := hcc k hkd
          have HMM := Lib.hid (mem_getD (d := 0) hkd)
          have HVX := Lib.hid (HV.out _ (HCX.out _ HMM.out))
          have HTS := Lib.hid (take_snoc hkd)
          have hk1 : (k : Int) < (m : Int) := by omega
          have hk0 : (0 : Int) ≤ (k : Int) := by omega
          clear hcc hkd
          by_cases h1 : varR (d.getD k 0) < 1
          · have hd : decide (varR (d.getD k 0) < 1) = true := decide_eq_true h1
            have HE : Hid (R = false) := Lib.hid (HBAD.out fun h => h.1 _ HMM.out (.inl h1))
            generalize varR (d.getD k 0) = v at *
            generalize d.getD k 0 = x at *
            clear h1
            as_aux_lemma =>
            go_wp2_with (go_at_call 60; refine HVX.out.mono ?_; rintro e w' ⟨rfl, hw⟩; obtain rfl := hw.symm)
            go_ret
            exact ⟨by rw [HE.out]; rfl, rfl⟩
          · have hd : decide (varR (d.getD k 0) < 1) = false := decide_eq_false h1
            by_cases h2 : n < varR (d.getD k 0)
            · have hd2 : decide (n < varR (d.getD k 0)) = true := decide_eq_true h2
              have HE : Hid (R = false) := Lib.hid (HBAD.out fun h => h.1 _ HMM.out (.inr h2))
              generalize varR (d.getD k 0) = v at *
              generalize d.getD k 0 = x at *
              clear h1 h2
              as_aux_lemma =>
              go_wp2_with (go_at_call 60; refine HVX.out.mono ?_; rintro e w' ⟨rfl, hw⟩; obtain rfl := hw.symm)
              go_ret
              exact ⟨by rw [HE.out]; rfl, rfl⟩
            · have hd2 : decide (n < varR (d.getD k 0)) = false := decide_eq_false h2
              have HN : Hid (∀ x ∈ d.take (k + 1), fineX n x) := Lib.hid fun x hx => by
                rw [HTS.out] at hx
                rcases List.mem_append.1 hx with hx | hx
                · exact HF.out x hx
                · obtain rfl := List.mem_singleton.1 hx
                  exact fun h => h.elim h1 h2
              generalize varR (d.getD k 0) = v at *
              generalize d.getD k 0 = x at *
              clear h1 h2 HF
              as_aux_lemma =>
              go_wp2_with (go_at_call 60; refine HVX.out.mono ?_; rintro e w' ⟨rfl, hw⟩; obtain rfl := hw.symm)
              go_round
              case rel => exact ⟨k + 1, by omega, by go_num, HN⟩
              case measure => simp [intOf]; omega
        · obtain rfl : k = m := by omega
          have HAll : Hid (∀ x ∈ d, fineX n x) := Lib.hid (by have := HF.out; rw [List.take_of_length_le (by rw [HM.out]; exact Nat.le_refl _)] at this; exact this)
          clear HF
          by_cases h20 : 20000 < k
          · have HE : Hid (R = false) := Lib.hid (HBAD.out fun h => by have := h.2; rw [HM.out] at this; omega)
            have hd : (20000 : Int) < (k : Int) := by omega
            as_aux_lemma =>
            go_wp2_with fail
            go_ret
            exact ⟨by rw [HE.out]; rfl, rfl⟩
          · have HE := Lib.hid (HNX.out ⟨HAll.out, by rw [HM.out]; omega⟩)
            have hd : ¬ (20000 : Int) < (k : Int) := by omega
            as_aux_lemma =>
            go_wp2_with fail
            go_round
            case rel => exact ⟨i + 1, by omega, by go_num, HE⟩
            case measure => simp [intOf]; omega
    · obtain rfl : i = q := by omega
      have HE : Hid (R = (decide (0 ≤ n ∧ n ≤ 20000) && decide (i ≤ 400000))) := Lib.hid (by
        rw [← HR.out, ← HQ.out]
        refine rightB_fine fun c hc => ?_
        obtain ⟨j, hj, rfl⟩ := List.getElem_of_mem hc
        have := HF.out j (by rw [← HQ.out]; exact hj)
        rw [List.getD_eq_getElem?_getD, List.getElem?_eq_getElem hj, Option.getD_some] at this
        exact this)
      clear HF
      by_cases hn0 : 0 ≤ n
      · have hd0 : decide (0 ≤ n) = true := decide_eq_true hn0
        by_cases hn1 : n ≤ 20000
        · have hd1 : decide (n ≤ 20000) = true := decide_eq_true hn1
          have HE2 : Hid (R = decide ((i : Int) ≤ 400000)) := Lib.hid (by
            rw [HE.out, decide_eq_true (show 0 ≤ n ∧ n ≤ 20000 from ⟨hn0, hn1⟩), Bool.true_and]
            by_cases hi4 : i ≤ 400000
            · rw [decide_eq_true hi4, decide_eq_true (by omega)]
            · rw [decide_eq_false hi4, decide_eq_false (by omega)])
          clear hn0 hn1
          as_aux_lemma =>
          go_wp2_with fail
          go_ret
          exact ⟨by rw [HE2.out]; rfl, rfl⟩
        · have hd1 : decide (n ≤ 20000) = false := decide_eq_false hn1
          have HE3 : Hid (R = false) := Lib.hid (by rw [HE.out, decide_eq_false (fun h => hn1 h.2)]; rfl)
          clear hn0 hn1
          as_aux_lemma =>
          go_wp2_with fail
          go_ret
          exact ⟨by rw [HE3.out]; rfl, rfl⟩
      · have hd0 : decide (0 ≤ n) = false := decide_eq_false hn0
        have HE3 : Hid (R = false) := Lib.hid (by rw [HE.out, decide_eq_false (fun h => hn0 h.1)]; rfl)
        clear hn0
        as_aux_lemma =>
        go_wp2_with fail
        go_ret
        exact ⟨by rw [HE3.out]; rfl, rfl⟩
end Go.Proofs.Ytngegkgmenfelaa
