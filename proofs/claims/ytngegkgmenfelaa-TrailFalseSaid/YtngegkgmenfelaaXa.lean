/-
  The statements' helpers: among, keeps, sameInts, small, pick.
-/
import Derived.Test.YtngegkgmenfelaaVd
namespace Go.Proofs.Ytngegkgmenfelaa
open Go.RowKit Go.Lib
attribute [local go_sem ↓] Go.wp_at_zero Go.wp_at_succ

theorem take_all {xs : List Int} {q : Nat} (h : xs.length = q) : xs.take q = xs := List.take_of_length_le (by rw [h]; exact Nat.le_refl _)

/-- A row that is read, element by element. -/
theorem Reads.get {w : World} {a : Option Addr} {n c : Nat} {xs : List Int} (h : Reads w (.slice a n c) xs) {k : Nat} (hk : k < xs.length) : ∃ b off, a = some ⟨b, off, none⟩ ∧ w.cell? ⟨b, off + k, none⟩ = some (.int .i64 (xs.getD k 0)) := by
  obtain ⟨b, off, c', e, _, hc⟩ := h.resolve_left (fun h => by rw [h.2] at hk; simp at hk)
  injection e with e _ _
  exact ⟨b, off, e, hc k hk⟩

set_option maxRecDepth 100000 in
theorem among_any {w : World} {s : Value} {xs : List Int} (h : Reads w s xs) (x : Int) (hl : xs.length ≤ 1000000) :
    Calls Try.prog 36 #[s, .int .i64 x] w fun e w' => e = .returned (.bool (decide (x ∈ xs))) ∧ w' = w := by
  have H := Lib.hid h
  obtain ⟨a, cc, rfl⟩ := h.form
  obtain ⟨q, hq⟩ : ∃ q, xs.length = q := ⟨_, rfl⟩
  rw [hq] at hl H ⊢
  have HQ := Lib.hid hq
  obtain ⟨R, hR⟩ : ∃ R, decide (x ∈ xs) = R := ⟨_, rfl⟩
  rw [hR]
  have HR := Lib.hid hR
  clear h hq hR
  go_enter Try.func36, Try.ntmps36
  go_wp2_with fail
  as_aux_lemma =>
  go_loop [4, 5] (fun _ v5 => ∃ k : Nat, k ≤ q ∧ v5 = .int .i64 k ∧ Hid (∀ y ∈ xs.take k, y ≠ x)) (fun _ v5 => q - (intOf v5).toNat)
  case atStart => exact ⟨0, Nat.zero_le _, rfl, Lib.hid fun y hy => by rw [List.take_zero] at hy; cases hy⟩
  case round =>
    obtain ⟨k, hk, rfl, HF⟩ := hrel
    by_cases hlt : k < q
    · have hkx : k < xs.length := by rw [HQ.out]; exact hlt
      obtain ⟨b, off, rfl, ck⟩ := H.out.get hkx
      have HTS := Lib.hid (take_snoc hkx)
      have HM := Lib.hid (mem_getD (d := 0) hkx)
      have hk1 : (k : Int) < (q : Int) := by omega
      have hk0 : (0 : Int) ≤ (k : Int) := by omega
      clear hkx
      by_cases he : xs.getD k 0 = x
      · rw [he] at ck
        have HE : Hid (R = true) := Lib.hid (by rw [← HR.out]; exact decide_eq_true (by rw [← he]; exact HM.out))
        clear he
        as_aux_lemma =>
        go_wp2_with fail
        go_ret
        exact ⟨by rw [HE.out]; rfl, rfl⟩
      · have hd : (xs.getD k 0 == x) = false := by simpa using he
        have HN : Hid (∀ y ∈ xs.take (k + 1), y ≠ x) := Lib.hid fun y hy => by
          rw [HTS.out] at hy
          rcases List.mem_append.1 hy with hy | hy
          · exact HF.out y hy
          · obtain rfl := List.mem_singleton.1 hy
            exact he
        generalize xs.getD k 0 = y at *
        clear he HF
        as_aux_lemma =>
        go_wp2_with fail
        go_round
        case rel => exact ⟨k + 1, by omega, by go_num, HN⟩
        case measure => simp [intOf]; omega
    · obtain rfl : k = q := by omega
      have HE : Hid (R = false) := Lib.hid (by
        rw [← HR.out]
        refine decide_eq_false fun hx => ?_
        have := HF.out
        rw [take_all HQ.out] at this
        exact this x hx rfl)
      clear HF
      as_aux_lemma =>
      go_wp2_with fail
      go_ret
      exact ⟨by rw [HE.out]; rfl, rfl⟩

def keepsB (xs ys : List Int) : Bool := decide (∀ x ∈ xs, x ∈ ys)
set_option maxRecDepth 100000 in
theorem keeps_any {w : World} {s u : Value} {xs ys : List Int} (h : Reads w s xs) (hy : Reads w u ys) (hl : xs.length ≤ 1000000) (hly : ys.length ≤ 1000000) :
    Calls Try.prog 16 #[s, u] w fun e w' => e = .returned (.bool (keepsB xs ys)) ∧ w' = w := by
  have H := Lib.hid h
  have HA := Lib.hid (fun x => among_any hy x hly)
  obtain ⟨a, cc, rfl⟩ := h.form
  obtain ⟨ua, uc, rfl⟩ := hy.form
  obtain ⟨q, hq⟩ : ∃ q, xs.length = q := ⟨_, rfl⟩
  rw [hq] at hl H ⊢
  generalize ys.length = uq at *
  have HQ := Lib.hid hq
  obtain ⟨R, hR⟩ : ∃ R, keepsB xs ys = R := ⟨_, rfl⟩
  rw [hR]
  have HR := Lib.hid hR
  clear h hq hR hy hly
  go_enter Try.func16, Try.ntmps16
  go_wp2_with fail
  as_aux_lemma =>
  go_loop [4, 5] (fun _ v5 => ∃ k : Nat, k ≤ q ∧ v5 = .int .i64 k ∧ Hid (∀ y ∈ xs.take k, y ∈ ys)) (fun _ v5 => q - (intOf v5).toNat)
  case atStart => exact ⟨0, Nat.zero_le _, rfl, Lib.hid fun y hy => by rw [List.take_zero] at hy; cases hy⟩
  case round =>
    obtain ⟨k, hk, rfl, HF⟩ := hrel
    by_cases hlt : k < q
    · have hkx : k < xs.length := by rw [HQ.out]; exact hlt
      obtain ⟨b, off, rfl, ck⟩ := H.out.get hkx
      have HTS := Lib.hid (take_snoc hkx)
      have HM := Lib.hid (mem_getD (d := 0) hkx)
      have HC := Lib.hid (HA.out (xs.getD k 0))
      have hk1 : (k : Int) < (q : Int) := by omega
      have hk0 : (0 : Int) ≤ (k : Int) := by omega
      clear hkx HA
      by_cases he : xs.getD k 0 ∈ ys
      · rw [decide_eq_true he] at HC
        have HN : Hid (∀ y ∈ xs.take (k + 1), y ∈ ys) := Lib.hid fun y hy => by
          rw [HTS.out] at hy
          rcases List.mem_append.1 hy with hy | hy
          · exact HF.out y hy
          · obtain rfl := List.mem_singleton.1 hy
            exact he
        generalize xs.getD k 0 = y at *
        clear he HF
        as_aux_lemma =>
        go_wp2_with (go_at_call 36; refine HC.out.mono ?_; rintro e w' ⟨rfl, hw⟩; obtain rfl := hw.symm)
        go_round
        case rel => exact ⟨k + 1, by omega, by go_num, HN⟩
        case measure => simp [intOf]; omega
      · rw [decide_eq_false he] at HC
        have HE : Hid (R = false) := Lib.hid (by rw [← HR.out]; exact decide_eq_false fun h => he (h _ HM.out))
        generalize xs.getD k 0 = y at *
        clear he HF
        as_aux_lemma =>
        go_wp2_with (go_at_call 36; refine HC.out.mono ?_; rintro e w' ⟨rfl, hw⟩; obtain rfl := hw.symm)
        go_ret
        exact ⟨by rw [HE.out]; rfl, rfl⟩
    · obtain rfl : k = q := by omega
      have HE : Hid (R = true) := Lib.hid (by
        rw [← HR.out]
        refine decide_eq_true ?_
        have := HF.out
        rw [take_all HQ.out] at this
        exact this)
      clear HF
      as_aux_lemma =>
      go_wp2_with fail
      go_ret
      exact ⟨by rw [HE.out]; rfl, rfl⟩

set_option maxRecDepth 100000 in
theorem sameInts_any {w : World} {s u : Value} {xs ys : List Int} (h : Reads w s xs) (hy : Reads w u ys) (hl : xs.length ≤ 1000000) (hly : ys.length ≤ 1000000) :
    Calls Try.prog 15 #[s, u] w fun e w' => e = .returned (.bool (decide (xs = ys))) ∧ Below w.heap.size w w' := by
  have H := Lib.hid h
  have HY := Lib.hid hy
  obtain ⟨a, cc, rfl⟩ := h.form
  obtain ⟨ua, uc, rfl⟩ := hy.form
  obtain ⟨q, hq⟩ : ∃ q, xs.length = q := ⟨_, rfl⟩
  obtain ⟨uq, huq⟩ : ∃ uq, ys.length = uq := ⟨_, rfl⟩
  rw [hq] at hl H ⊢
  rw [huq] at hly HY ⊢
  have HQ := Lib.hid hq
  have HUQ := Lib.hid huq
  obtain ⟨R, hR⟩ : ∃ R, decide (xs = ys) = R := ⟨_, rfl⟩
  rw [hR]
  have HR := Lib.hid hR
  clear h hq hR hy huq
  by_cases hne : q = uq
  · subst hne
    go_enter Try.func15, Try.ntmps15
    go_wp2_with fail
    as_aux_lemma =>
    go_loopw [4, 5] (fun _ v5 wr => ∃ k : Nat, k ≤ q ∧ v5 = .int .i64 k ∧ Hid (xs.take k = ys.take k) ∧ Hid (Below w.heap.size w wr)) (fun _ v5 _ => q - (intOf v5).toNat)
    case atStart => exact ⟨0, Nat.zero_le _, rfl, Lib.hid (by rw [List.take_zero, List.take_zero]), Lib.hid (Below.refl _ _)⟩
    case round =>
      obtain ⟨k, hk, rfl, HF, HB⟩ := hrel
      by_cases hlt : k < q
      · have hkx : k < xs.length := by rw [HQ.out]; exact hlt
        have hky : k < ys.length := by rw [HUQ.out]; exact hlt
        obtain ⟨b, off, rfl, ck⟩ := (H.out.below HB.out (Nat.le_refl _)).get hkx
        obtain ⟨ub, uoff, rfl, cy⟩ := (HY.out.below HB.out (Nat.le_refl _)).get hky
        have HTS := Lib.hid (take_snoc hkx)
        have HTY := Lib.hid (take_snoc hky)
        have HGET : Hid (xs = ys → xs.getD k 0 = ys.getD k 0) := Lib.hid fun h => by rw [h]
        have hk1 : (k : Int) < (q : Int) := by omega
        have hk0 : (0 : Int) ≤ (k : Int) := by omega
        clear hkx hky
        by_cases he : xs.getD k 0 = ys.getD k 0
        · have HN : Hid (xs.take (k + 1) = ys.take (k + 1)) := Lib.hid (by rw [HTS.out, HTY.out, HF.out, he])
          have hd : (xs.getD k 0 != ys.getD k 0) = false := by simpa using he
          generalize xs.getD k 0 = y at *
          generalize ys.getD k 0 = z at *
          clear he HF
          as_aux_lemma =>
          go_wp2_with fail
          go_quiet (fail)
          go_wp2_with fail
          go_roundw
          case rel => exact ⟨k + 1, by omega, by go_num, HN, Lib.hid (Below.drewN HB.out _)⟩
          case measure => simp [intOf]; omega
        · have hd : (xs.getD k 0 != ys.getD k 0) = true := by simpa using he
          have HE : Hid (R = false) := Lib.hid (by rw [← HR.out]; exact decide_eq_false fun h => he (HGET.out h))
          generalize xs.getD k 0 = y at *
          generalize ys.getD k 0 = z at *
          clear he HF
          as_aux_lemma =>
          go_wp2_with fail
          go_quiet (fail)
          go_wp2_with fail
          go_ret
          exact ⟨by rw [HE.out]; rfl, Below.drewN HB.out _⟩
      · obtain rfl : k = q := by omega
        have HE : Hid (R = true) := Lib.hid (by
          rw [← HR.out]
          refine decide_eq_true ?_
          have := HF.out
          rw [take_all HQ.out, take_all HUQ.out] at this
          exact this)
        clear HF
        as_aux_lemma =>
        go_wp2_with fail
        go_ret
        exact ⟨by rw [HE.out]; rfl, HB.out⟩
  · have hd : ((q : Int) != (uq : Int)) = true := by simp; omega
    have HE : Hid (R = false) := Lib.hid (by rw [← HR.out]; exact decide_eq_false fun h => hne (by rw [← HQ.out, ← HUQ.out, h]))
    clear hne
    go_enter Try.func15, Try.ntmps15
    go_wp2_with fail
    go_ret
    exact ⟨by rw [HE.out]; rfl, Below.refl _ _⟩
end Go.Proofs.Ytngegkgmenfelaa
