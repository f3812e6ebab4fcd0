/-
  cmp.Compare at 0; clause.lit.
-/
import Derived.Test.YtngegkgmenfelaaWt
namespace Go.Proofs.Ytngegkgmenfelaa
open Go.RowKit Go.Lib
attribute [local go_sem ↓] Go.wp_at_zero Go.wp_at_succ

def sig (x : Int) : Int := if x < 0 then -1 else if x = 0 then 0 else 1
theorem isNaN_any (x : Int) (w : World) : Calls Try.prog 69 #[.int .i64 x] w fun e w' => e = .returned (.bool false) ∧ w' = w := by
  go_enter Try.func69, Try.ntmps69
  go_wp2_with fail
  go_ret
  exact ⟨by simp, rfl⟩
theorem cmp_any (x : Int) (w : World) : Calls Try.prog 66 #[.int .i64 x, .int .i64 0] w fun e w' => e = .returned (.int .i64 (sig x)) ∧ w' = w := by
  have HN := Lib.hid isNaN_any
  unfold sig
  by_cases h : x < 0
  · rw [if_pos h]
    go_enter Try.func66, Try.ntmps66
    go_wp2_with (go_at_call 69; refine (HN.out _ _).mono ?_; rintro e w' ⟨rfl, rfl⟩)
    go_ret
    exact ⟨rfl, rfl⟩
  · rw [if_neg h]
    by_cases h0 : x = 0
    · subst h0
      rw [if_pos rfl]
      go_enter Try.func66, Try.ntmps66
      go_wp2_with (go_at_call 69; refine (HN.out _ _).mono ?_; rintro e w' ⟨rfl, rfl⟩)
      go_ret
      exact ⟨rfl, rfl⟩
    · rw [if_neg h0]
      have hp : 0 < x := by omega
      clear h h0
      go_enter Try.func66, Try.ntmps66
      go_wp2_with (go_at_call 69; refine (HN.out _ _).mono ?_; rintro e w' ⟨rfl, rfl⟩)
      go_ret
      exact ⟨rfl, rfl⟩

/-- An assignment's numbers. -/
def Three (A : List Int) : Prop := ∀ a ∈ A, a = -1 ∨ a = 0 ∨ a = 1
def litA (A : List Int) (x : Int) : Int := if okLit x A.length then (if x < 0 then -(A.getD (x.natAbs - 1) 0) else A.getD (x.natAbs - 1) 0) else 0

set_option maxRecDepth 100000 in
theorem lit_any {w : World} {s : Value} {A : List Int} (h : Reads w s A) (hA : Three A) (hl : A.length ≤ 20000) (x : Int) (hx : In64 x) :
    Calls Try.prog 65 #[.int .i64 x, s] w fun e w' => e = .returned (.int .i64 (litA A x)) ∧ w' = w := by
  have HV := Lib.hid (variable_any x A.length w hx (by omega))
  have HC := Lib.hid cmp_any
  unfold litA
  unfold varI at HV
  obtain ⟨a, c, e0⟩ := h.form
  cases hok : okLit x A.length with
  | false =>
    rw [hok] at HV
    simp only [Bool.false_eq_true, if_false] at HV ⊢
    subst e0
    generalize A.length = q at *
    clear h hA hx hok
    go_enter Try.func65, Try.ntmps65
    go_wp2_with (go_at_call 53; refine HV.out.mono ?_; rintro e w' ⟨rfl, rfl⟩)
    go_ret
    exact ⟨rfl, rfl⟩
  | true =>
    rw [hok] at HV
    simp only [if_true] at HV ⊢
    have hok' : 1 ≤ x.natAbs ∧ x.natAbs ≤ A.length := of_decide_eq_true hok
    obtain ⟨m, hm⟩ : ∃ m, x.natAbs = m + 1 := ⟨x.natAbs - 1, by omega⟩
    rcases h with ⟨_, hA0⟩ | ⟨b, off, c', e1, hb, hc⟩
    · rw [hA0] at hok'; simp at hok'; omega
    · rw [e0] at e1
      injection e1 with e1 _ _
      subst e1
      subst e0
      have cm := hc m (by omega)
      have hv := hA _ (mem_getD (d := 0) (show m < A.length by omega))
      rw [hm, Nat.add_sub_cancel]
      rw [hm] at HV
      generalize A.getD m 0 = v at *
      obtain ⟨q, hq⟩ : ∃ q, A.length = q := ⟨_, rfl⟩
      rw [hq] at HV hok' hl ⊢
      have hsv : sig v = v := by unfold sig; split; omega; split <;> omega
      have HCV : Hid (∀ w, Calls Try.prog 66 #[.int .i64 v, .int .i64 0] w fun e w' => e = .returned (.int .i64 v) ∧ w' = w) := Lib.hid fun w => by have := HC.out v w; rw [hsv] at this; exact this
      have hmq : (m : Int) < (q : Int) := by omega
      have hm0 : (0 : Int) ≤ (m : Int) := by omega
      have hv1 : -1 ≤ v := by omega
      have hv2 : v ≤ 1 := by omega
      have hm1 : ((m + 1 : Nat) : Int) = (m : Int) + 1 := by omega
      rw [hm1] at HV
      have hmb : m ≤ 20000 := by omega
      have hwv : wrap64 (-v) = -v := by unfold wrap64; omega
      by_cases hneg : x < 0
      · rw [if_pos hneg]
        have hd : decide (x < 0) = true := decide_eq_true hneg
        clear hc hb hA hx hok hok' hm hv hq hsv HC hm1
        go_enter Try.func65, Try.ntmps65
        go_wp2_with (first | (go_at_call 53; refine HV.out.mono ?_; rintro e w' ⟨rfl, rfl⟩) | (go_at_call 66; refine (HCV.out _).mono ?_; rintro e w' ⟨rfl, rfl⟩))
        go_ret
        exact ⟨rfl, rfl⟩
      · rw [if_neg hneg]
        have hd : decide (x < 0) = false := decide_eq_false hneg
        clear hc hb hA hx hok hok' hm hv hq hsv HC hm1
        go_enter Try.func65, Try.ntmps65
        go_wp2_with (first | (go_at_call 53; refine HV.out.mono ?_; rintro e w' ⟨rfl, rfl⟩) | (go_at_call 66; refine (HCV.out _).mono ?_; rintro e w' ⟨rfl, rfl⟩))
        go_ret
        exact ⟨rfl, rfl⟩
end Go.Proofs.Ytngegkgmenfelaa

/-
  clause.Value.
-/
namespace Go.Proofs.Ytngegkgmenfelaa
open Go.RowKit Go.Lib
attribute [local go_sem ↓] Go.wp_at_zero Go.wp_at_succ

theorem litA_three {A : List Int} (h : Three A) (x : Int) : litA A x = -1 ∨ litA A x = 0 ∨ litA A x = 1 := by
  unfold litA
  split
  · rename_i hk
    have hk' : 1 ≤ x.natAbs ∧ x.natAbs ≤ A.length := of_decide_eq_true hk
    have := h _ (mem_getD (d := 0) (show x.natAbs - 1 < A.length by omega))
    split <;> omega
  · omega
def valC (A : List Int) (c : List Int) : Int := c.foldl (fun n x => max n (litA A x)) (-1)
theorem valC_snoc (A c : List Int) (x : Int) : valC A (c ++ [x]) = max (valC A c) (litA A x) := by unfold valC; rw [List.foldl_append]; rfl
theorem valC_three {A : List Int} (h : Three A) (c : List Int) : valC A c = -1 ∨ valC A c = 0 ∨ valC A c = 1 := by
  have key : ∀ (c : List Int) (n : Int), (n = -1 ∨ n = 0 ∨ n = 1) → (c.foldl (fun n x => max n (litA A x)) n = -1 ∨ c.foldl (fun n x => max n (litA A x)) n = 0 ∨ c.foldl (fun n x => max n (litA A x)) n = 1) := by
    intro c
    induction c with
    | nil => intro n hn; exact hn
    | cons x c ih => intro n hn; have := litA_three h x; exact ih _ (show max n (litA A x) = -1 ∨ max n (litA A x) = 0 ∨ max n (litA A x) = 1 by omega)
  exact key c (-1) (.inl rfl)

set_option maxRecDepth 100000 in
theorem Value_cl {w : World} {s t : Value} {c A : List Int} (h : Reads w s c) (hA : Reads w t A) (h3 : Three A) (hl : A.length ≤ 20000) (hc : c.length ≤ 20000) (hx : ∀ x ∈ c, In64 x) :
    Calls Try.prog 56 #[s, t] w fun e w' => e = .returned (.int .i64 (valC A c)) ∧ w' = w := by
  have H := Lib.hid h
  have HL : Hid (∀ x, In64 x → Calls Try.prog 65 #[.int .i64 x, t] w fun e w' => e = .returned (.int .i64 (litA A x)) ∧ w' = w) := Lib.hid fun x hx => lit_any hA h3 hl x hx
  obtain ⟨a, cc, rfl⟩ := h.form
  obtain ⟨ta, tc, rfl⟩ := hA.form
  obtain ⟨q, hq⟩ : ∃ q, c.length = q := ⟨_, rfl⟩
  have HX := Lib.hid hx
  have H3 := Lib.hid h3
  rw [hq] at hc H ⊢
  have HQ := Lib.hid hq
  generalize A.length = al at *
  clear h hA hx hq h3
  go_enter Try.func56, Try.ntmps56
  go_wp2_with fail
  go_loop [5, 10] (fun v5 v10 => ∃ k : Nat, k ≤ q ∧ v10 = .int .i64 k ∧ v5 = .int .i64 (valC A (c.take k))) (fun _ v10 => q - (intOf v10).toNat)
  case atStart => exact ⟨0, Nat.zero_le _, rfl, rfl⟩
  case round =>
    obtain ⟨k, hk, rfl, rfl⟩ := hrel
    by_cases hlt : k < q
    · obtain ⟨b, off, c', e, _, hcc⟩ := H.out.resolve_left (fun h => by have := HQ.out; rw [h.2] at this; simp at this; omega)
      injection e with e1 n1 n2
      subst e1
      clear n1 n2
      have hkc : k < c.length := by rw [HQ.out]; exact hlt
      have ck := hcc k hkc
      have HLK := Lib.hid (HL.out _ (HX.out _ (mem_getD (d := 0) hkc)))
      have HT : Hid (valC A (c.take (k + 1)) = max (valC A (c.take k)) (litA A (c.getD k 0))) := Lib.hid (by
        rw [List.take_succ_eq_append_getElem hkc, valC_snoc, List.getD_eq_getElem?_getD, List.getElem?_eq_getElem hkc, Option.getD_some])
      have a1 := valC_three H3.out (c.take k)
      have a2 := litA_three H3.out (c.getD k 0)
      generalize litA A (c.getD k 0) = v at *
      generalize c.getD k 0 = x at *
      generalize valC A (c.take k) = u at *
      have b1 : -1 ≤ u := by omega
      have b2 : u ≤ 1 := by omega
      have b3 : -1 ≤ v := by omega
      have b4 : v ≤ 1 := by omega
      clear hcc hkc a1 a2
      by_cases hle : u ≤ v
      · have hm : max u v = v := Int.max_eq_right hle
        rw [hm] at HT
        clear hm
        go_wp2_with (go_at_call 65; refine HLK.out.mono ?_; rintro e w' ⟨rfl, rfl⟩)
        go_round
        case rel => exact ⟨k + 1, by omega, by go_num, by (rw [HT.out]; try (first | rfl | go_num | (simp; omega)))⟩
        case measure => simp [intOf]; omega
      · have hm : max u v = u := Int.max_eq_left (by omega)
        rw [hm] at HT
        clear hm
        have hlt2 : v < u := by omega
        go_wp2_with (go_at_call 65; refine HLK.out.mono ?_; rintro e w' ⟨rfl, rfl⟩)
        go_round
        case rel => exact ⟨k + 1, by omega, by go_num, by (rw [HT.out]; try (first | rfl | go_num | (simp; omega)))⟩
        case measure => simp [intOf]; omega
    · obtain rfl : k = q := by omega
      have HT : Hid (c.take k = c) := Lib.hid (List.take_of_length_le (by rw [HQ.out]; exact Nat.le_refl _))
      go_wp2_with fail
      go_ret
      exact ⟨by rw [HT.out]; rfl, rfl⟩
end Go.Proofs.Ytngegkgmenfelaa

/-
  clause.unit.
-/
namespace Go.Proofs.Ytngegkgmenfelaa
open Go.RowKit Go.Lib
attribute [local go_sem ↓] Go.wp_at_zero Go.wp_at_succ

def unitGo (A : List Int) : List Int → Int → Int
  | [], x => x
  | y :: c, x => if litA A y = 1 ∨ (litA A y = 0 ∧ x ≠ 0 ∧ x ≠ y) then 0 else if litA A y = 0 then unitGo A c y else unitGo A c x

set_option maxRecDepth 100000 in
theorem unit_any {w : World} {s t : Value} {c A : List Int} (h : Reads w s c) (hA : Reads w t A) (h3 : Three A) (hl : A.length ≤ 20000) (hc : c.length ≤ 20000) (hx : ∀ x ∈ c, In64 x) :
    Calls Try.prog 55 #[s, t] w fun e w' => e = .returned (.int .i64 (unitGo A c 0)) ∧ w' = w := by
  obtain ⟨R, hR⟩ : ∃ R, unitGo A c 0 = R := ⟨_, rfl⟩
  rw [hR]
  have H := Lib.hid h
  have HL : Hid (∀ x, In64 x → Calls Try.prog 65 #[.int .i64 x, t] w fun e w' => e = .returned (.int .i64 (litA A x)) ∧ w' = w) := Lib.hid fun x hx => lit_any hA h3 hl x hx
  obtain ⟨a, cc, rfl⟩ := h.form
  obtain ⟨ta, tc, rfl⟩ := hA.form
  obtain ⟨q, hq⟩ : ∃ q, c.length = q := ⟨_, rfl⟩
  have HX := Lib.hid hx
  have H3 := Lib.hid h3
  rw [hq] at hc H ⊢
  have HQ := Lib.hid hq
  have HR := Lib.hid hR
  generalize A.length = al at *
  clear h hA hx hq h3 hR
  go_enter Try.func55, Try.ntmps55
  go_wp2_with fail
  go_loop [4, 5, 11] (fun _ v5 v11 => ∃ (k : Nat) (x : Int), k ≤ q ∧ v11 = .int .i64 k ∧ v5 = .int .i64 x ∧ Hid (unitGo A (c.drop k) x = R)) (fun _ _ v11 => q - (intOf v11).toNat)
  case atStart => exact ⟨0, 0, Nat.zero_le _, rfl, rfl, HR⟩
  case round =>
    obtain ⟨k, x, hk, rfl, rfl, HG⟩ := hrel
    by_cases hlt : k < q
    · obtain ⟨b, off, c', e, _, hcc⟩ := H.out.resolve_left (fun h => by have := HQ.out; rw [h.2] at this; simp at this; omega)
      injection e with e1 n1 n2
      subst e1
      clear n1 n2
      have hkc : k < c.length := by rw [HQ.out]; exact hlt
      have ck := hcc k hkc
      have HLK := Lib.hid (HL.out _ (HX.out _ (mem_getD (d := 0) hkc)))
      have a2 := litA_three H3.out (c.getD k 0)
      have hg := HG.out
      rw [drop_cons hkc] at hg
      unfold unitGo at hg
      generalize litA A (c.getD k 0) = v at *
      generalize c.getD k 0 = y at *
      have HGO := Lib.hid hg
      clear hcc hkc hg HG
      rcases a2 with rfl | rfl | rfl
      · have HN : Hid (unitGo A (c.drop (k + 1)) x = R) := Lib.hid (by have := HGO.out; rw [if_neg (by omega), if_neg (by omega)] at this; exact this)
        go_wp2_with (go_at_call 65; refine HLK.out.mono ?_; rintro e w' ⟨rfl, rfl⟩)
        go_round
        case rel => exact ⟨k + 1, x, by omega, by go_num, rfl, HN⟩
        case measure => simp [intOf]; omega
      · by_cases hx0 : x = 0
        · subst hx0
          have HN : Hid (unitGo A (c.drop (k + 1)) y = R) := Lib.hid (by have := HGO.out; rw [if_neg (by simp), if_pos rfl] at this; exact this)
          go_wp2_with (go_at_call 65; refine HLK.out.mono ?_; rintro e w' ⟨rfl, rfl⟩)
          go_round
          case rel => exact ⟨k + 1, y, by omega, by go_num, rfl, HN⟩
          case measure => simp [intOf]; omega
        · have hb : (x != 0) = true := by simpa using hx0
          by_cases hxy : x = y
          · subst hxy
            have HN : Hid (unitGo A (c.drop (k + 1)) x = R) := Lib.hid (by have := HGO.out; rw [if_neg (by simp), if_pos rfl] at this; exact this)
            clear hx0
            go_wp2_with (go_at_call 65; refine HLK.out.mono ?_; rintro e w' ⟨rfl, rfl⟩)
            go_round
            case rel => exact ⟨k + 1, x, by omega, by go_num, rfl, HN⟩
            case measure => simp [intOf]; omega
          · have hb2 : (x != y) = true := by simpa using hxy
            have HN : Hid (0 = R) := Lib.hid (by have := HGO.out; rw [if_pos (.inr ⟨rfl, hx0, hxy⟩)] at this; exact this)
            clear hx0 hxy
            go_wp2_with (go_at_call 65; refine HLK.out.mono ?_; rintro e w' ⟨rfl, rfl⟩)
            go_ret
            exact ⟨by rw [← HN.out]; rfl, rfl⟩
      · have HN : Hid (0 = R) := Lib.hid (by have := HGO.out; rw [if_pos (.inl rfl)] at this; exact this)
        go_wp2_with (go_at_call 65; refine HLK.out.mono ?_; rintro e w' ⟨rfl, rfl⟩)
        go_ret
        exact ⟨by rw [← HN.out]; rfl, rfl⟩
    · obtain rfl : k = q := by omega
      have HN : Hid (x = R) := Lib.hid (by have := HG.out; rw [List.drop_of_length_le (by rw [HQ.out]; exact Nat.le_refl _)] at this; exact this)
      go_wp2_with fail
      go_ret
      exact ⟨by rw [← HN.out]; rfl, rfl⟩
end Go.Proofs.Ytngegkgmenfelaa

/-
  clause.set.
-/
namespace Go.Proofs.Ytngegkgmenfelaa
open Go.RowKit Go.Lib
attribute [local go_sem ↓] Go.wp_at_zero Go.wp_at_succ

def setA (A : List Int) (x : Int) : List Int := A.set (x.natAbs - 1) (sgn x)
theorem sig_sgn {x : Int} (h : 1 ≤ x.natAbs) : sig x = sgn x := by unfold sig sgn; split; rfl; rw [if_neg (by omega)]

set_option maxRecDepth 100000 in
theorem set_no {w : World} {t : Value} {A : List Int} (h : Reads w t A) (h3 : Three A) (hl : A.length ≤ 20000) (x : Int) (hx : In64 x) (hn : okLit x A.length = false ∨ litA A x = -1) :
    Calls Try.prog 54 #[t, .int .i64 x] w fun e w' => e = .returned (.bool false) ∧ w' = w := by
  have HV := Lib.hid (variable_any x A.length w hx (by omega))
  have HL := Lib.hid (lit_any h h3 hl x hx)
  obtain ⟨a, c, rfl⟩ := h.form
  cases hok : okLit x A.length with
  | false =>
    have hv : varI x A.length = 0 := by unfold varI; rw [hok]; rfl
    rw [hv] at HV
    generalize A.length = q at *
    clear h hx hn hv hok
    go_enter Try.func54, Try.ntmps54
    go_wp2_with (go_at_call 53; refine HV.out.mono ?_; rintro e w' ⟨rfl, rfl⟩)
    go_ret
    exact ⟨rfl, rfl⟩
  | true =>
    have hlit : litA A x = -1 := hn.resolve_left (by rw [hok]; simp)
    rw [hlit] at HL
    have hok' : 1 ≤ x.natAbs ∧ x.natAbs ≤ A.length := of_decide_eq_true hok
    have hv : varI x A.length = ((x.natAbs : Nat) : Int) := by unfold varI; rw [hok]; rfl
    rw [hv] at HV
    generalize A.length = q at *
    obtain ⟨m, hm⟩ : ∃ m, x.natAbs = m + 1 := ⟨x.natAbs - 1, by omega⟩
    rw [hm, show ((m + 1 : Nat) : Int) = (m : Int) + 1 from by omega] at HV
    have hz : ((m : Int) + 1 == 0) = false := by simp; omega
    clear h hx hn hv hok hlit hok' hm
    go_enter Try.func54, Try.ntmps54
    go_wp2_with (first | (go_at_call 53; refine HV.out.mono ?_; rintro e w' ⟨rfl, rfl⟩) | (go_at_call 65; refine HL.out.mono ?_; rintro e w' ⟨rfl, rfl⟩))
    go_ret
    exact ⟨rfl, rfl⟩

set_option maxRecDepth 100000 in
theorem set_ok {w : World} {t : Value} {A : List Int} (hr : Row w 3 1 t (ints A)) (h3 : Three A) (hl : A.length ≤ 20000) (x : Int) (hx : In64 x) (hok : okLit x A.length = true) (hlit : litA A x ≠ -1) :
    Calls Try.prog 54 #[t, .int .i64 x] w fun e w' => ∃ g c, t = .slice (some ⟨g, 0, none⟩) A.length c ∧ e = .returned (.bool true) ∧ w' = w.setCell ⟨g, x.natAbs - 1, none⟩ (.int .i64 (sgn x)) := by
  have h := hr.reads
  have HV := Lib.hid (variable_any x A.length w hx (by omega))
  have HL := Lib.hid (lit_any h h3 hl x hx)
  have hlt := litA_three h3 x
  have hok' : 1 ≤ x.natAbs ∧ x.natAbs ≤ A.length := of_decide_eq_true hok
  have hv : varI x A.length = ((x.natAbs : Nat) : Int) := by unfold varI; rw [hok]; rfl
  rw [hv] at HV
  have HC : Hid (∀ w, Calls Try.prog 66 #[.int .i64 x, .int .i64 0] w fun e w' => e = .returned (.int .i64 (sgn x)) ∧ w' = w) := Lib.hid fun w => by rw [← sig_sgn hok'.1]; exact cmp_any x w
  obtain ⟨g, c, rfl, _, _, hg, hcc, hf⟩ := hr.at (by rw [ints_len]; omega)
  rw [ints_len] at *
  obtain ⟨m, hm⟩ : ∃ m, x.natAbs = m + 1 := ⟨x.natAbs - 1, by omega⟩
  have cm := hcc m _ (ints_at (by omega))
  have fm := hf m
  rw [hm, show ((m + 1 : Nat) : Int) = (m : Int) + 1 from by omega] at HV
  rw [hm, Nat.add_sub_cancel]
  have hz : ((m : Int) + 1 == 0) = false := by simp; omega
  obtain ⟨v, hv2⟩ : ∃ v, litA A x = v := ⟨_, rfl⟩
  rw [hv2] at HL hlit hlt
  have hv0 : 0 ≤ v := by omega
  have hv1 : v ≤ 1 := by omega
  obtain ⟨q, hq⟩ : ∃ q, A.length = q := ⟨_, rfl⟩
  rw [hq] at HV HL hl hok' ⊢
  have hmq : (m : Int) < (q : Int) := by omega
  have hm0 : (0 : Int) ≤ (m : Int) := by omega
  have hmb : m ≤ 20000 := by omega
  clear h h3 hx hok hlit hlt hv hv2 hq hcc hf hr hok' hm
  generalize sgn x = sx at *
  go_enter Try.func54, Try.ntmps54
  go_wp2_with (first | (go_at_call 53; refine HV.out.mono ?_; rintro e w' ⟨rfl, hw⟩; obtain rfl := hw.symm) | (go_at_call 65; refine HL.out.mono ?_; rintro e w' ⟨rfl, hw⟩; obtain rfl := hw.symm) | (go_at_call 66; refine (HC.out _).mono ?_; rintro e w' ⟨rfl, hw⟩; obtain rfl := hw.symm))
  go_ret
  exact ⟨g, c, rfl, rfl, rfl⟩
end Go.Proofs.Ytngegkgmenfelaa
