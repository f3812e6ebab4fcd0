/-
  clause.Value.
-/
import Derived.Test.YtngegkgmenfelaaUa
namespace Go.Proofs.Ytngegkgmenfelaa
open Go.RowKit Go.Lib
attribute [local go_sem ↓] Go.wp_at_zero Go.wp_at_succ

theorem litA_three {A : List Int} (h : Three A) (x : Int) : litA A x = -1 ∨ litA A x = 0 ∨ litA A x = 1 := by
  unfold litA
  split
  · rename_i hk
    have hk' : 1 ≤ x.natAbs ∧ x.natAbs ≤ A.length := of_decide_eq_true hk
    have := h _ (mem_getD (d := 0) (show x.natAbs - 1 < A.length by omega))
    split <;> omega
  · omega
def valC (A : List Int) (c : List Int) : Int := c.foldl (fun n x => max n (litA A x)) (-1)
theorem valC_snoc (A c : List Int) (x : Int) : valC A (c ++ [x]) = max (valC A c) (litA A x) := by unfold valC; rw [List.foldl_append]; rfl
theorem valC_three {A : List Int} (h : Three A) (c : List Int) : valC A c = -1 ∨ valC A c = 0 ∨ valC A c = 1 := by
  have key : ∀ (c : List Int) (n : Int), (n = -1 ∨ n = 0 ∨ n = 1) → (c.foldl (fun n x => max n (litA A x)) n = -1 ∨ c.foldl (fun n x => max n (litA A x)) n = 0 ∨ c.foldl (fun n x => max n (litA A x)) n = 1) := by
    intro c
    induction c with
    | nil => intro n hn; exact hn
    | cons x c ih => intro n hn; have := litA_three h x; exact ih _ (show max n (litA A x) = -1 ∨ max n (litA A x) = 0 ∨ max n (litA A x) = 1 by omega)
  exact key c (-1) (.inl rfl)

set_option maxRecDepth 100000 in
theorem Value_cl {w : World} {s t : Value} {c A : List Int} (h : Reads w s c) (hA : Reads w t A) (h3 : Three A) (hl : A.length ≤ 20000) (hc : c.length ≤ 20000) (hx : ∀ x ∈ c, In64 x) :
    Calls Try.prog 56 #[s, t] w fun e w' => e = .returned (.int .i64 (valC A c)) ∧ w' = w := by
  have H := Lib.hid h
  have HL : Hid (∀ x, In64 x → Calls Try.prog 65 #[.int .i64 x, t] w fun e w' => e = .returned (.int .i64 (litA A x)) ∧ w' = w) := Lib.hid fun x hx => lit_any hA h3 hl x hx
  obtain ⟨a, cc, rfl⟩ := h.form
  obtain ⟨ta, tc, rfl⟩ := hA.form
  obtain ⟨q, hq⟩ : ∃ q, c.length = q := ⟨_, rfl⟩
  have HX := Lib.hid hx
  have H3 := Lib.hid h3
  rw [hq] at hc H ⊢
  have HQ := Lib.hid hq
  generalize A.length = al at *
  clear h hA hx hq h3
  go_enter Try.func56, Try.ntmps56
  go_wp2_with fail
  go_loop [5, 10] (fun v5 v10 => ∃ k : Nat, k ≤ q ∧ v10 = .int .i64 k ∧ v5 = .int .i64 (valC A (c.take k))) (fun _ v10 => q - (intOf v10).toNat)
  case atStart => exact ⟨0, Nat.zero_le _, rfl, rfl⟩
  case round =>
    obtain ⟨k, hk, rfl, rfl⟩ := hrel
    by_cases hlt : k < q
    · obtain ⟨b, off, c', e, _, hcc⟩ := H.out.resolve_left (fun h => by have := HQ.out; rw [h.2] at this; simp at this; omega)
      injection e with e1 n1 n2
      subst e1
      clear n1 n2
      have hkc : k < c.length := by rw [HQ.out]; exact hlt
      have ck := hcc k hkc
      have HLK := Lib.hid (HL.out _ (HX.out _ (mem_getD (d := 0) hkc)))
      have HT : Hid (valC A (c.take (k + 1)) = max (valC A (c.take k)) (litA A (c.getD k 0))) := Lib.hid (by
        rw [List.take_succ_eq_append_getElem hkc, valC_snoc, List.getD_eq_getElem?_getD, List.getElem?_eq_getElem hkc, Option.getD_some])
      have a1 := valC_three H3.out (c.take k)
      have a2 := litA_three H3.out (c.getD k 0)
      generalize litA A (c.getD k 0) = v at *
      generalize c.getD k 0 = x at *
      generalize valC A (c.take k) = u at *
      have b1 : -1 ≤ u := by omega
      have b2 : u ≤ 1 := by omega
      have b3 : -1 ≤ v := by omega
      have b4 : v ≤ 1 := by omega
      clear hcc hkc a1 a2
      by_cases hle : u ≤ v
      · have hm : max u v = v := Int.max_eq_right hle
        rw [hm] at HT
        clear hm
        go_wp2_with (go_at_call 65; refine HLK.out.mono ?_; rintro e w' ⟨rfl, rfl⟩)
        go_round
        case rel => exact ⟨k + 1, by omega, by go_num, by (rw [HT.out]; try (first | rfl | go_num | (simp; omega)))⟩
        case measure => simp [intOf]; omega
      · have hm : max u v = u := Int.max_eq_left (by omega)
        rw [hm] at HT
        clear hm
        have hlt2 : v < u := by omega
        go_wp2_with (go_at_call 65; refine HLK.out.mono ?_; rintro e w' ⟨rfl, rfl⟩)
        go_round
        case rel => exact ⟨k + 1, by omega, by go_num, by (rw [HT.out]; try (first | rfl | go_num | (simp; omega)))⟩
        case measure => simp [intOf]; omega
    · obtain rfl : k = q := by omega
      have HT : Hid (c.take k = c) := Lib.hid (List.take_of_length_le (by rw [HQ.out]; exact Nat.le_refl _))
      go_wp2_with fail
      go_ret
      exact ⟨by rw [HT.out]; rfl, rfl⟩
end Go.Proofs.Ytngegkgmenfelaa
