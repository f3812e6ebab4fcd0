/-
  clause.unit.
-/
import Derived.Test.YtngegkgmenfelaaUb
namespace Go.Proofs.Ytngegkgmenfelaa
open Go.RowKit Go.Lib
attribute [local go_sem ↓] Go.wp_at_zero Go.wp_at_succ

def unitGo (A : List Int) : List Int → Int → Int
  | [], x => x
  | y :: c, x => if litA A y = 1 ∨ (litA A y = 0 ∧ x ≠ 0 ∧ x ≠ y) then 0 else if litA A y = 0 then unitGo A c y else unitGo A c x

set_option maxRecDepth 100000 in
theorem unit_any {w : World} {s t : Value} {c A : List Int} (h : Reads w s c) (hA : Reads w t A) (h3 : Three A) (hl : A.length ≤ 20000) (hc : c.length ≤ 20000) (hx : ∀ x ∈ c, In64 x) :
    Calls Try.prog 55 #[s, t] w fun e w' => e = .returned (.int .i64 (unitGo A c 0)) ∧ w' = w := by
  obtain ⟨R, hR⟩ : ∃ R, unitGo A c 0 = R := ⟨_, rfl⟩
  rw [hR]
  have H := Lib.hid h
  have HL : Hid (∀ x, In64 x → Calls Try.prog 65 #[.int .i64 x, t] w fun e w' => e = .returned (.int .i64 (litA A x)) ∧ w' = w) := Lib.hid fun x hx => lit_any hA h3 hl x hx
  obtain ⟨a, cc, rfl⟩ := h.form
  obtain ⟨ta, tc, rfl⟩ := hA.form
  obtain ⟨q, hq⟩ : ∃ q, c.length = q := ⟨_, rfl⟩
  have HX := Lib.hid hx
  have H3 := Lib.hid h3
  rw [hq] at hc H ⊢
  have HQ := Lib.hid hq
  have HR := Lib.hid hR
  generalize A.length = al at *
  clear h hA hx hq h3 hR
  go_enter Try.func55, Try.ntmps55
  go_wp2_with fail
  go_loop [4, 5, 11] (fun _ v5 v11 => ∃ (k : Nat) (x : Int), k ≤ q ∧ v11 = .int .i64 k ∧ v5 = .int .i64 x ∧ Hid (unitGo A (c.drop k) x = R)) (fun _ _ v11 => q - (intOf v11).toNat)
  case atStart => exact ⟨0, 0, Nat.zero_le _, rfl, rfl, HR⟩
  case round =>
    obtain ⟨k, x, hk, rfl, rfl, HG⟩ := hrel
    by_cases hlt : k < q
    · obtain ⟨b, off, c', e, _, hcc⟩ := H.out.resolve_left (fun h => by have := HQ.out; rw [h.2] at this; simp at this; omega)
      injection e with e1 n1 n2
      subst e1
      clear n1 n2
      have hkc : k < c.length := by rw [HQ.out]; exact hlt
      have ck := hcc k hkc
      have HLK := Lib.hid (HL.out _ (HX.out _ (mem_getD (d := 0) hkc)))
      have a2 := litA_three H3.out (c.getD k 0)
      have hg := HG.out
      rw [drop_cons hkc] at hg
      unfold unitGo at hg
      generalize litA A (c.getD k 0) = v at *
      generalize c.getD k 0 = y at *
      have HGO := Lib.hid hg
      clear hcc hkc hg HG
      rcases a2 with rfl | rfl | rfl
      · have HN : Hid (unitGo A (c.drop (k + 1)) x = R) := Lib.hid (by have := HGO.out; rw [if_neg (by omega), if_neg (by omega)] at this; exact this)
        go_wp2_with (go_at_call 65; refine HLK.out.mono ?_; rintro e w' ⟨rfl, rfl⟩)
        go_round
        case rel => exact ⟨k + 1, x, by omega, by go_num, rfl, HN⟩
        case measure => simp [intOf]; omega
      · by_cases hx0 : x = 0
        · subst hx0
          have HN : Hid (unitGo A (c.drop (k + 1)) y = R) := Lib.hid (by have := HGO.out; rw [if_neg (by simp), if_pos rfl] at this; exact this)
          go_wp2_with (go_at_call 65; refine HLK.out.mono ?_; rintro e w' ⟨rfl, rfl⟩)
          go_round
          case rel => exact ⟨k + 1, y, by omega, by go_num, rfl, HN⟩
          case measure => simp [intOf]; omega
        · have hb : (x != 0) = true := by simpa using hx0
          by_cases hxy : x = y
          · subst hxy
            have HN : Hid (unitGo A (c.drop (k + 1)) x = R) := Lib.hid (by have := HGO.out; rw [if_neg (by simp), if_pos rfl] at this; exact this)
            clear hx0
            go_wp2_with (go_at_call 65; refine HLK.out.mono ?_; rintro e w' ⟨rfl, rfl⟩)
            go_round
            case rel => exact ⟨k + 1, x, by omega, by go_num, rfl, HN⟩
            case measure => simp [intOf]; omega
          · have hb2 : (x != y) = true := by simpa using hxy
            have HN : Hid (0 = R) := Lib.hid (by have := HGO.out; rw [if_pos (.inr ⟨rfl, hx0, hxy⟩)] at this; exact this)
            clear hx0 hxy
            go_wp2_with (go_at_call 65; refine HLK.out.mono ?_; rintro e w' ⟨rfl, rfl⟩)
            go_ret
            exact ⟨by rw [← HN.out]; rfl, rfl⟩
      · have HN : Hid (0 = R) := Lib.hid (by have := HGO.out; rw [if_pos (.inl rfl)] at this; exact this)
        go_wp2_with (go_at_call 65; refine HLK.out.mono ?_; rintro e w' ⟨rfl, rfl⟩)
        go_ret
        exact ⟨by rw [← HN.out]; rfl, rfl⟩
    · obtain rfl : k = q := by omega
      have HN : Hid (x = R) := Lib.hid (by have := HG.out; rw [List.drop_of_length_le (by rw [HQ.out]; exact Nat.le_refl _)] at this; exact this)
      go_wp2_with fail
      go_ret
      exact ⟨by rw [← HN.out]; rfl, rfl⟩
end Go.Proofs.Ytngegkgmenfelaa
