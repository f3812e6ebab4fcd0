/-
  RankCompares: the walk.
-/
import Derived.Test.YtbihcdjamdkinaaRw
import Derived.Test.YtbihcdjamdkinaaSh
namespace Go.Proofs.Ytbihcdjamdkinaa
open Go.RowKit Go.Lib
attribute [local go_sem ↓] Go.wp_at_zero Go.wp_at_succ

set_option maxRecDepth 100000 in
set_option maxHeartbeats 4000000 in
theorem compares_walk (a b : Int) (l : Option Addr) (len cap : Nat) (xs : List Int) (w : World) (ha : U64 a) (hb : U64 b) (hx : IsU w l len xs) (hlen : len ≤ maxLen) (hu : ∀ x ∈ xs, U64 x) :
    Calls Try.prog 3 #[.int .u64 a, .int .u64 b, .slice l len cap] w fun e w' => e = .returned (.bool true) ∧ Below w.heap.size w w' := by
  have C1 := Lib.hid (Compare_any a b)
  have C2 := Lib.hid (fun w => rCompare_any a b w ha hb)
  have HX := Lib.hid hx
  have HU := Lib.hid hu
  clear hx hu ha hb
  by_cases hbig : 300 < len
  · go_enter Try.func3, Try.ntmps3
    go_wp2_with (go_at_call 9; refine (shown_any _).mono ?_; rintro e w1 ⟨rfl, hb⟩; have B1 := Lib.hid hb; clear hb)
    go_ret
    exact ⟨rfl, B1.out⟩
  · have hsm : len ≤ 300 := by omega
    clear hbig
    go_enter Try.func3, Try.ntmps3
    go_wp2_with (first
      | (go_at_call 9; refine (shown_any _).mono ?_; rintro e w1 ⟨rfl, hb⟩; have B1 := Lib.hid hb; clear hb)
      | (go_at_call 10; refine (Order_any l len cap xs _ (by omega) (HX.out.below B1.out (Nat.le_refl _))).mono ?_; rintro e w2 ⟨v, es, rfl, h1, h2, h3, h4⟩; obtain ⟨ad1, cp1, hv1⟩ := h2.form; rw [h3] at hv1; subst hv1; have OX := Lib.hid h1; have OW := Lib.hid h2; have EL := Lib.hid h3; have B2 := Lib.hid (B1.out.trans (h4.mono B1.out.size)); clear h1 h2 h3 h4)
      | (go_at_call 11; refine (rOrder_any l len cap xs _ (by omega) (HX.out.below B2.out (Nat.le_refl _)) HU.out).mono ?_; rintro e w3 ⟨v', es', rfl, h1, h2, h3, h4⟩; obtain ⟨ad2, cp2, hv2⟩ := h2.form; rw [h3] at hv2; subst hv2; obtain rfl := OX.out.one h1; have OW2 := Lib.hid h2; have OW3 := Lib.hid (OW.out.below h4 (Nat.le_refl _)); have B3 := Lib.hid (B2.out.trans (h4.mono B2.out.size)); clear h1 h2 h3 h4))
    have hl3 : len ≤ 1000000 := by omega
    go_loopw [6, 10] (fun _ vi wr => ∃ k : Nat, vi = .int .i64 k ∧ k ≤ len ∧ Hid (∃ nd, wr = w3.drewN nd)) (fun _ vi _ => len - (intOf vi).toNat)
    case atStart => exact ⟨0, rfl, Nat.zero_le _, Lib.hid ⟨0, rfl⟩⟩
    case round =>
      obtain ⟨k, rfl, hk, hW⟩ := hrel
      obtain ⟨nd, rfl⟩ := hW.out
      clear hW
      by_cases hlt : k < len
      · obtain ⟨g1, c1, e1, _, _, _, _, x1, _⟩ := OW3.out.at (by have := EL.out; omega)
        obtain ⟨g2, c2, e2, _, _, _, _, x2, _⟩ := OW2.out.at (by have := EL.out; omega)
        injection e1 with e1 n1 n2
        injection e2 with e2 n3 n4
        subst e1 e2
        clear n1 n2 n3 n4
        have y1 : (w3.drewN nd).cell? ⟨g1, k, none⟩ = some (.int .i64 (es.getD k 0)) := x1 k (by have := EL.out; omega)
        have y2 : (w3.drewN nd).cell? ⟨g2, k, none⟩ = some (.int .i64 (es.getD k 0)) := x2 k (by have := EL.out; omega)
        have kl : (k : Int) < (len : Int) := by omega
        clear x1 x2
        generalize es.getD k 0 = z at *
        generalize hW : w3.drewN nd = W at *
        have HW := Lib.hid hW
        clear hW
        have zz : decide (z = z) = true := by simp
        go_wp2_with fail
        go_quiet (fail)
        go_wp2_with fail
        go_roundw
        case rel => exact ⟨k + 1, by go_num, by omega, Lib.hid ⟨nd + nq, by rw [← HW.out, World.drewN_drewN]⟩⟩
        case measure => simp [intOf]; omega
      · obtain rfl : k = len := by omega
        have HB := Lib.hid (Best_any l k cap xs · hl3)
        have HB2 := Lib.hid (rBest_any l k cap xs · hl3)
        have HXW : Hid (∀ n, IsU (w3.drewN n) l k xs) := Lib.hid (fun n => show IsU w3 l k xs from HX.out.below B3.out (Nat.le_refl _))
        have ff : (fcmp a.toNat b.toNat == fcmp a.toNat b.toNat) = true := by simp
        have gg : (bestTo xs k == bestTo xs k) = true := by simp
        generalize fcmp a.toNat b.toNat = q at *
        go_wp2_with (first
          | (go_at_call 12; with_reducible refine Calls.mono (C1.out _) ?_; rintro e w4 ⟨rfl, rfl⟩)
          | (go_at_call 13; with_reducible refine Calls.mono (C2.out _) ?_; rintro e w4 ⟨rfl, rfl⟩)
          | (go_at_call 14; refine (HB.out _ (HXW.out _)).mono ?_; rintro e w4 ⟨rfl, rfl⟩)
          | (go_at_call 15; refine (HB2.out _ (HXW.out _) HU.out).mono ?_; rintro e w4 ⟨rfl, n, rfl⟩))
        go_ret
        exact ⟨rfl, B3.out.trans ⟨rfl, rfl, rfl, Nat.le_refl _, fun _ _ => rfl⟩⟩
end Go.Proofs.Ytbihcdjamdkinaa
