/-
  The document's answer: Put, Take, above, Bump, New.
-/
import Derived.Test.YtbihcdjamdkinaaRr
import Derived.Deep.QuietTactic
import Derived.BigQuiet
namespace Go.Proofs.Ytbihcdjamdkinaa
open Go.RowKit Go.Lib
attribute [local go_sem ↓] Go.wp_at_zero Go.wp_at_succ

section
variable {w : World} {m ga gi n : Nat} {A : List Int} {I : Nat → Bool} {sc : Int}

theorem rrPut (h : RefAt w m ga gi n A I sc) (v : Int) : Calls Try.prog 43 #[.pointer (some ⟨m, 0, none⟩), .int .i64 v] w fun e w' => e = .returned (.int .i64 (pC n I v)) ∧ Keep (NotRef m ga gi) w w' ∧ RefAt w' m ga gi n A (pI n I v) sc := by
  by_cases hv : 1 ≤ v ∧ v ≤ n
  · obtain ⟨j, rfl⟩ : ∃ j : Nat, v = (j : Int) + 1 := ⟨(v - 1).toNat, by omega⟩
    have C := Lib.hid (ris_yes h _ hv)
    have e0 : ((j : Int) + 1).toNat = j + 1 := by omega
    have b1 := h.c1
    obtain ⟨cj, fj⟩ := h.ci j (by omega)
    have hn := h.hn
    have e1 : IntKind.i64.wrap ((j : Int) + 1 - 1) = j := by simp [IntKind.wrap, IntKind.signed, IntKind.bits]; omega
    have e2 : (j : Int) + 1 - 1 = j := by omega
    have hj : j < n := by omega
    have H := Lib.hid h
    have HS := Lib.hid (h.storeI j true)
    have HK : Hid (Keep (NotRef m ga gi) w (w.setCell ⟨gi, j, none⟩ (.bool true))) := Lib.hid ((Keep.refl _ _).setCell (fun hh => hh.2.2 rfl) _)
    cases hI : I (j + 1) with
    | true =>
      have p1 : pC n I ((j : Int) + 1) = 7 := by unfold pC; rw [if_pos hv, e0, hI]; rfl
      have p2 : pI n I ((j : Int) + 1) = I := by unfold pI; rw [if_pos hv, e0]; exact upd_id hI
      rw [p1, p2]
      rw [hI] at cj
      clear h hv p1 p2 e0 hI
      go_enter Try.func43, Try.ntmps43
      go_wp2_with (go_at_call 45; refine C.out.mono ?_; rintro e w' ⟨rfl, rfl⟩)
      go_ret
      exact ⟨rfl, Keep.refl _ _, H.out⟩
    | false =>
      have p1 : pC n I ((j : Int) + 1) = 0 := by unfold pC; rw [if_pos hv, e0, hI]; rfl
      have p2 : pI n I ((j : Int) + 1) = upd I (j + 1) true := by unfold pI; rw [if_pos hv, e0]
      rw [p1, p2]
      rw [hI] at cj
      clear h hv p1 p2 e0 hI
      go_enter Try.func43, Try.ntmps43
      go_wp2_with (go_at_call 45; refine C.out.mono ?_; rintro e w' ⟨rfl, rfl⟩)
      go_ret
      exact ⟨rfl, HK.out, HS.out⟩
  · have p1 : pC n I v = 1 := by unfold pC; rw [if_neg hv]
    have p2 : pI n I v = I := by unfold pI; rw [if_neg hv]
    rw [p1, p2]
    have C := Lib.hid (ris_no h _ hv)
    have H := Lib.hid h
    clear h hv p1 p2
    go_enter Try.func43, Try.ntmps43
    go_wp2_with (go_at_call 45; refine C.out.mono ?_; rintro e w' ⟨rfl, rfl⟩)
    go_ret
    exact ⟨rfl, Keep.refl _ _, H.out⟩

set_option maxRecDepth 100000 in
set_option maxHeartbeats 1000000 in
theorem above_no (h : RefAt w m ga gi n A I sc) (hb : ∀ j, j < n → A.getD (j + 1) 0 ≤ 1125899906842624) : Calls Try.prog 51 #[.pointer (some ⟨m, 0, none⟩)] w fun e w' => e = .returned (.bool false) ∧ w' = w := by
  have b0 := h.c0
  have HC := Lib.hid (fun j hj => (h.ca j hj).1)
  have HB := Lib.hid hb
  have hn := h.hn
  clear h hb
  go_enter Try.func51, Try.ntmps51
  go_wp2_with fail
  go_loop [3] (fun vi => ∃ k : Nat, k ≤ n ∧ vi = .int .i64 k) (fun vi => n - (intOf vi).toNat)
  case atStart => exact ⟨0, Nat.zero_le _, rfl⟩
  case round =>
    obtain ⟨k, hk, rfl⟩ := hrel
    by_cases hlt : k < n
    · have ck := HC.out k hlt
      have d := HB.out k hlt
      generalize A.getD (k + 1) 0 = x at *
      have d1 : decide (1125899906842624 < x) = false := by simp; omega
      clear d
      go_wp2_with fail
      go_round
      case rel => exact ⟨k + 1, by omega, by go_num⟩
      case measure => simp [intOf]; omega
    · obtain rfl : k = n := by omega
      go_wp2_with fail
      go_ret
      exact ⟨rfl, rfl⟩

set_option maxRecDepth 100000 in
set_option maxHeartbeats 1000000 in
theorem above_yes (h : RefAt w m ga gi n A I sc) (q : Nat) (hq : q < n) (hb : 1125899906842624 < A.getD (q + 1) 0) : Calls Try.prog 51 #[.pointer (some ⟨m, 0, none⟩)] w fun e w' => e = .returned (.bool true) ∧ w' = w := by
  have b0 := h.c0
  have HC := Lib.hid (fun j hj => (h.ca j hj).1)
  have HB := Lib.hid hb
  have hn := h.hn
  clear h hb
  go_enter Try.func51, Try.ntmps51
  go_wp2_with fail
  go_loop [3] (fun vi => ∃ k : Nat, k ≤ q ∧ vi = .int .i64 k) (fun vi => n - (intOf vi).toNat)
  case atStart => exact ⟨0, Nat.zero_le _, rfl⟩
  case round =>
    obtain ⟨k, hk, rfl⟩ := hrel
    have hlt : k < n := by omega
    have ck := HC.out k hlt
    cases d1 : decide (1125899906842624 < A.getD (k + 1) 0) with
    | true =>
      generalize A.getD (k + 1) 0 = x at *
      go_wp2_with fail
      go_ret
      exact ⟨rfl, rfl⟩
    | false =>
      have hne : k ≠ q := fun e => by subst e; exact of_decide_eq_false d1 HB.out
      generalize A.getD (k + 1) 0 = x at *
      go_wp2_with fail
      go_round
      case rel => exact ⟨k + 1, by omega, by go_num⟩
      case measure => simp [intOf]; omega

set_option maxRecDepth 100000 in
set_option maxHeartbeats 2000000 in
theorem rrTake (h : RefAt w m ga gi n A I sc) : Calls Try.prog 42 #[.pointer (some ⟨m, 0, none⟩)] w fun e w' => e = .returned (.tuple #[.int .i64 (topF A I n : Nat), .bool (tOk n A I)]) ∧ Keep (NotRef m ga gi) w w' ∧ RefAt w' m ga gi n A (tI n A I) sc := by
  have H := Lib.hid h
  have hn := h.hn
  clear h
  go_enter Try.func42, Try.ntmps42
  go_wp2_with fail
  go_loopw [4, 5] (fun bv vi wr => ∃ k : Nat, k ≤ n ∧ vi = .int .i64 k ∧ bv = .int .i64 ((topF A I k : Int) - 1) ∧ Hid (Keep (NotRef m ga gi) w wr) ∧ Hid (RefAt wr m ga gi n A I sc)) (fun _ vi _ => n - (intOf vi).toNat)
  case atStart => exact ⟨0, Nat.zero_le _, rfl, rfl, Keep.refl _ _, H⟩
  case round =>
    obtain ⟨k, hk, rfl, rfl, hK, hR⟩ := hrel
    clear H
    have b0 := hR.out.c0
    have b1 := hR.out.c1
    have htk : topF A I k ≤ k := by
      rcases topF_best A I k with ⟨e, _⟩ | ⟨_, hb⟩
      · omega
      · exact hb.hi
    by_cases hlt : k < n
    · obtain ⟨ck, _⟩ := hR.out.ci k hlt
      obtain ⟨ak, _⟩ := hR.out.ca k hlt
      have b2 : (k : Int) < (n : Int) := by omega
      cases hI : I (k + 1) with
      | false =>
        have HN : Hid (topF A I (k + 1) = topF A I k) := Lib.hid (by show (if _ then _ else _) = _; rw [if_neg (fun hh => by rw [hI] at hh; cases hh.1)])
        rw [hI] at ck
        generalize topF A I k = t at *
        clear hI
        go_wp2_with fail
        go_quiet (fail)
        go_wp2_with fail
        go_roundw
        case rel => exact ⟨k + 1, by omega, by go_num, by rw [HN.out], Lib.hid (hK.out.drewN _), Lib.hid (hR.out.below (below_drewN (Below.refl _ _) _))⟩
        case measure => simp [intOf]; omega
      | true =>
        rw [hI] at ck
        by_cases h0 : topF A I k = 0
        · have HN : Hid (topF A I (k + 1) = k + 1) := Lib.hid (by show (if _ then _ else _) = _; rw [if_pos ⟨hI, .inl h0⟩])
          have d1 : decide ((topF A I k : Int) - 1 < 0) = true := by simp; omega
          rw [h0] at d1 ⊢
          clear hI h0 htk
          go_wp2_with fail
          go_quiet (fail)
          go_wp2_with fail
          go_roundw
          case rel => exact ⟨k + 1, by omega, by go_num, by rw [HN.out]; go_num, Lib.hid (hK.out.drewN _), Lib.hid (hR.out.below (below_drewN (Below.refl _ _) _))⟩
          case measure => simp [intOf]; omega
        · obtain ⟨t, ht⟩ : ∃ t, topF A I k = t + 1 := ⟨topF A I k - 1, by omega⟩
          obtain ⟨at', _⟩ := hR.out.ca t (by omega)
          have e1 : ((topF A I k : Nat) : Int) - 1 = t := by omega
          rw [e1]
          have d1 : decide ((t : Int) < 0) = false := by simp
          have b3 : (t : Int) < (n : Int) := by omega
          cases hc : decide (A.getD (t + 1) 0 < A.getD (k + 1) 0) with
          | true =>
            have HN : Hid (topF A I (k + 1) = k + 1) := Lib.hid (by show (if _ then _ else _) = _; rw [if_pos ⟨hI, .inr (by rw [ht]; exact of_decide_eq_true hc)⟩])
            generalize A.getD (t + 1) 0 = x at *
            generalize A.getD (k + 1) 0 = y at *
            clear hI h0 htk ht e1
            go_wp2_with fail
            go_quiet (fail)
            go_wp2_with fail
            go_roundw
            case rel => exact ⟨k + 1, by omega, by go_num, by rw [HN.out]; go_num, Lib.hid (hK.out.drewN _), Lib.hid (hR.out.below (below_drewN (Below.refl _ _) _))⟩
            case measure => simp [intOf]; omega
          | false =>
            have HN : Hid (topF A I (k + 1) = t + 1) := Lib.hid (by
              show (if _ then _ else _) = _
              rw [if_neg (fun hh => by rcases hh.2 with h | h; exact h0 h; rw [ht] at h; exact of_decide_eq_false hc h), ht])
            generalize A.getD (t + 1) 0 = x at *
            generalize A.getD (k + 1) 0 = y at *
            clear hI h0 htk ht e1
            go_wp2_with fail
            go_quiet (fail)
            go_wp2_with fail
            go_roundw
            case rel => exact ⟨k + 1, by omega, by go_num, by rw [HN.out]; go_num, Lib.hid (hK.out.drewN _), Lib.hid (hR.out.below (below_drewN (Below.refl _ _) _))⟩
            case measure => simp [intOf]; omega
    · obtain rfl : k = n := by omega
      have hnl : decide ((k : Int) < k) = false := by simp
      by_cases h0 : topF A I k = 0
      · have e1 : tOk k A I = false := decide_eq_false (by simp [h0])
        have e2 : tI k A I = I := if_pos h0
        have d1 : decide ((topF A I k : Int) - 1 < 0) = true := by simp; omega
        have E1 := Lib.hid e1
        have E2 := Lib.hid e2
        have E3 := Lib.hid h0
        rw [h0] at d1 ⊢
        clear e1 e2 h0 htk
        go_wp2_with fail
        go_ret2
        exact ⟨by rw [E1.out, E3.out]; rfl, hK.out, by rw [E2.out]; exact hR.out⟩
      · obtain ⟨t, ht⟩ : ∃ t, topF A I k = t + 1 := ⟨topF A I k - 1, by omega⟩
        have e1 : tOk k A I = true := decide_eq_true h0
        have e2 : tI k A I = upd I (t + 1) false := by unfold tI; rw [if_neg h0, ht]
        obtain ⟨ct, ft⟩ := hR.out.ci t (by omega)
        have HS := Lib.hid (hR.out.storeI t false)
        have HK2 : Hid (Keep (NotRef m ga gi) w (wr.setCell ⟨gi, t, none⟩ (.bool false))) := Lib.hid (hK.out.setCell (fun hh => hh.2.2 rfl) _)
        have E1 := Lib.hid e1
        have E2 := Lib.hid e2
        have E3 := Lib.hid ht
        have e3 : ((topF A I k : Nat) : Int) - 1 = t := by omega
        rw [e3]
        have d1 : decide ((t : Int) < 0) = false := by simp
        have b3 : (t : Int) < (k : Int) := by omega
        clear e1 e2 ht h0 htk e3
        go_wp2_with fail
        go_ret2
        exact ⟨by rw [E1.out, E3.out]; rfl, HK2.out, by rw [E2.out]; exact HS.out⟩
end
end Go.Proofs.Ytbihcdjamdkinaa
