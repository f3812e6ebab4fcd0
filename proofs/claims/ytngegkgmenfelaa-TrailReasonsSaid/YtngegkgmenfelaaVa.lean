/-
  The document's answer of chapter 12: Var, Lit.
-/
import Derived.Test.YtngegkgmenfelaaUad
namespace Go.Proofs.Ytngegkgmenfelaa
open Go.RowKit Go.Lib
attribute [local go_sem ↓] Go.wp_at_zero Go.wp_at_succ

def varR (x : Int) : Int := if x.natAbs < 4611686018427387904 then (x.natAbs : Nat) else 0

set_option maxRecDepth 100000 in
theorem Var_any (x : Int) (w : World) (hx : In64 x) : Calls Try.prog 60 #[.int .i64 x] w fun e w' => e = .returned (.int .i64 (varR x)) ∧ w' = w := by
  by_cases hneg : x < 0
  · have hd : decide (x < 0) = true := decide_eq_true hneg
    have hd2 : decide (0 < x) = false := decide_eq_false (by omega)
    by_cases hb : -4611686018427387904 < x
    · have hd3 : decide (-4611686018427387904 < x) = true := decide_eq_true hb
      have e1 : IntKind.i64.wrap (-x) = -x := by simp [IntKind.wrap, IntKind.signed, IntKind.bits]; omega
      have e2 : varR x = -x := by unfold varR; rw [if_pos (by omega)]; omega
      rw [e2]
      clear hneg hb hx e2
      go_enter Try.func60, Try.ntmps60
      go_wp2_with fail
      go_ret
      exact ⟨rfl, rfl⟩
    · have hd3 : decide (-4611686018427387904 < x) = false := decide_eq_false hb
      have e2 : varR x = 0 := by unfold varR; rw [if_neg (by omega)]
      rw [e2]
      clear hneg hb hx e2
      go_enter Try.func60, Try.ntmps60
      go_wp2_with fail
      go_ret
      exact ⟨rfl, rfl⟩
  · have hd : decide (x < 0) = false := decide_eq_false hneg
    by_cases h0 : 0 < x
    · have hd2 : decide (0 < x) = true := decide_eq_true h0
      by_cases hb : x < 4611686018427387904
      · have hd3 : decide (x < 4611686018427387904) = true := decide_eq_true hb
        have e2 : varR x = x := by unfold varR; rw [if_pos (by omega)]; omega
        rw [e2]
        clear hneg hb hx e2 h0
        go_enter Try.func60, Try.ntmps60
        go_wp2_with fail
        go_ret
        exact ⟨rfl, rfl⟩
      · have hd3 : decide (x < 4611686018427387904) = false := decide_eq_false hb
        have e2 : varR x = 0 := by unfold varR; rw [if_neg (by omega)]
        rw [e2]
        clear hneg hb hx e2 h0
        go_enter Try.func60, Try.ntmps60
        go_wp2_with fail
        go_ret
        exact ⟨rfl, rfl⟩
    · obtain rfl : x = 0 := by omega
      rw [show varR 0 = 0 from rfl]
      go_enter Try.func60, Try.ntmps60
      go_wp2_with fail
      go_ret
      exact ⟨rfl, rfl⟩

theorem varR_ok {x : Int} {n : Nat} (h : okLit x n = true) (hn : n ≤ 1000000) : varR x = ((x.natAbs : Nat) : Int) := by
  have := of_decide_eq_true h
  unfold varR; rw [if_pos (by omega)]
theorem varR_no {x : Int} {n : Nat} (h : okLit x n = false) : varR x < 1 ∨ (n : Int) < varR x := by
  have := of_decide_eq_false h
  unfold varR; split <;> omega

set_option maxRecDepth 100000 in
theorem LitR_any {w : World} {s : Value} {A : List Int} (h : Reads w s A) (hA : Three A) (hl : A.length ≤ 20000) (x : Int) (hx : In64 x) :
    Calls Try.prog 48 #[.int .i64 x, s] w fun e w' => e = .returned (.int .i64 (litA A x)) ∧ w' = w := by
  have HV := Lib.hid (Var_any x w hx)
  cases hok : okLit x A.length with
  | false =>
    have hlit : litA A x = 0 := by unfold litA; rw [hok]; rfl
    rw [hlit]
    have hv := varR_no hok
    obtain ⟨a, c, rfl⟩ := h.form
    generalize varR x = v at *
    generalize A.length = q at *
    clear h hA hx hlit hok
    by_cases h1 : v < 1
    · have hd : decide (v < 1) = true := decide_eq_true h1
      clear hv
      go_enter Try.func48, Try.ntmps48
      go_wp2_with (go_at_call 60; refine HV.out.mono ?_; rintro e w' ⟨rfl, rfl⟩)
      go_ret
      exact ⟨rfl, rfl⟩
    · have hd : decide (v < 1) = false := decide_eq_false h1
      have h2 : (q : Int) < v := hv.resolve_left h1
      clear hv
      go_enter Try.func48, Try.ntmps48
      go_wp2_with (go_at_call 60; refine HV.out.mono ?_; rintro e w' ⟨rfl, rfl⟩)
      go_ret
      exact ⟨rfl, rfl⟩
  | true =>
    have hv := varR_ok hok (by omega)
    have hok' : 1 ≤ x.natAbs ∧ x.natAbs ≤ A.length := of_decide_eq_true hok
    obtain ⟨b, off, c, rfl, hb, hc⟩ := h.resolve_left (fun h => by rw [h.2] at hok'; simp at hok'; omega)
    have hlit : litA A x = if x < 0 then -(A.getD (x.natAbs - 1) 0) else A.getD (x.natAbs - 1) 0 := by unfold litA; rw [hok]; rfl
    obtain ⟨m, hm⟩ : ∃ m, x.natAbs = m + 1 := ⟨x.natAbs - 1, by omega⟩
    rw [hlit]
    rw [hm, show ((m + 1 : Nat) : Int) = (m : Int) + 1 from by omega] at hv
    rw [hm, Nat.add_sub_cancel]
    rw [hv] at HV
    have cm := hc m (by omega)
    have hA3 := hA _ (mem_getD (d := 0) (show m < A.length by omega))
    have hmq : m < A.length := by omega
    generalize A.getD m 0 = v at *
    generalize A.length = q at *
    have hv1 : decide ((m : Int) + 1 < 1) = false := decide_eq_false (by omega)
    have hv2 : decide ((q : Int) < (m : Int) + 1) = false := decide_eq_false (by omega)
    have hmb : m ≤ 20000 := by omega
    by_cases hneg : x < 0
    · rw [if_pos hneg]
      have hx0 : decide (0 < x) = false := decide_eq_false (by omega)
      clear hv hok' hok hlit hm hc hneg hA h
      rcases hA3 with rfl | rfl | rfl
      · go_enter Try.func48, Try.ntmps48
        go_wp2_with (go_at_call 60; refine HV.out.mono ?_; rintro e w' ⟨rfl, hw⟩; obtain rfl := hw.symm)
        go_ret
        exact ⟨rfl, rfl⟩
      · go_enter Try.func48, Try.ntmps48
        go_wp2_with (go_at_call 60; refine HV.out.mono ?_; rintro e w' ⟨rfl, hw⟩; obtain rfl := hw.symm)
        go_ret
        exact ⟨rfl, rfl⟩
      · go_enter Try.func48, Try.ntmps48
        go_wp2_with (go_at_call 60; refine HV.out.mono ?_; rintro e w' ⟨rfl, hw⟩; obtain rfl := hw.symm)
        go_ret
        exact ⟨rfl, rfl⟩
    · rw [if_neg hneg]
      have hx0 : decide (0 < x) = true := decide_eq_true (by omega)
      clear hv hok' hok hlit hm hc hneg hA h
      rcases hA3 with rfl | rfl | rfl
      · go_enter Try.func48, Try.ntmps48
        go_wp2_with (go_at_call 60; refine HV.out.mono ?_; rintro e w' ⟨rfl, hw⟩; obtain rfl := hw.symm)
        go_ret
        exact ⟨rfl, rfl⟩
      · go_enter Try.func48, Try.ntmps48
        go_wp2_with (go_at_call 60; refine HV.out.mono ?_; rintro e w' ⟨rfl, hw⟩; obtain rfl := hw.symm)
        go_ret
        exact ⟨rfl, rfl⟩
      · go_enter Try.func48, Try.ntmps48
        go_wp2_with (go_at_call 60; refine HV.out.mono ?_; rintro e w' ⟨rfl, hw⟩; obtain rfl := hw.symm)
        go_ret
        exact ⟨rfl, rfl⟩
end Go.Proofs.Ytngegkgmenfelaa
