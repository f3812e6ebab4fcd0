/-
  cmp.Compare at 0; clause.lit.
-/
import Derived.Test.YtngegkgmenfelaaWt
namespace Go.Proofs.Ytngegkgmenfelaa
open Go.RowKit Go.Lib
attribute [local go_sem ↓] Go.wp_at_zero Go.wp_at_succ

def sig (x : Int) : Int := if x < 0 then -1 else if x = 0 then 0 else 1
theorem isNaN_any (x : Int) (w : World) : Calls Try.prog 69 #[.int .i64 x] w fun e w' => e = .returned (.bool false) ∧ w' = w := by
  go_enter Try.func69, Try.ntmps69
  go_wp2_with fail
  go_ret
  exact ⟨by simp, rfl⟩
theorem cmp_any (x : Int) (w : World) : Calls Try.prog 66 #[.int .i64 x, .int .i64 0] w fun e w' => e = .returned (.int .i64 (sig x)) ∧ w' = w := by
  have HN := Lib.hid isNaN_any
  unfold sig
  by_cases h : x < 0
  · rw [if_pos h]
    go_enter Try.func66, Try.ntmps66
    go_wp2_with (go_at_call 69; refine (HN.out _ _).mono ?_; rintro e w' ⟨rfl, rfl⟩)
    go_ret
    exact ⟨rfl, rfl⟩
  · rw [if_neg h]
    by_cases h0 : x = 0
    · subst h0
      rw [if_pos rfl]
      go_enter Try.func66, Try.ntmps66
      go_wp2_with (go_at_call 69; refine (HN.out _ _).mono ?_; rintro e w' ⟨rfl, rfl⟩)
      go_ret
      exact ⟨rfl, rfl⟩
    · rw [if_neg h0]
      have hp : 0 < x := by omega
      clear h h0
      go_enter Try.func66, Try.ntmps66
      go_wp2_with (go_at_call 69; refine (HN.out _ _).mono ?_; rintro e w' ⟨rfl, rfl⟩)
      go_ret
      exact ⟨rfl, rfl⟩

/-- An assignment's numbers. -/
def Three (A : List Int) : Prop := ∀ a ∈ A, a = -1 ∨ a = 0 ∨ a = 1
def litA (A : List Int) (x : Int) : Int := if okLit x A.length then (if x < 0 then -(A.getD (x.natAbs - 1) 0) else A.getD (x.natAbs - 1) 0) else 0

set_option maxRecDepth 100000 in
theorem lit_any {w : World} {s : Value} {A : List Int} (h : Reads w s A) (hA : Three A) (hl : A.length ≤ 20000) (x : Int) (hx : In64 x) :
    Calls Try.prog 65 #[.int .i64 x, s] w fun e w' => e = .returned (.int .i64 (litA A x)) ∧ w' = w := by
  have HV := Lib.hid (variable_any x A.length w hx (by omega))
  have HC := Lib.hid cmp_any
  unfold litA
  unfold varI at HV
  obtain ⟨a, c, e0⟩ := h.form
  cases hok : okLit x A.length with
  | false =>
    rw [hok] at HV
    simp only [Bool.false_eq_true, if_false] at HV ⊢
    subst e0
    generalize A.length = q at *
    clear h hA hx hok
    go_enter Try.func65, Try.ntmps65
    go_wp2_with (go_at_call 53; refine HV.out.mono ?_; rintro e w' ⟨rfl, rfl⟩)
    go_ret
    exact ⟨rfl, rfl⟩
  | true =>
    rw [hok] at HV
    simp only [if_true] at HV ⊢
    have hok' : 1 ≤ x.natAbs ∧ x.natAbs ≤ A.length := of_decide_eq_true hok
    obtain ⟨m, hm⟩ : ∃ m, x.natAbs = m + 1 := ⟨x.natAbs - 1, by omega⟩
    rcases h with ⟨_, hA0⟩ | ⟨b, off, c', e1, hb, hc⟩
    · rw [hA0] at hok'; simp at hok'; omega
    · rw [e0] at e1
      injection e1 with e1 _ _
      subst e1
      subst e0
      have cm := hc m (by omega)
      have hv := hA _ (mem_getD (d := 0) (show m < A.length by omega))
      rw [hm, Nat.add_sub_cancel]
      rw [hm] at HV
      generalize A.getD m 0 = v at *
      obtain ⟨q, hq⟩ : ∃ q, A.length = q := ⟨_, rfl⟩
      rw [hq] at HV hok' hl ⊢
      have hsv : sig v = v := by unfold sig; split; omega; split <;> omega
      have HCV : Hid (∀ w, Calls Try.prog 66 #[.int .i64 v, .int .i64 0] w fun e w' => e = .returned (.int .i64 v) ∧ w' = w) := Lib.hid fun w => by have := HC.out v w; rw [hsv] at this; exact this
      have hmq : (m : Int) < (q : Int) := by omega
      have hm0 : (0 : Int) ≤ (m : Int) := by omega
      have hv1 : -1 ≤ v := by omega
      have hv2 : v ≤ 1 := by omega
      have hm1 : ((m + 1 : Nat) : Int) = (m : Int) + 1 := by omega
      rw [hm1] at HV
      have hmb : m ≤ 20000 := by omega
      have hwv : wrap64 (-v) = -v := by unfold wrap64; omega
      by_cases hneg : x < 0
      · rw [if_pos hneg]
        have hd : decide (x < 0) = true := decide_eq_true hneg
        clear hc hb hA hx hok hok' hm hv hq hsv HC hm1
        go_enter Try.func65, Try.ntmps65
        go_wp2_with (first | (go_at_call 53; refine HV.out.mono ?_; rintro e w' ⟨rfl, rfl⟩) | (go_at_call 66; refine (HCV.out _).mono ?_; rintro e w' ⟨rfl, rfl⟩))
        go_ret
        exact ⟨rfl, rfl⟩
      · rw [if_neg hneg]
        have hd : decide (x < 0) = false := decide_eq_false hneg
        clear hc hb hA hx hok hok' hm hv hq hsv HC hm1
        go_enter Try.func65, Try.ntmps65
        go_wp2_with (first | (go_at_call 53; refine HV.out.mono ?_; rintro e w' ⟨rfl, rfl⟩) | (go_at_call 66; refine (HCV.out _).mono ?_; rintro e w' ⟨rfl, rfl⟩))
        go_ret
        exact ⟨rfl, rfl⟩
end Go.Proofs.Ytngegkgmenfelaa
