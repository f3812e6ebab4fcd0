/-
  clause.set.
-/
import Derived.Test.YtngegkgmenfelaaUc
namespace Go.Proofs.Ytngegkgmenfelaa
open Go.RowKit Go.Lib
attribute [local go_sem ↓] Go.wp_at_zero Go.wp_at_succ

def setA (A : List Int) (x : Int) : List Int := A.set (x.natAbs - 1) (sgn x)
theorem sig_sgn {x : Int} (h : 1 ≤ x.natAbs) : sig x = sgn x := by unfold sig sgn; split; rfl; rw [if_neg (by omega)]

set_option maxRecDepth 100000 in
theorem set_no {w : World} {t : Value} {A : List Int} (h : Reads w t A) (h3 : Three A) (hl : A.length ≤ 20000) (x : Int) (hx : In64 x) (hn : okLit x A.length = false ∨ litA A x = -1) :
    Calls Try.prog 54 #[t, .int .i64 x] w fun e w' => e = .returned (.bool false) ∧ w' = w := by
  have HV := Lib.hid (variable_any x A.length w hx (by omega))
  have HL := Lib.hid (lit_any h h3 hl x hx)
  obtain ⟨a, c, rfl⟩ := h.form
  cases hok : okLit x A.length with
  | false =>
    have hv : varI x A.length = 0 := by unfold varI; rw [hok]; rfl
    rw [hv] at HV
    generalize A.length = q at *
    clear h hx hn hv hok
    go_enter Try.func54, Try.ntmps54
    go_wp2_with (go_at_call 53; refine HV.out.mono ?_; rintro e w' ⟨rfl, rfl⟩)
    go_ret
    exact ⟨rfl, rfl⟩
  | true =>
    have hlit : litA A x = -1 := hn.resolve_left (by rw [hok]; simp)
    rw [hlit] at HL
    have hok' : 1 ≤ x.natAbs ∧ x.natAbs ≤ A.length := of_decide_eq_true hok
    have hv : varI x A.length = ((x.natAbs : Nat) : Int) := by unfold varI; rw [hok]; rfl
    rw [hv] at HV
    generalize A.length = q at *
    obtain ⟨m, hm⟩ : ∃ m, x.natAbs = m + 1 := ⟨x.natAbs - 1, by omega⟩
    rw [hm, show ((m + 1 : Nat) : Int) = (m : Int) + 1 from by omega] at HV
    have hz : ((m : Int) + 1 == 0) = false := by simp; omega
    clear h hx hn hv hok hlit hok' hm
    go_enter Try.func54, Try.ntmps54
    go_wp2_with (first | (go_at_call 53; refine HV.out.mono ?_; rintro e w' ⟨rfl, rfl⟩) | (go_at_call 65; refine HL.out.mono ?_; rintro e w' ⟨rfl, rfl⟩))
    go_ret
    exact ⟨rfl, rfl⟩

set_option maxRecDepth 100000 in
theorem set_ok {w : World} {t : Value} {A : List Int} (hr : Row w 3 1 t (ints A)) (h3 : Three A) (hl : A.length ≤ 20000) (x : Int) (hx : In64 x) (hok : okLit x A.length = true) (hlit : litA A x ≠ -1) :
    Calls Try.prog 54 #[t, .int .i64 x] w fun e w' => ∃ g c, t = .slice (some ⟨g, 0, none⟩) A.length c ∧ e = .returned (.bool true) ∧ w' = w.setCell ⟨g, x.natAbs - 1, none⟩ (.int .i64 (sgn x)) := by
  have h := hr.reads
  have HV := Lib.hid (variable_any x A.length w hx (by omega))
  have HL := Lib.hid (lit_any h h3 hl x hx)
  have hlt := litA_three h3 x
  have hok' : 1 ≤ x.natAbs ∧ x.natAbs ≤ A.length := of_decide_eq_true hok
  have hv : varI x A.length = ((x.natAbs : Nat) : Int) := by unfold varI; rw [hok]; rfl
  rw [hv] at HV
  have HC : Hid (∀ w, Calls Try.prog 66 #[.int .i64 x, .int .i64 0] w fun e w' => e = .returned (.int .i64 (sgn x)) ∧ w' = w) := Lib.hid fun w => by rw [← sig_sgn hok'.1]; exact cmp_any x w
  obtain ⟨g, c, rfl, _, _, hg, hcc, hf⟩ := hr.at (by rw [ints_len]; omega)
  rw [ints_len] at *
  obtain ⟨m, hm⟩ : ∃ m, x.natAbs = m + 1 := ⟨x.natAbs - 1, by omega⟩
  have cm := hcc m _ (ints_at (by omega))
  have fm := hf m
  rw [hm, show ((m + 1 : Nat) : Int) = (m : Int) + 1 from by omega] at HV
  rw [hm, Nat.add_sub_cancel]
  have hz : ((m : Int) + 1 == 0) = false := by simp; omega
  obtain ⟨v, hv2⟩ : ∃ v, litA A x = v := ⟨_, rfl⟩
  rw [hv2] at HL hlit hlt
  have hv0 : 0 ≤ v := by omega
  have hv1 : v ≤ 1 := by omega
  obtain ⟨q, hq⟩ : ∃ q, A.length = q := ⟨_, rfl⟩
  rw [hq] at HV HL hl hok' ⊢
  have hmq : (m : Int) < (q : Int) := by omega
  have hm0 : (0 : Int) ≤ (m : Int) := by omega
  have hmb : m ≤ 20000 := by omega
  clear h h3 hx hok hlit hlt hv hv2 hq hcc hf hr hok' hm
  generalize sgn x = sx at *
  go_enter Try.func54, Try.ntmps54
  go_wp2_with (first | (go_at_call 53; refine HV.out.mono ?_; rintro e w' ⟨rfl, hw⟩; obtain rfl := hw.symm) | (go_at_call 65; refine HL.out.mono ?_; rintro e w' ⟨rfl, hw⟩; obtain rfl := hw.symm) | (go_at_call 66; refine (HC.out _).mono ?_; rintro e w' ⟨rfl, hw⟩; obtain rfl := hw.symm))
  go_ret
  exact ⟨g, c, rfl, rfl, rfl⟩
end Go.Proofs.Ytngegkgmenfelaa
