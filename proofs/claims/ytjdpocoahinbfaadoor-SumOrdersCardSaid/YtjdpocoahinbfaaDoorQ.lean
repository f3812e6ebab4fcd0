/-
  PLAIN: the reference's way to multiply.
-/
import Derived.Test.YtjdpocoahinbfaaDoorP
namespace Go.Proofs.YtjdpocoahinbfaaDoor
open Go.RowKit

theorem div_lt (x y M : Int) (hy : 1 ≤ y) : M / y < x ↔ M < x * y := by
  have h := Int.ediv_lt_iff_lt_mul (a := M) (b := x) (c := y) (by omega)
  exact h

theorem least_of (x y M : Int) (hy : 1 ≤ y) : (M % y = y - 1 ∧ x = M / y + 1) ↔ x * y = M + 1 := by
  have h0 := Int.emod_add_mul_ediv M y
  have h1 := Int.emod_nonneg M (by omega : y ≠ 0)
  have h2 := Int.emod_lt_of_pos M (by omega : 0 < y)
  constructor
  · rintro ⟨h, rfl⟩
    rw [Int.add_mul, Int.mul_comm (M / y) y]
    omega
  · intro h
    have hq : M / y < x := (div_lt x y M hy).2 (by omega)
    have hq2 : ¬ M / y + 1 < x := by
      intro h3
      have h4 : (M / y + 2) * y ≤ x * y := Int.mul_le_mul_of_nonneg_right (by omega) (by omega)
      rw [Int.add_mul, Int.mul_comm (M / y) y] at h4
      omega
    have hx : x = M / y + 1 := by omega
    refine ⟨?_, hx⟩
    rw [hx, Int.add_mul, Int.mul_comm (M / y) y] at h
    omega

theorem mulO_zero {a b : Int} (h : a = 0 ∨ b = 0) : mulO a b = some 0 := by
  have e : a * b = 0 := by rcases h with rfl | rfl <;> simp
  rw [mulO_in (by omega) (by omega), e]

theorem mul_big {a b : Int} (ha : a = -9223372036854775808) (hb0 : b ≠ 0) (hb1 : b ≠ 1) : a * b < -9223372036854775808 ∨ 9223372036854775807 < a * b := by
  subst ha
  omega
theorem mulO_least {a b : Int} (h : a = -9223372036854775808 ∨ b = -9223372036854775808) (h1 : a = 1 ∨ b = 1) : mulO a b = some (-9223372036854775808) := by
  have e : a * b = -9223372036854775808 := by
    rcases h with h | h <;> rcases h1 with h1 | h1
    · omega
    · rw [h, h1]; omega
    · rw [h, h1]; omega
    · omega
  rw [mulO_in (by omega) (by omega), e]
theorem mulO_least_out {a b : Int} (h : a = -9223372036854775808 ∨ b = -9223372036854775808) (ha0 : a ≠ 0) (hb0 : b ≠ 0) (ha1 : a ≠ 1) (hb1 : b ≠ 1) : mulO a b = none := by
  apply mulO_out
  rcases h with h | h
  · exact mul_big h hb0 hb1
  · rw [Int.mul_comm]; exact mul_big h ha0 ha1

/-- Both within -(2^63 - 1) .. 2^63 - 1, neither 0: what the reference does with the sizes x, y. -/
theorem mulO_ref {a b x y : Int} (hx : x = szI a) (hy : y = szI b) (hx1 : 1 ≤ x) (hy1 : 1 ≤ y) (hx2 : x ≤ 9223372036854775807) (hy2 : y ≤ 9223372036854775807) :
    (9223372036854775807 / y < x → (decide (a < 0) != decide (b < 0)) = true → 9223372036854775807 % y = y - 1 → x = 9223372036854775807 / y + 1 → mulO a b = some (-9223372036854775808)) ∧
    (9223372036854775807 / y < x → (decide (a < 0) != decide (b < 0)) = true → 9223372036854775807 % y ≠ y - 1 ∨ x ≠ 9223372036854775807 / y + 1 → mulO a b = none) ∧
    (9223372036854775807 / y < x → (decide (a < 0) != decide (b < 0)) = false → mulO a b = none) ∧
    (¬ 9223372036854775807 / y < x → (decide (a < 0) != decide (b < 0)) = true → mulO a b = some (-x * y) ∧ -9223372036854775808 ≤ -x * y ∧ -x * y ≤ 9223372036854775807) ∧
    (¬ 9223372036854775807 / y < x → (decide (a < 0) != decide (b < 0)) = false → mulO a b = some (x * y) ∧ -9223372036854775808 ≤ x * y ∧ x * y ≤ 9223372036854775807) := by
  have hm := mul_sz a b
  rw [← hx, ← hy] at hm
  have hd := div_lt x y 9223372036854775807 hy1
  have hl := least_of x y 9223372036854775807 hy1
  have hp : 0 ≤ x * y := Int.mul_nonneg (by omega) (by omega)
  have hn : -x * y = -(x * y) := Int.neg_mul x y
  generalize x * y = p at *
  refine ⟨fun h hs h1 h2 => ?_, fun h hs h1 => ?_, fun h hs => ?_, fun h hs => ?_, fun h hs => ?_⟩
  · rw [hs, if_pos rfl] at hm
    have := hl.1 ⟨h1, h2⟩
    rw [mulO_in (by omega) (by omega)]; congr 1; omega
  · rw [hs, if_pos rfl] at hm
    have h3 := hd.1 h
    have h4 : p ≠ 9223372036854775807 + 1 := fun e => by have := hl.2 e; omega
    exact mulO_out (by omega)
  · rw [hs, if_neg (by simp)] at hm
    have h3 := hd.1 h
    exact mulO_out (by omega)
  · rw [hs, if_pos rfl] at hm
    have h3 : ¬ 9223372036854775807 < p := fun e => h (hd.2 e)
    rw [hn, mulO_in (by omega) (by omega), hm]
    exact ⟨rfl, by omega, by omega⟩
  · rw [hs, if_neg (by simp)] at hm
    have h3 : ¬ 9223372036854775807 < p := fun e => h (hd.2 e)
    rw [mulO_in (by omega) (by omega), hm]
    exact ⟨rfl, by omega, by omega⟩
end Go.Proofs.YtjdpocoahinbfaaDoor
