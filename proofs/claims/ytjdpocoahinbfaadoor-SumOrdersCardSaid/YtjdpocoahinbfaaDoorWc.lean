/-
  add, size, bits.Mul64, mul: each by its contract.
-/
import Derived.Test.YtjdpocoahinbfaaDoorWb
import Derived.Lib.Mul64
import Derived.Laws.Bits64b
namespace Go.Proofs.YtjdpocoahinbfaaDoor
open Go.RowKit Go.Lib

def Panics (x : Addr) (e : Ending) : Prop := e = .panicked [{ v := .iface 70 (.pointer (some x)), recovered := false }]

theorem add_any (a b : Int) (x : Addr) (w : World) (ha : In64 a) (hb : In64 b) (hg : w.cell? ⟨0, 0, none⟩ = some (.iface 70 (.pointer (some x)))) :
    Calls Tryd.prog 27 #[.int .i64 a, .int .i64 b] w fun e w' => EndsO x (addO a b) e ∧ w = w' := by
  have ha' : -9223372036854775808 ≤ a ∧ a ≤ 9223372036854775807 := ha
  have hb' : -9223372036854775808 ≤ b ∧ b ≤ 9223372036854775807 := hb
  by_cases h1 : a < 0 <;> by_cases h2 : b < 0
  · by_cases h3 : wrap64 (a + b) < 0
    · rw [addO_neg_in ha hb h1 h2 h3]
      go_enter Tryd.func27, Tryd.ntmps27
      go_wp2
      go_ret
      exact ⟨rfl, rfl⟩
    · rw [addO_neg_out ha hb h1 h2 h3]
      go_enter Tryd.func27, Tryd.ntmps27
      go_wp2
      exact ⟨rfl, rfl, rfl⟩
  · rw [addO_mix ha hb (.inl ⟨h1, h2⟩)]
    go_enter Tryd.func27, Tryd.ntmps27
    go_wp2
    go_ret
    exact ⟨rfl, rfl⟩
  · rw [addO_mix ha hb (.inr ⟨h1, h2⟩)]
    go_enter Tryd.func27, Tryd.ntmps27
    go_wp2
    go_ret
    exact ⟨rfl, rfl⟩
  · by_cases h3 : wrap64 (a + b) < 0
    · rw [addO_pos_out ha hb h1 h2 h3]
      go_enter Tryd.func27, Tryd.ntmps27
      go_wp2
      exact ⟨rfl, rfl, rfl⟩
    · rw [addO_pos_in ha hb h1 h2 h3]
      go_enter Tryd.func27, Tryd.ntmps27
      go_wp2
      go_ret
      exact ⟨rfl, rfl⟩

theorem ret_int {k : IntKind} {a b : Int} (h : a = b) : Ending.returned (.int k a) = .returned (.int k b) := by rw [h]

theorem size_neg {a : Int} (h : a < 0) (ha : In64 a) : IntKind.u64.wrap (-IntKind.u64.wrap a) = szI a := by
  unfold In64 at ha
  rw [show szI a = -a from if_pos h]
  simp only [IntKind.wrap_u64]
  omega

theorem size_any (a : Int) (w : World) (ha : In64 a) : Calls Tryd.prog 37 #[.int .i64 a] w fun e w' => e = .returned (.int .u64 (szI a)) ∧ w = w' := by
  have ha' : -9223372036854775808 ≤ a ∧ a ≤ 9223372036854775807 := ha
  by_cases h1 : a < 0
  · have e := Lib.hid (size_neg h1 ha)
    go_enter Tryd.func37, Tryd.ntmps37
    go_wp2
    go_ret
    exact ⟨ret_int e.out, rfl⟩
  · have e : szI a = a := if_neg h1
    rw [e]
    clear e
    go_enter Tryd.func37, Tryd.ntmps37
    go_wp2
    go_ret
    exact ⟨rfl, rfl⟩

namespace Mul64
theorem maskN (a : Nat) (ha : a < 18446744073709551616) : bits .and .u64 (a : Int) 4294967295 = ((a % 4294967296 : Nat) : Int) := by
  have h := bits_and_u64_nat a 4294967295 ha (by omega)
  have e : a &&& 4294967295 = a % 4294967296 := Nat.and_two_pow_sub_one_eq_mod a 32
  rw [e] at h
  exact h
theorem divN (a : Nat) : (a : Int) / 4294967296 = ((a / 4294967296 : Nat) : Int) := by omega
theorem mulN (a b : Nat) : (a : Int) * (b : Int) = ((a * b : Nat) : Int) := (Int.natCast_mul a b).symm
theorem addN (a b : Nat) : (a : Int) + (b : Int) = ((a + b : Nat) : Int) := (Int.natCast_add a b).symm
theorem wrapN (a : Nat) (ha : a < 18446744073709551616) : IntKind.u64.wrap (a : Int) = (a : Int) := by rw [IntKind.wrap_u64]; omega
theorem wrapM (a : Nat) : IntKind.u64.wrap (a : Int) = ((a % 18446744073709551616 : Nat) : Int) := by rw [IntKind.wrap_u64]; omega
end Mul64

set_option maxHeartbeats 1000000 in
theorem mul64_nat (x y : Nat) (hx : x < 18446744073709551616) (hy : y < 18446744073709551616) (w : World) :
    Calls Tryd.prog 36 #[.int .u64 x, .int .u64 y] w fun e w' => e = .returned (.tuple #[.int .u64 ((x * y / 18446744073709551616 : Nat) : Int), .int .u64 ((x * y % 18446744073709551616 : Nat) : Int)]) ∧ w = w' := by
  obtain ⟨bd, bt, bw, hhi⟩ := Lib.mul64_hi x y hx hy
  have ba := Lib.half_mul_le (a := x / 4294967296) (b := y / 4294967296) (by omega) (by omega)
  have bb := Lib.half_mul_le (a := x / 4294967296) (b := y % 4294967296) (by omega) (by omega)
  have bc := Lib.half_mul_le (a := x % 4294967296) (b := y / 4294967296) (by omega) (by omega)
  have ba' : x / 4294967296 * (y / 4294967296) < 18446744073709551616 := by omega
  have bb' : x / 4294967296 * (y % 4294967296) < 18446744073709551616 := by omega
  have bc' : x % 4294967296 * (y / 4294967296) < 18446744073709551616 := by omega
  have bh1 : x / 4294967296 * (y / 4294967296) + (x / 4294967296 * (y % 4294967296) + x % 4294967296 * (y % 4294967296) / 4294967296) / 4294967296 < 18446744073709551616 := by omega
  have bh : x / 4294967296 * (y / 4294967296) + (x / 4294967296 * (y % 4294967296) + x % 4294967296 * (y % 4294967296) / 4294967296) / 4294967296 + ((x / 4294967296 * (y % 4294967296) + x % 4294967296 * (y % 4294967296) / 4294967296) % 4294967296 + x % 4294967296 * (y / 4294967296)) / 4294967296 < 18446744073709551616 := by omega
  go_enter Tryd.func36, Tryd.ntmps36
  go_wp2
  simp only [Mul64.maskN x hx, Mul64.maskN y hy, Mul64.divN, Mul64.mulN, Mul64.addN, Mul64.wrapN _ bd, Mul64.wrapN _ bb', Mul64.wrapN _ bt, Mul64.maskN _ bt, Mul64.wrapN _ bc', Mul64.wrapN _ bw, Mul64.wrapN _ ba', Mul64.wrapN _ bh1, Mul64.wrapN _ bh, Mul64.wrapM (x * y)]
  rw [hhi]
  go_ret2
  exact ⟨rfl, rfl⟩

/-- .. of two numbers, as integers. -/
theorem mul64_any (x y : Int) (hx : 0 ≤ x ∧ x < 18446744073709551616) (hy : 0 ≤ y ∧ y < 18446744073709551616) (w : World) :
    Calls Tryd.prog 36 #[.int .u64 x, .int .u64 y] w fun e w' => e = .returned (.tuple #[.int .u64 (x * y / 18446744073709551616), .int .u64 (x * y % 18446744073709551616)]) ∧ w = w' := by
  obtain ⟨a, rfl⟩ := Int.eq_ofNat_of_zero_le hx.1
  obtain ⟨b, rfl⟩ := Int.eq_ofNat_of_zero_le hy.1
  refine (mul64_nat a b (by omega) (by omega) w).mono ?_
  rintro e w' ⟨rfl, rfl⟩
  exact ⟨rfl, rfl⟩

theorem neg_lo {lo : Int} (h1 : 0 ≤ lo) (h2 : lo ≤ 9223372036854775808) : wrap64 (-wrap64 lo) = -lo := by unfold wrap64; omega

set_option maxHeartbeats 1000000 in
theorem mul_any (a b : Int) (x : Addr) (w : World) (ha : In64 a) (hb : In64 b) (hg : w.cell? ⟨0, 0, none⟩ = some (.iface 70 (.pointer (some x)))) :
    Calls Tryd.prog 29 #[.int .i64 a, .int .i64 b] w fun e w' => EndsO x (mulO a b) e ∧ w = w' := by
  have ha' : -9223372036854775808 ≤ a ∧ a ≤ 9223372036854775807 := ha
  have hb' : -9223372036854775808 ≤ b ∧ b ≤ 9223372036854775807 := hb
  have sa := szI_bd ha
  have sb := szI_bd hb
  obtain ⟨hi, hhi⟩ : ∃ hi, hi = szI a * szI b / 18446744073709551616 := ⟨_, rfl⟩
  obtain ⟨lo, hlo⟩ : ∃ lo, lo = szI a * szI b % 18446744073709551616 := ⟨_, rfl⟩
  obtain ⟨f1, f2, f3, f4, f5⟩ := mulO_of ha hb hhi hlo
  have hp := sz_prod_nonneg ha hb
  have hlo1 : 0 ≤ lo ∧ lo < 18446744073709551616 := by omega
  have hhi1 : 0 ≤ hi ∧ hi < 18446744073709551616 := by
    have := Int.mul_le_mul sa.2 sb.2 sb.1 (by omega)
    omega
  have hc : ∀ w, Calls Tryd.prog 36 #[.int .u64 (szI a), .int .u64 (szI b)] w fun e w' => e = .returned (.tuple #[.int .u64 hi, .int .u64 lo]) ∧ w = w' := by
    intro w
    rw [hhi, hlo]
    exact mul64_any _ _ (by omega) (by omega) w
  have H := Lib.hid hc
  clear hc hp hhi hlo
  by_cases h0 : hi = 0
  · subst h0
    have g2 := f2 rfl
    have g3 := f3 rfl
    have g4 := f4 rfl
    have g5 := f5 rfl
    clear f1 f2 f3 f4 f5
    by_cases h1 : a < 0 <;> by_cases h2 : b < 0
    · have d1 : decide (a < 0) = true := by simpa using h1
      have d2 : decide (b < 0) = true := by simpa using h2
      have e5 := g5 (by simp [h1, h2])
      have e3 := g3 (by simp [h1, h2])
      clear g2 g3 g4 g5
      by_cases h3 : lo < 9223372036854775808
      · rw [e5 h3]
        clear e3 e5
        go_enter Tryd.func29, Tryd.ntmps29
        go_wp2_with (first | (go_at_call 37; refine (size_any _ _ (by assumption)).mono ?_; rintro e w' ⟨rfl, rfl⟩) | (go_at_call 36; refine (H.out _).mono ?_; rintro e w' ⟨rfl, rfl⟩))
        go_ret
        exact ⟨rfl, rfl⟩
      · rw [e3 (by omega)]
        clear e3 e5
        go_enter Tryd.func29, Tryd.ntmps29
        go_wp2_with (first | (go_at_call 37; refine (size_any _ _ (by assumption)).mono ?_; rintro e w' ⟨rfl, rfl⟩) | (go_at_call 36; refine (H.out _).mono ?_; rintro e w' ⟨rfl, rfl⟩))
        exact ⟨rfl, rfl, rfl⟩
    · have d1 : decide (a < 0) = true := by simpa using h1
      have d2 : decide (b < 0) = false := by simpa using h2
      have e4 := g4 (by simp [h1, h2])
      have e2 := g2 (by simp [h1, h2])
      clear g2 g3 g4 g5
      by_cases h3 : 9223372036854775808 < lo
      · rw [e2 h3]
        clear e2 e4
        go_enter Tryd.func29, Tryd.ntmps29
        go_wp2_with (first | (go_at_call 37; refine (size_any _ _ (by assumption)).mono ?_; rintro e w' ⟨rfl, rfl⟩) | (go_at_call 36; refine (H.out _).mono ?_; rintro e w' ⟨rfl, rfl⟩))
        exact ⟨rfl, rfl, rfl⟩
      · rw [e4 (by omega)]
        clear e2 e4
        have E := Lib.hid (neg_lo hlo1.1 (by omega : lo ≤ 9223372036854775808))
        go_enter Tryd.func29, Tryd.ntmps29
        go_wp2_with (first | (go_at_call 37; refine (size_any _ _ (by assumption)).mono ?_; rintro e w' ⟨rfl, rfl⟩) | (go_at_call 36; refine (H.out _).mono ?_; rintro e w' ⟨rfl, rfl⟩))
        go_ret
        exact ⟨ret_int E.out, rfl⟩
    · have d1 : decide (a < 0) = false := by simpa using h1
      have d2 : decide (b < 0) = true := by simpa using h2
      have e4 := g4 (by simp [h1, h2])
      have e2 := g2 (by simp [h1, h2])
      clear g2 g3 g4 g5
      by_cases h3 : 9223372036854775808 < lo
      · rw [e2 h3]
        clear e2 e4
        go_enter Tryd.func29, Tryd.ntmps29
        go_wp2_with (first | (go_at_call 37; refine (size_any _ _ (by assumption)).mono ?_; rintro e w' ⟨rfl, rfl⟩) | (go_at_call 36; refine (H.out _).mono ?_; rintro e w' ⟨rfl, rfl⟩))
        exact ⟨rfl, rfl, rfl⟩
      · rw [e4 (by omega)]
        clear e2 e4
        have E := Lib.hid (neg_lo hlo1.1 (by omega : lo ≤ 9223372036854775808))
        go_enter Tryd.func29, Tryd.ntmps29
        go_wp2_with (first | (go_at_call 37; refine (size_any _ _ (by assumption)).mono ?_; rintro e w' ⟨rfl, rfl⟩) | (go_at_call 36; refine (H.out _).mono ?_; rintro e w' ⟨rfl, rfl⟩))
        go_ret
        exact ⟨ret_int E.out, rfl⟩
    · have d1 : decide (a < 0) = false := by simpa using h1
      have d2 : decide (b < 0) = false := by simpa using h2
      have e5 := g5 (by simp [h1, h2])
      have e3 := g3 (by simp [h1, h2])
      clear g2 g3 g4 g5
      by_cases h3 : lo < 9223372036854775808
      · rw [e5 h3]
        clear e3 e5
        go_enter Tryd.func29, Tryd.ntmps29
        go_wp2_with (first | (go_at_call 37; refine (size_any _ _ (by assumption)).mono ?_; rintro e w' ⟨rfl, rfl⟩) | (go_at_call 36; refine (H.out _).mono ?_; rintro e w' ⟨rfl, rfl⟩))
        go_ret
        exact ⟨rfl, rfl⟩
      · rw [e3 (by omega)]
        clear e3 e5
        go_enter Tryd.func29, Tryd.ntmps29
        go_wp2_with (first | (go_at_call 37; refine (size_any _ _ (by assumption)).mono ?_; rintro e w' ⟨rfl, rfl⟩) | (go_at_call 36; refine (H.out _).mono ?_; rintro e w' ⟨rfl, rfl⟩))
        exact ⟨rfl, rfl, rfl⟩
  · rw [f1 h0]
    have h0' : (hi != 0) = true := by simpa using h0
    clear f1 f2 f3 f4 f5 h0
    go_enter Tryd.func29, Tryd.ntmps29
    go_wp2_with (first | (go_at_call 37; refine (size_any _ _ (by assumption)).mono ?_; rintro e w' ⟨rfl, rfl⟩) | (go_at_call 36; refine (H.out _).mono ?_; rintro e w' ⟨rfl, rfl⟩))
    exact ⟨rfl, rfl, rfl⟩
end Go.Proofs.YtjdpocoahinbfaaDoor
