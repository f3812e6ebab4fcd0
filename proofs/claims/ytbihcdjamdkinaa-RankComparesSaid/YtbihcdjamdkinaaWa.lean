/-
  rank.Compare: whatever bits.
-/
import Derived.Test.YtbihcdjamdkinaaChecked
import Derived.Test.YtbihcdjamdkinaaF
import Derived.ProofKit
import Derived.WalkKit
import Derived.Laws.Cover2
import Derived.Laws.Externs
import Derived.Calls
import Derived.Below
namespace Go.Proofs.Ytbihcdjamdkinaa
open Go.RowKit

theorem ord_self (x : Nat) : (FloatKind.f64.format.order x x != some Ordering.eq) = fnan x := by
  cases h : fnan x with
  | true => rw [order_f64_nan x x (.inl h)]; rfl
  | false => rw [order_f64 x x h h, compare_eqI rfl]; rfl

theorem isNaN_any (x : Nat) (w : World) : Calls Try.prog 47 #[.float .f64 x] w fun e w' => e = .returned (.bool (fnan x)) ∧ w' = w := by
  have h := ord_self x
  go_enter Try.func47, Try.ntmps47
  go_wp2
  go_ret
  exact ⟨rfl, rfl⟩

theorem cmpF_any (x y : Nat) (w : World) : Calls Try.prog 32 #[.float .f64 x, .float .f64 y] w fun e w' => e = .returned (.int .i64 (fcmp x y)) ∧ w' = w := by
  cases hx : fnan x with
  | true =>
    cases hy : fnan y with
    | true =>
      have hf : fcmp x y = 0 := by simp [fcmp, hx, hy]
      rw [hf]
      go_enter Try.func32, Try.ntmps32
      go_wp2_with (go_at_call 47; refine (isNaN_any _ _).mono ?_; rintro e w' ⟨rfl, rfl⟩)
      go_ret
      exact ⟨rfl, rfl⟩
    | false =>
      have hf : fcmp x y = -1 := by simp [fcmp, hx, hy]
      rw [hf]
      go_enter Try.func32, Try.ntmps32
      go_wp2_with (go_at_call 47; refine (isNaN_any _ _).mono ?_; rintro e w' ⟨rfl, rfl⟩)
      go_ret
      exact ⟨rfl, rfl⟩
  | false =>
    cases hy : fnan y with
    | true =>
      have hf : fcmp x y = 1 := by simp [fcmp, hx, hy]
      rw [hf]
      go_enter Try.func32, Try.ntmps32
      go_wp2_with (go_at_call 47; refine (isNaN_any _ _).mono ?_; rintro e w' ⟨rfl, rfl⟩)
      go_ret
      exact ⟨rfl, rfl⟩
    | false =>
      have ho := order_f64 x y hx hy
      rcases Int.lt_trichotomy (fkey x) (fkey y) with h | h | h
      · have hf : fcmp x y = -1 := by simp [fcmp, hx, hy, h]
        rw [compare_ltI h] at ho
        rw [hf]
        clear hf h
        go_enter Try.func32, Try.ntmps32
        go_wp2_with (go_at_call 47; refine (isNaN_any _ _).mono ?_; rintro e w' ⟨rfl, rfl⟩)
        go_ret
        exact ⟨rfl, rfl⟩
      · have hf : fcmp x y = 0 := by simp [fcmp, hx, hy, h]
        rw [compare_eqI h] at ho
        rw [hf]
        clear hf h
        go_enter Try.func32, Try.ntmps32
        go_wp2_with (go_at_call 47; refine (isNaN_any _ _).mono ?_; rintro e w' ⟨rfl, rfl⟩)
        go_ret
        exact ⟨rfl, rfl⟩
      · have hf : fcmp x y = 1 := by simp [fcmp, hx, hy]; omega
        rw [compare_gtI h] at ho
        rw [hf]
        clear hf h
        go_enter Try.func32, Try.ntmps32
        go_wp2_with (go_at_call 47; refine (isNaN_any _ _).mono ?_; rintro e w' ⟨rfl, rfl⟩)
        go_ret
        exact ⟨rfl, rfl⟩

theorem frombits_run (x : Int) (w : World) : (callFunc 33 #[.int .u64 x]).run Try.prog w = .ok (.value (.float .f64 x.toNat)) w := by
  rw [run_callFunc_extern (P := Try.prog) (f := 33) (fn := Try.f33) (e := Extern.MathFloatBits.float64frombits) Try.func33 (by kernel_rfl) (by kernel_rfl) (by kernel_rfl) (by kernel_rfl)]
  rfl

/-- rank.Compare. -/
theorem Compare_any (x y : Int) (w : World) : Calls Try.prog 12 #[.int .u64 x, .int .u64 y] w fun e w' => e = .returned (.int .i64 (fcmp x.toNat y.toNat)) ∧ w' = w := by
  have h1 := frombits_run
  go_enter Try.func12, Try.ntmps12
  go_wp2_with (go_at_call 32; refine (cmpF_any _ _ _).mono ?_; rintro e w' ⟨rfl, rfl⟩)
  go_ret
  exact ⟨rfl, rfl⟩
end Go.Proofs.Ytbihcdjamdkinaa
