/-
  The reference: Add, Mul.
-/
import Derived.Test.YtjdpocoahinbfaaDoorWc
import Derived.Test.YtjdpocoahinbfaaDoorQ
import Derived.Outline
namespace Go.Proofs.YtjdpocoahinbfaaDoor
open Go.RowKit Go.Lib

theorem radd_any (a b : Int) (w : World) (ha : In64 a) (hb : In64 b) :
    Calls Tryd.prog 12 #[.int .i64 a, .int .i64 b] w fun e w' => e = .returned (.tuple #[.int .i64 (valO (addO a b)), .int .i64 (errO (addO a b))]) ∧ w = w' := by
  have ha' : -9223372036854775808 ≤ a ∧ a ≤ 9223372036854775807 := ha
  have hb' : -9223372036854775808 ≤ b ∧ b ≤ 9223372036854775807 := hb
  by_cases h1 : 0 < b
  · have d1 : decide (0 < b) = true := by simpa using h1
    by_cases h2 : 9223372036854775807 - b < a
    · have d2 : decide (9223372036854775807 - b < a) = true := by simpa using h2
      rw [addO_out (by omega)]
      go_enter Tryd.func12, Tryd.ntmps12
      go_wp2
      go_ret2
      exact ⟨rfl, rfl⟩
    · have d2 : decide (9223372036854775807 - b < a) = false := by simpa using h2
      have d3 : decide (b < 0) = false := by simp; omega
      rw [addO_in (by omega) (by omega)]
      have g1 : -9223372036854775808 ≤ a + b := by omega
      have g2 : a + b ≤ 9223372036854775807 := by omega
      go_enter Tryd.func12, Tryd.ntmps12
      go_wp2
      go_ret2
      exact ⟨rfl, rfl⟩
  · have d1 : decide (0 < b) = false := by simpa using h1
    by_cases h3 : b < 0
    · have d3 : decide (b < 0) = true := by simpa using h3
      by_cases h2 : a < -9223372036854775808 - b
      · have d2 : decide (a < -9223372036854775808 - b) = true := by simpa using h2
        rw [addO_out (by omega)]
        go_enter Tryd.func12, Tryd.ntmps12
        go_wp2
        go_ret2
        exact ⟨rfl, rfl⟩
      · have d2 : decide (a < -9223372036854775808 - b) = false := by simpa using h2
        rw [addO_in (by omega) (by omega)]
        have g1 : -9223372036854775808 ≤ a + b := by omega
        have g2 : a + b ≤ 9223372036854775807 := by omega
        go_enter Tryd.func12, Tryd.ntmps12
        go_wp2
        go_ret2
        exact ⟨rfl, rfl⟩
    · have d3 : decide (b < 0) = false := by simpa using h3
      rw [addO_in (by omega) (by omega)]
      have g1 : -9223372036854775808 ≤ a + b := by omega
      have g2 : a + b ≤ 9223372036854775807 := by omega
      go_enter Tryd.func12, Tryd.ntmps12
      go_wp2
      go_ret2
      exact ⟨rfl, rfl⟩

set_option maxHeartbeats 2000000 in
theorem rmul_any (a b : Int) (w : World) (ha : In64 a) (hb : In64 b) :
    Calls Tryd.prog 14 #[.int .i64 a, .int .i64 b] w fun e w' => e = .returned (.tuple #[.int .i64 (valO (mulO a b)), .int .i64 (errO (mulO a b))]) ∧ w = w' := by
  have ha' : -9223372036854775808 ≤ a ∧ a ≤ 9223372036854775807 := ha
  have hb' : -9223372036854775808 ≤ b ∧ b ≤ 9223372036854775807 := hb
  by_cases h1 : a = 0
  · rw [mulO_zero (.inl h1)]
    have d1 : (a == 0) = true := by simpa using h1
    clear h1
    go_enter Tryd.func14, Tryd.ntmps14
    go_wp2
    go_ret2
    exact ⟨rfl, rfl⟩
  have d1 : (a == 0) = false := by simpa using h1
  by_cases h2 : b = 0
  · rw [mulO_zero (.inr h2)]
    have d2 : (b == 0) = true := by simpa using h2
    clear h2
    go_enter Tryd.func14, Tryd.ntmps14
    go_wp2
    go_ret2
    exact ⟨rfl, rfl⟩
  have d2 : (b == 0) = false := by simpa using h2
  by_cases h3 : a = -9223372036854775808
  · have d3 : (a == -9223372036854775808) = true := by simpa using h3
    by_cases h4 : b = 1
    · have d4 : (b == 1) = true := by simpa using h4
      have d5 : (a == 1) = false := by simp; omega
      rw [mulO_least (.inl h3) (.inr h4)]
      clear h1 h2 h3 h4
      go_enter Tryd.func14, Tryd.ntmps14
      go_wp2
      go_ret2
      exact ⟨rfl, rfl⟩
    · have d4 : (b == 1) = false := by simpa using h4
      have d5 : (a == 1) = false := by simp; omega
      rw [mulO_least_out (.inl h3) h1 h2 (by omega) h4]
      clear h1 h2 h3 h4
      go_enter Tryd.func14, Tryd.ntmps14
      go_wp2
      go_ret2
      exact ⟨rfl, rfl⟩
  have d3 : (a == -9223372036854775808) = false := by simpa using h3
  by_cases h5 : b = -9223372036854775808
  · have d6 : (b == -9223372036854775808) = true := by simpa using h5
    by_cases h4 : a = 1
    · have d4 : (a == 1) = true := by simpa using h4
      rw [mulO_least (.inr h5) (.inl h4)]
      clear h1 h2 h3 h4 h5
      go_enter Tryd.func14, Tryd.ntmps14
      go_wp2
      go_ret2
      exact ⟨rfl, rfl⟩
    · have d4 : (a == 1) = false := by simpa using h4
      have d5 : (b == 1) = false := by simp; omega
      rw [mulO_least_out (.inr h5) h1 h2 h4 (by omega)]
      clear h1 h2 h3 h4 h5
      go_enter Tryd.func14, Tryd.ntmps14
      go_wp2
      go_ret2
      exact ⟨rfl, rfl⟩
  have d6 : (b == -9223372036854775808) = false := by simpa using h5
  have sx := szI_bd ha
  have sy := szI_bd hb
  by_cases na : a < 0 <;> by_cases nb : b < 0
  · obtain ⟨x, rfl⟩ : ∃ x, a = -x := ⟨-a, by omega⟩
    have ex : x = szI (-x) := by unfold szI; rw [if_pos (by omega)]; omega
    obtain ⟨y, rfl⟩ : ∃ x, b = -x := ⟨-b, by omega⟩
    have ey : y = szI (-y) := by unfold szI; rw [if_pos (by omega)]; omega
    have x1 : 1 ≤ x := by omega
    have y1 : 1 ≤ y := by omega
    have x2 : x ≤ 9223372036854775807 := by omega
    have y2 : y ≤ 9223372036854775807 := by omega
    have q0 : 0 ≤ 9223372036854775807 / y := Int.ediv_nonneg (by omega) (by omega)
    have q1 : 9223372036854775807 / y ≤ 9223372036854775807 := Int.ediv_le_self _ (by omega)
    have r0 : 0 ≤ 9223372036854775807 % y := Int.emod_nonneg _ (by omega)
    have da : decide (-x < 0) = true := by simp; omega
    have db : decide (-y < 0) = true := by simp; omega
    obtain ⟨f1, f2, f3, f4, f5⟩ := mulO_ref ex ey x1 y1 x2 y2
    rw [da, db] at f1 f2 f3 f4 f5
    have da2 : decide (0 < x) = true := by simp; omega
    clear da
    have db2 : decide (0 < y) = true := by simp; omega
    clear db
    clear ha hb ha' hb' ex ey sx sy h1 h2 h3 h5
    by_cases h6 : 9223372036854775807 / y < x
    · rw [f3 h6 rfl]
      clear f1 f2 f3 f4 f5
      go_enter Tryd.func14, Tryd.ntmps14
      go_wp2
      go_ret2
      exact ⟨rfl, rfl⟩
    · obtain ⟨f6, p1, p2⟩ := f5 h6 rfl
      rw [f6]
      clear f1 f2 f3 f4 f5 f6
      go_enter Tryd.func14, Tryd.ntmps14
      go_wp2
      go_ret2
      exact ⟨rfl, rfl⟩
  · obtain ⟨x, rfl⟩ : ∃ x, a = -x := ⟨-a, by omega⟩
    have ex : x = szI (-x) := by unfold szI; rw [if_pos (by omega)]; omega
    have ey : b = szI b := by unfold szI; rw [if_neg (by omega)]
    have x1 : 1 ≤ x := by omega
    have y1 : 1 ≤ b := by omega
    have x2 : x ≤ 9223372036854775807 := by omega
    have y2 : b ≤ 9223372036854775807 := by omega
    have q0 : 0 ≤ 9223372036854775807 / b := Int.ediv_nonneg (by omega) (by omega)
    have q1 : 9223372036854775807 / b ≤ 9223372036854775807 := Int.ediv_le_self _ (by omega)
    have r0 : 0 ≤ 9223372036854775807 % b := Int.emod_nonneg _ (by omega)
    have da : decide (-x < 0) = true := by simp; omega
    have db : decide (b < 0) = false := by simp; omega
    obtain ⟨f1, f2, f3, f4, f5⟩ := mulO_ref ex ey x1 y1 x2 y2
    rw [da, db] at f1 f2 f3 f4 f5
    have da2 : decide (0 < x) = true := by simp; omega
    clear da
    clear ha hb ha' hb' ex ey sx sy h1 h2 h3 h5
    by_cases h6 : 9223372036854775807 / b < x
    · have q2 : 9223372036854775807 / b + 1 ≤ 9223372036854775807 := by omega
      by_cases h7 : 9223372036854775807 % b = b - 1
      · have d7 : (9223372036854775807 % b == b - 1) = true := by simpa using h7
        by_cases h8 : x = 9223372036854775807 / b + 1
        · have d8 : (x == 9223372036854775807 / b + 1) = true := by simpa using h8
          rw [f1 h6 rfl h7 h8]
          clear f1 f2 f3 f4 f5 h7 h8
          go_enter Tryd.func14, Tryd.ntmps14
          go_wp2
          go_ret2
          exact ⟨rfl, rfl⟩
        · have d8 : (x == 9223372036854775807 / b + 1) = false := by simpa using h8
          rw [f2 h6 rfl (.inr h8)]
          clear f1 f2 f3 f4 f5 h7 h8
          go_enter Tryd.func14, Tryd.ntmps14
          go_wp2
          go_ret2
          exact ⟨rfl, rfl⟩
      · have d7 : (9223372036854775807 % b == b - 1) = false := by simpa using h7
        rw [f2 h6 rfl (.inl h7)]
        clear f1 f2 f3 f4 f5 h7
        go_enter Tryd.func14, Tryd.ntmps14
        go_wp2
        go_ret2
        exact ⟨rfl, rfl⟩
    · obtain ⟨f6, p1, p2⟩ := f4 h6 rfl
      rw [f6]
      clear f1 f2 f3 f4 f5 f6
      go_enter Tryd.func14, Tryd.ntmps14
      go_wp2
      go_ret2
      exact ⟨rfl, rfl⟩
  · have ex : a = szI a := by unfold szI; rw [if_neg (by omega)]
    obtain ⟨y, rfl⟩ : ∃ a, b = -a := ⟨-b, by omega⟩
    have ey : y = szI (-y) := by unfold szI; rw [if_pos (by omega)]; omega
    have x1 : 1 ≤ a := by omega
    have y1 : 1 ≤ y := by omega
    have x2 : a ≤ 9223372036854775807 := by omega
    have y2 : y ≤ 9223372036854775807 := by omega
    have q0 : 0 ≤ 9223372036854775807 / y := Int.ediv_nonneg (by omega) (by omega)
    have q1 : 9223372036854775807 / y ≤ 9223372036854775807 := Int.ediv_le_self _ (by omega)
    have r0 : 0 ≤ 9223372036854775807 % y := Int.emod_nonneg _ (by omega)
    have da : decide (a < 0) = false := by simp; omega
    have db : decide (-y < 0) = true := by simp; omega
    obtain ⟨f1, f2, f3, f4, f5⟩ := mulO_ref ex ey x1 y1 x2 y2
    rw [da, db] at f1 f2 f3 f4 f5
    have db2 : decide (0 < y) = true := by simp; omega
    clear db
    clear ha hb ha' hb' ex ey sx sy h1 h2 h3 h5
    by_cases h6 : 9223372036854775807 / y < a
    · have q2 : 9223372036854775807 / y + 1 ≤ 9223372036854775807 := by omega
      by_cases h7 : 9223372036854775807 % y = y - 1
      · have d7 : (9223372036854775807 % y == y - 1) = true := by simpa using h7
        by_cases h8 : a = 9223372036854775807 / y + 1
        · have d8 : (a == 9223372036854775807 / y + 1) = true := by simpa using h8
          rw [f1 h6 rfl h7 h8]
          clear f1 f2 f3 f4 f5 h7 h8
          go_enter Tryd.func14, Tryd.ntmps14
          go_wp2
          go_ret2
          exact ⟨rfl, rfl⟩
        · have d8 : (a == 9223372036854775807 / y + 1) = false := by simpa using h8
          rw [f2 h6 rfl (.inr h8)]
          clear f1 f2 f3 f4 f5 h7 h8
          go_enter Tryd.func14, Tryd.ntmps14
          go_wp2
          go_ret2
          exact ⟨rfl, rfl⟩
      · have d7 : (9223372036854775807 % y == y - 1) = false := by simpa using h7
        rw [f2 h6 rfl (.inl h7)]
        clear f1 f2 f3 f4 f5 h7
        go_enter Tryd.func14, Tryd.ntmps14
        go_wp2
        go_ret2
        exact ⟨rfl, rfl⟩
    · obtain ⟨f6, p1, p2⟩ := f4 h6 rfl
      rw [f6]
      clear f1 f2 f3 f4 f5 f6
      go_enter Tryd.func14, Tryd.ntmps14
      go_wp2
      go_ret2
      exact ⟨rfl, rfl⟩
  · have ex : a = szI a := by unfold szI; rw [if_neg (by omega)]
    have ey : b = szI b := by unfold szI; rw [if_neg (by omega)]
    have x1 : 1 ≤ a := by omega
    have y1 : 1 ≤ b := by omega
    have x2 : a ≤ 9223372036854775807 := by omega
    have y2 : b ≤ 9223372036854775807 := by omega
    have q0 : 0 ≤ 9223372036854775807 / b := Int.ediv_nonneg (by omega) (by omega)
    have q1 : 9223372036854775807 / b ≤ 9223372036854775807 := Int.ediv_le_self _ (by omega)
    have r0 : 0 ≤ 9223372036854775807 % b := Int.emod_nonneg _ (by omega)
    have da : decide (a < 0) = false := by simp; omega
    have db : decide (b < 0) = false := by simp; omega
    obtain ⟨f1, f2, f3, f4, f5⟩ := mulO_ref ex ey x1 y1 x2 y2
    rw [da, db] at f1 f2 f3 f4 f5
    clear ha hb ha' hb' ex ey sx sy h1 h2 h3 h5
    by_cases h6 : 9223372036854775807 / b < a
    · rw [f3 h6 rfl]
      clear f1 f2 f3 f4 f5
      go_enter Tryd.func14, Tryd.ntmps14
      go_wp2
      go_ret2
      exact ⟨rfl, rfl⟩
    · obtain ⟨f6, p1, p2⟩ := f5 h6 rfl
      rw [f6]
      clear f1 f2 f3 f4 f5 f6
      go_enter Tryd.func14, Tryd.ntmps14
      go_wp2
      go_ret2
      exact ⟨rfl, rfl⟩
end Go.Proofs.YtjdpocoahinbfaaDoor
