/-
  cmp.Compare, sum.Compare, the reference's Compare.
-/
import Derived.Test.YtjdpocoahinbfaaDoorWf
namespace Go.Proofs.YtjdpocoahinbfaaDoor
open Go.RowKit Go.Lib

def cmpI (a b : Int) : Int := if a < b then -1 else if b < a then 1 else 0

theorem isNaN_any (a : Int) (w : World) : Calls Tryd.prog 38 #[.int .i64 a] w fun e w' => e = .returned (.bool false) ∧ w = w' := by
  have h : (a != a) = false := by simp
  go_enter Tryd.func38, Tryd.ntmps38
  go_wp2
  go_ret
  exact ⟨rfl, rfl⟩

theorem cmp_any (a b : Int) (w : World) : Calls Tryd.prog 32 #[.int .i64 a, .int .i64 b] w fun e w' => e = .returned (.int .i64 (cmpI a b)) ∧ w = w' := by
  by_cases h1 : a < b
  · rw [show cmpI a b = -1 from if_pos h1]
    go_enter Tryd.func32, Tryd.ntmps32
    go_wp2_with (go_at_call 38; refine (isNaN_any _ _).mono ?_; rintro e w' ⟨rfl, rfl⟩)
    go_ret
    exact ⟨rfl, rfl⟩
  · by_cases h2 : b < a
    · rw [show cmpI a b = 1 from (if_neg h1).trans (if_pos h2)]
      go_enter Tryd.func32, Tryd.ntmps32
      go_wp2_with (go_at_call 38; refine (isNaN_any _ _).mono ?_; rintro e w' ⟨rfl, rfl⟩)
      go_ret
      exact ⟨rfl, rfl⟩
    · rw [show cmpI a b = 0 from (if_neg h1).trans (if_neg h2)]
      go_enter Tryd.func32, Tryd.ntmps32
      go_wp2_with (go_at_call 38; refine (isNaN_any _ _).mono ?_; rintro e w' ⟨rfl, rfl⟩)
      go_ret
      exact ⟨rfl, rfl⟩

/-- A cost. -/
structure C5 where
  a0 : Int
  a1 : Int
  a2 : Int
  a3 : Int
  a4 : Int
abbrev C5.v (c : C5) : Value := .agg #[.int .i64 c.a0, .int .i64 c.a1, .int .i64 c.a2, .int .i64 c.a3, .int .i64 c.a4]

def cmp5 (a b : C5) : Int :=
  if cmpI a.a0 b.a0 ≠ 0 then cmpI a.a0 b.a0 else if cmpI a.a1 b.a1 ≠ 0 then cmpI a.a1 b.a1 else if cmpI a.a2 b.a2 ≠ 0 then cmpI a.a2 b.a2 else
  if cmpI a.a3 b.a3 ≠ 0 then cmpI a.a3 b.a3 else cmpI a.a4 b.a4

theorem idx0 (a0 a1 a2 a3 a4 : Int) (w : World) : (Instr.index 32 (.agg #[.int .i64 a0, .int .i64 a1, .int .i64 a2, .int .i64 a3, .int .i64 a4]) (.int .i64 0)).run Tryd.prog w = .ok (.int .i64 a0) w := by kernel_rfl
theorem idx1 (a0 a1 a2 a3 a4 : Int) (w : World) : (Instr.index 32 (.agg #[.int .i64 a0, .int .i64 a1, .int .i64 a2, .int .i64 a3, .int .i64 a4]) (.int .i64 1)).run Tryd.prog w = .ok (.int .i64 a1) w := by kernel_rfl
theorem idx2 (a0 a1 a2 a3 a4 : Int) (w : World) : (Instr.index 32 (.agg #[.int .i64 a0, .int .i64 a1, .int .i64 a2, .int .i64 a3, .int .i64 a4]) (.int .i64 2)).run Tryd.prog w = .ok (.int .i64 a2) w := by kernel_rfl
theorem idx3 (a0 a1 a2 a3 a4 : Int) (w : World) : (Instr.index 32 (.agg #[.int .i64 a0, .int .i64 a1, .int .i64 a2, .int .i64 a3, .int .i64 a4]) (.int .i64 3)).run Tryd.prog w = .ok (.int .i64 a3) w := by kernel_rfl
theorem idx4 (a0 a1 a2 a3 a4 : Int) (w : World) : (Instr.index 32 (.agg #[.int .i64 a0, .int .i64 a1, .int .i64 a2, .int .i64 a3, .int .i64 a4]) (.int .i64 4)).run Tryd.prog w = .ok (.int .i64 a4) w := by kernel_rfl

theorem cmp5_at (a b : C5) : (cmpI a.a0 b.a0 ≠ 0 ∧ cmp5 a b = cmpI a.a0 b.a0) ∨ (cmpI a.a0 b.a0 = 0 ∧ cmpI a.a1 b.a1 ≠ 0 ∧ cmp5 a b = cmpI a.a1 b.a1) ∨
    (cmpI a.a0 b.a0 = 0 ∧ cmpI a.a1 b.a1 = 0 ∧ cmpI a.a2 b.a2 ≠ 0 ∧ cmp5 a b = cmpI a.a2 b.a2) ∨
    (cmpI a.a0 b.a0 = 0 ∧ cmpI a.a1 b.a1 = 0 ∧ cmpI a.a2 b.a2 = 0 ∧ cmpI a.a3 b.a3 ≠ 0 ∧ cmp5 a b = cmpI a.a3 b.a3) ∨
    (cmpI a.a0 b.a0 = 0 ∧ cmpI a.a1 b.a1 = 0 ∧ cmpI a.a2 b.a2 = 0 ∧ cmpI a.a3 b.a3 = 0 ∧ cmpI a.a4 b.a4 ≠ 0 ∧ cmp5 a b = cmpI a.a4 b.a4) ∨
    (cmpI a.a0 b.a0 = 0 ∧ cmpI a.a1 b.a1 = 0 ∧ cmpI a.a2 b.a2 = 0 ∧ cmpI a.a3 b.a3 = 0 ∧ cmpI a.a4 b.a4 = 0 ∧ cmp5 a b = 0) := by
  by_cases h0 : cmpI a.a0 b.a0 = 0 <;> by_cases h1 : cmpI a.a1 b.a1 = 0 <;> by_cases h2 : cmpI a.a2 b.a2 = 0 <;> by_cases h3 : cmpI a.a3 b.a3 = 0 <;> by_cases h4 : cmpI a.a4 b.a4 = 0 <;> simp [cmp5, h0, h1, h2, h3, h4]

set_option maxHeartbeats 2000000 in
theorem Compare_any (a b : C5) (w : World) : Calls Tryd.prog 19 #[a.v, b.v] w fun e w' => e = .returned (.int .i64 (cmp5 a b)) ∧ Below w.heap.size w w' := by
  have hat := cmp5_at a b
  obtain ⟨a0, a1, a2, a3, a4⟩ := a
  obtain ⟨b0, b1, b2, b3, b4⟩ := b
  have hB : Below w.heap.size w ((w.alloc (.cells #[.int .i64 a0, .int .i64 a1, .int .i64 a2, .int .i64 a3, .int .i64 a4] 32)).alloc (.cells #[.int .i64 b0, .int .i64 b1, .int .i64 b2, .int .i64 b3, .int .i64 b4] 32)) := ((Below.refl _ _).alloc (Nat.le_refl _) _).alloc (by simp) _
  have HB := Lib.hid hB
  clear hB
  have i0 := idx0 a0 a1 a2 a3 a4
  have i1 := idx1 a0 a1 a2 a3 a4
  have i2 := idx2 a0 a1 a2 a3 a4
  have i3 := idx3 a0 a1 a2 a3 a4
  have i4 := idx4 a0 a1 a2 a3 a4
  rcases hat with ⟨h0, e⟩ | ⟨h0, h1, e⟩ | ⟨h0, h1, h2, e⟩ | ⟨h0, h1, h2, h3, e⟩ | ⟨h0, h1, h2, h3, h4, e⟩ | ⟨h0, h1, h2, h3, h4, e⟩
  · dsimp only at *
    rw [e]
    clear e
    have g0 : (cmpI a0 b0 != 0) = true := by simpa using h0
    clear h0
    go_enter Tryd.func19, Tryd.ntmps19
    go_wp2
    refine wp_loop_rounds 6 ?_
    rw [rounds_succ]
    go_wp2_with (go_at_call 32; refine (cmp_any _ _ _).mono ?_; rintro e w' ⟨rfl, rfl⟩)
    go_ret
    exact ⟨rfl, HB.out⟩
  · dsimp only at *
    rw [e]
    clear e
    have g0 : (cmpI a0 b0 != 0) = false := by simpa using h0
    have g1 : (cmpI a1 b1 != 0) = true := by simpa using h1
    clear h0 h1
    go_enter Tryd.func19, Tryd.ntmps19
    go_wp2
    refine wp_loop_rounds 6 ?_
    rw [rounds_succ]
    go_wp2_with (go_at_call 32; refine (cmp_any _ _ _).mono ?_; rintro e w' ⟨rfl, rfl⟩)
    rw [rounds_succ]
    go_wp2_with (go_at_call 32; refine (cmp_any _ _ _).mono ?_; rintro e w' ⟨rfl, rfl⟩)
    go_ret
    exact ⟨rfl, HB.out⟩
  · dsimp only at *
    rw [e]
    clear e
    have g0 : (cmpI a0 b0 != 0) = false := by simpa using h0
    have g1 : (cmpI a1 b1 != 0) = false := by simpa using h1
    have g2 : (cmpI a2 b2 != 0) = true := by simpa using h2
    clear h0 h1 h2
    go_enter Tryd.func19, Tryd.ntmps19
    go_wp2
    refine wp_loop_rounds 6 ?_
    rw [rounds_succ]
    go_wp2_with (go_at_call 32; refine (cmp_any _ _ _).mono ?_; rintro e w' ⟨rfl, rfl⟩)
    rw [rounds_succ]
    go_wp2_with (go_at_call 32; refine (cmp_any _ _ _).mono ?_; rintro e w' ⟨rfl, rfl⟩)
    rw [rounds_succ]
    go_wp2_with (go_at_call 32; refine (cmp_any _ _ _).mono ?_; rintro e w' ⟨rfl, rfl⟩)
    go_ret
    exact ⟨rfl, HB.out⟩
  · dsimp only at *
    rw [e]
    clear e
    have g0 : (cmpI a0 b0 != 0) = false := by simpa using h0
    have g1 : (cmpI a1 b1 != 0) = false := by simpa using h1
    have g2 : (cmpI a2 b2 != 0) = false := by simpa using h2
    have g3 : (cmpI a3 b3 != 0) = true := by simpa using h3
    clear h0 h1 h2 h3
    go_enter Tryd.func19, Tryd.ntmps19
    go_wp2
    refine wp_loop_rounds 6 ?_
    rw [rounds_succ]
    go_wp2_with (go_at_call 32; refine (cmp_any _ _ _).mono ?_; rintro e w' ⟨rfl, rfl⟩)
    rw [rounds_succ]
    go_wp2_with (go_at_call 32; refine (cmp_any _ _ _).mono ?_; rintro e w' ⟨rfl, rfl⟩)
    rw [rounds_succ]
    go_wp2_with (go_at_call 32; refine (cmp_any _ _ _).mono ?_; rintro e w' ⟨rfl, rfl⟩)
    rw [rounds_succ]
    go_wp2_with (go_at_call 32; refine (cmp_any _ _ _).mono ?_; rintro e w' ⟨rfl, rfl⟩)
    go_ret
    exact ⟨rfl, HB.out⟩
  · dsimp only at *
    rw [e]
    clear e
    have g0 : (cmpI a0 b0 != 0) = false := by simpa using h0
    have g1 : (cmpI a1 b1 != 0) = false := by simpa using h1
    have g2 : (cmpI a2 b2 != 0) = false := by simpa using h2
    have g3 : (cmpI a3 b3 != 0) = false := by simpa using h3
    have g4 : (cmpI a4 b4 != 0) = true := by simpa using h4
    clear h0 h1 h2 h3 h4
    go_enter Tryd.func19, Tryd.ntmps19
    go_wp2
    refine wp_loop_rounds 6 ?_
    rw [rounds_succ]
    go_wp2_with (go_at_call 32; refine (cmp_any _ _ _).mono ?_; rintro e w' ⟨rfl, rfl⟩)
    rw [rounds_succ]
    go_wp2_with (go_at_call 32; refine (cmp_any _ _ _).mono ?_; rintro e w' ⟨rfl, rfl⟩)
    rw [rounds_succ]
    go_wp2_with (go_at_call 32; refine (cmp_any _ _ _).mono ?_; rintro e w' ⟨rfl, rfl⟩)
    rw [rounds_succ]
    go_wp2_with (go_at_call 32; refine (cmp_any _ _ _).mono ?_; rintro e w' ⟨rfl, rfl⟩)
    rw [rounds_succ]
    go_wp2_with (go_at_call 32; refine (cmp_any _ _ _).mono ?_; rintro e w' ⟨rfl, rfl⟩)
    go_ret
    exact ⟨rfl, HB.out⟩
  · dsimp only at *
    rw [e]
    clear e
    have g0 : (cmpI a0 b0 != 0) = false := by simpa using h0
    have g1 : (cmpI a1 b1 != 0) = false := by simpa using h1
    have g2 : (cmpI a2 b2 != 0) = false := by simpa using h2
    have g3 : (cmpI a3 b3 != 0) = false := by simpa using h3
    have g4 : (cmpI a4 b4 != 0) = false := by simpa using h4
    clear h0 h1 h2 h3 h4
    go_enter Tryd.func19, Tryd.ntmps19
    go_wp2
    refine wp_loop_rounds 6 ?_
    rw [rounds_succ]
    go_wp2_with (go_at_call 32; refine (cmp_any _ _ _).mono ?_; rintro e w' ⟨rfl, rfl⟩)
    rw [rounds_succ]
    go_wp2_with (go_at_call 32; refine (cmp_any _ _ _).mono ?_; rintro e w' ⟨rfl, rfl⟩)
    rw [rounds_succ]
    go_wp2_with (go_at_call 32; refine (cmp_any _ _ _).mono ?_; rintro e w' ⟨rfl, rfl⟩)
    rw [rounds_succ]
    go_wp2_with (go_at_call 32; refine (cmp_any _ _ _).mono ?_; rintro e w' ⟨rfl, rfl⟩)
    rw [rounds_succ]
    go_wp2_with (go_at_call 32; refine (cmp_any _ _ _).mono ?_; rintro e w' ⟨rfl, rfl⟩)
    rw [rounds_succ]
    go_wp2_with (go_at_call 32; refine (cmp_any _ _ _).mono ?_; rintro e w' ⟨rfl, rfl⟩)
    go_ret
    exact ⟨rfl, HB.out⟩
end Go.Proofs.YtjdpocoahinbfaaDoor
