/-
  The order of costs, as plain facts.
-/
import Derived.Test.YtjdpocoahinbfaaDoorWh
namespace Go.Proofs.YtjdpocoahinbfaaDoor

theorem cmpI_cases (a b : Int) : (a < b ∧ cmpI a b = -1 ∧ cmpI b a = 1) ∨ (a = b ∧ cmpI a b = 0 ∧ cmpI b a = 0) ∨ (b < a ∧ cmpI a b = 1 ∧ cmpI b a = -1) := by
  unfold cmpI
  rcases Int.lt_trichotomy a b with h | h | h
  · exact .inl ⟨h, if_pos h, by rw [if_neg (by omega), if_pos h]⟩
  · subst h
    exact .inr (.inl ⟨rfl, by simp, by simp⟩)
  · exact .inr (.inr ⟨h, by rw [if_neg (by omega), if_pos h], if_pos h⟩)

theorem cmpI_zero {a b : Int} : cmpI a b = 0 ↔ a = b := by rcases cmpI_cases a b with h | h | h <;> omega
theorem cmpI_anti (a b : Int) : cmpI b a = -cmpI a b := by rcases cmpI_cases a b with h | h | h <;> omega
theorem cmpI_bd (a b : Int) : -1 ≤ cmpI a b ∧ cmpI a b ≤ 1 := by rcases cmpI_cases a b with h | h | h <;> omega

theorem cmp5_bd (a b : C5) : -1 ≤ cmp5 a b ∧ cmp5 a b ≤ 1 := by
  unfold cmp5
  repeat' split
  all_goals exact cmpI_bd _ _

theorem cmp5_anti (a b : C5) : cmp5 b a = -cmp5 a b := by
  have e0 := cmpI_anti a.a0 b.a0
  have e1 := cmpI_anti a.a1 b.a1
  have e2 := cmpI_anti a.a2 b.a2
  have e3 := cmpI_anti a.a3 b.a3
  have e4 := cmpI_anti a.a4 b.a4
  unfold cmp5
  rw [e0, e1, e2, e3, e4]
  by_cases h0 : cmpI a.a0 b.a0 = 0 <;> by_cases h1 : cmpI a.a1 b.a1 = 0 <;> by_cases h2 : cmpI a.a2 b.a2 = 0 <;> by_cases h3 : cmpI a.a3 b.a3 = 0 <;> simp [h0, h1, h2, h3]

theorem C5.eq_iff (a b : C5) : a = b ↔ a.a0 = b.a0 ∧ a.a1 = b.a1 ∧ a.a2 = b.a2 ∧ a.a3 = b.a3 ∧ a.a4 = b.a4 := by
  obtain ⟨a0, a1, a2, a3, a4⟩ := a
  obtain ⟨b0, b1, b2, b3, b4⟩ := b
  simp

theorem cmp5_zero (a b : C5) : cmp5 a b = 0 ↔ (a.a0 == b.a0 && a.a1 == b.a1 && a.a2 == b.a2 && a.a3 == b.a3 && a.a4 == b.a4) = true := by
  have z0 := @cmpI_zero a.a0 b.a0
  have z1 := @cmpI_zero a.a1 b.a1
  have z2 := @cmpI_zero a.a2 b.a2
  have z3 := @cmpI_zero a.a3 b.a3
  have z4 := @cmpI_zero a.a4 b.a4
  simp only [Bool.and_eq_true, beq_iff_eq, ← z0, ← z1, ← z2, ← z3, ← z4]
  rcases cmp5_at a b with h | h | h | h | h | h <;> simp_all

/-- 'not more' in one place: less, or alike. -/
theorem cmp5_le (a b : C5) : cmp5 a b ≤ 0 ↔ a.a0 < b.a0 ∨ (a.a0 = b.a0 ∧ (a.a1 < b.a1 ∨ (a.a1 = b.a1 ∧ (a.a2 < b.a2 ∨ (a.a2 = b.a2 ∧ (a.a3 < b.a3 ∨ (a.a3 = b.a3 ∧ a.a4 ≤ b.a4))))))) := by
  rcases cmp5_at a b with h | h | h | h | h | h <;> rcases cmpI_cases a.a0 b.a0 with c0 | c0 | c0 <;> rcases cmpI_cases a.a1 b.a1 with c1 | c1 | c1 <;> try omega
  all_goals rcases cmpI_cases a.a2 b.a2 with c2 | c2 | c2 <;> try omega
  all_goals rcases cmpI_cases a.a3 b.a3 with c3 | c3 | c3 <;> try omega
  all_goals rcases cmpI_cases a.a4 b.a4 with c4 | c4 | c4 <;> omega

theorem cmp5_trans {a b c : C5} (h1 : cmp5 a b ≤ 0) (h2 : cmp5 b c ≤ 0) : cmp5 a c ≤ 0 := by
  rw [cmp5_le] at *
  omega

theorem cmp5_self (a : C5) : cmp5 a a = 0 := by rw [cmp5_zero]; simp

/-- The least of the first k, by its place: not more than any of them. -/
theorem bestTo_least (cs : List C5) : ∀ k i, i < k → cmp5 (ccs cs (bestTo cs k).toNat) (ccs cs i) ≤ 0
  | 0, _, h => by omega
  | k + 1, i, h => by
    unfold bestTo
    by_cases h0 : bestTo cs k < 0
    · rw [if_pos (.inl h0)]
      rcases Nat.eq_zero_or_pos k with hk | hk
      · subst hk
        obtain rfl : i = 0 := by omega
        simp [cmp5_self]
      · have := (bestTo_bd cs k hk).1
        omega
    · by_cases h1 : cmp5 (ccs cs k) (ccs cs (bestTo cs k).toNat) < 0
      · rw [if_pos (.inr h1)]
        rcases Nat.lt_succ_iff_lt_or_eq.1 h with hi | rfl
        · rw [show ((k : Int)).toNat = k by simp]
          exact cmp5_trans (by omega) (bestTo_least cs k i hi)
        · simp [cmp5_self]
      · rw [if_neg (by omega)]
        rcases Nat.lt_succ_iff_lt_or_eq.1 h with hi | rfl
        · exact bestTo_least cs k i hi
        · rw [cmp5_anti]; omega
end Go.Proofs.YtjdpocoahinbfaaDoor
