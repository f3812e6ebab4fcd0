/-
  PLAIN: reasons and levels along the trail.
-/
import Derived.Test.YtngegkgmenfelaaGm
namespace Go.Proofs.Ytngegkgmenfelaa
open Go.RowKit Go.Lib

variable {n : Nat} {T : Tr} {R : Ref}

/-- How many levels began ahead of a place. -/
def atOf (T : Tr) (i : Nat) : Nat := T.starts.countP fun s => decide (s < (i : Int))

theorem countP_next {xs : List Int} (h : xs.Nodup) (i : Int) : xs.countP (fun s => decide (s < i + 1)) = xs.countP (fun s => decide (s < i)) + if i ∈ xs then 1 else 0 := by
  induction xs with
  | nil => simp
  | cons a xs ih =>
    obtain ⟨h1, h2⟩ := List.nodup_cons.1 h
    have := ih h2
    rw [List.countP_cons, List.countP_cons, this]
    have e1 : i ≠ a → decide (a < i + 1) = decide (a < i) := fun hne => by
      by_cases h : a < i
      · rw [decide_eq_true h, decide_eq_true (by omega)]
      · rw [decide_eq_false h, decide_eq_false (by omega)]
    by_cases e : i = a
    · subst e
      rw [if_neg h1, if_pos List.mem_cons_self, if_pos (decide_eq_true (show i < i + 1 by omega)), if_neg (by simp)]
    · rw [e1 e]
      by_cases hm : i ∈ xs
      · rw [if_pos hm, if_pos (List.mem_cons_of_mem _ hm)]; omega
      · rw [if_neg hm, if_neg (fun h => (List.mem_cons.1 h).elim e hm)]
        simp only [Nat.add_zero]
theorem countP_at {xs : List Int} (h : ∀ a b, a < b → b < xs.length → xs.getD a 0 < xs.getD b 0) {j : Nat} (hj : j < xs.length) : xs.countP (fun s => decide (s < xs.getD j 0)) = j := by
  have g : ∀ a (ha : a < xs.length), xs.getD a 0 = xs[a] := fun a ha => by rw [List.getD_eq_getElem?_getD, List.getElem?_eq_getElem ha, Option.getD_some]
  have e : xs.countP (fun s => decide (s < xs.getD j 0)) = (xs.take j).countP (fun s => decide (s < xs.getD j 0)) + (xs.drop j).countP (fun s => decide (s < xs.getD j 0)) := by
    rw [← List.countP_append, List.take_append_drop]
  have e1 : (xs.take j).countP (fun s => decide (s < xs.getD j 0)) = (xs.take j).length := List.countP_eq_length.2 fun s hs => by
    obtain ⟨a, ha, rfl⟩ := List.getElem_of_mem hs
    rw [List.length_take] at ha
    rw [List.getElem_take]
    have := h a j (by omega) hj
    rw [g a (by omega)] at this
    exact decide_eq_true this
  have e2 : (xs.drop j).countP (fun s => decide (s < xs.getD j 0)) = 0 := List.countP_eq_zero.2 fun s hs => by
    obtain ⟨a, ha, rfl⟩ := List.getElem_of_mem hs
    rw [List.length_drop] at ha
    rw [List.getElem_drop]
    have : xs.getD j 0 ≤ xs[j + a] := by
      by_cases h0 : a = 0
      · subst h0; rw [g j hj]; simp
      · have := h j (j + a) (by omega) (by omega)
        rw [g (j + a) (by omega)] at this; omega
    exact fun hh => by have := of_decide_eq_true hh; omega
  rw [e, e1, e2, List.length_take]; omega

theorem Good.startsNd (h : Good n T) : T.starts.Nodup := by
  rw [List.Nodup, List.pairwise_iff_getElem]
  intro i j hi hj hij e
  have := h.stUp i j hij hj
  rw [List.getD_eq_getElem?_getD, List.getD_eq_getElem?_getD, List.getElem?_eq_getElem hi, List.getElem?_eq_getElem hj, Option.getD_some, Option.getD_some, e] at this
  omega
theorem Good.atZero (h : Good n T) : atOf T 0 = 0 := List.countP_eq_zero.2 fun s hs => by
  obtain ⟨a, ha, rfl⟩ := List.getElem_of_mem hs
  have := (h.stIn a ha).1
  rw [List.getD_eq_getElem?_getD, List.getElem?_eq_getElem ha, Option.getD_some] at this
  simp; omega
theorem Good.atEnd (h : Good n T) : atOf T T.lits.length = T.starts.length := List.countP_eq_length.2 fun s hs => by
  obtain ⟨a, ha, rfl⟩ := List.getElem_of_mem hs
  have := (h.stIn a ha).2
  rw [List.getD_eq_getElem?_getD, List.getElem?_eq_getElem ha, Option.getD_some] at this
  exact decide_eq_true this
theorem Good.atSucc (h : Good n T) (i : Nat) : atOf T (i + 1) = atOf T i + if (i : Int) ∈ T.starts then 1 else 0 := by
  have := countP_next h.startsNd (i : Int)
  unfold atOf
  rw [← this]
  rfl
theorem Good.atLevel (h : Good n T) {i : Nat} (hi : i < T.lits.length) : (factOf T (T.lits.getD i 0)).2.1 = ((atOf T (i + 1) : Nat) : Int) := by
  rw [h.lev i hi]
  unfold atOf
  congr 2
  funext s
  by_cases hs : s ≤ (i : Int)
  · rw [decide_eq_true hs, decide_eq_true (by omega)]
  · rw [decide_eq_false hs, decide_eq_false (by omega)]
theorem Good.atStart (h : Good n T) {i : Nat} (hi : (i : Int) ∈ T.starts) : atOf T i < T.starts.length ∧ startOf T (atOf T i) = i := by
  obtain ⟨j, hj, e⟩ := List.getElem_of_mem hi
  have e' : T.starts.getD j 0 = (i : Int) := by rw [List.getD_eq_getElem?_getD, List.getElem?_eq_getElem hj, Option.getD_some, e]
  have := countP_at h.stUp hj
  rw [e'] at this
  have e2 : atOf T i = j := this
  rw [e2]
  exact ⟨hj, by unfold startOf; rw [e']; rfl⟩
theorem Good.atLe (T : Tr) (i : Nat) : atOf T i ≤ T.starts.length := List.countP_le_length
theorem RelD.decidedAt (h : RelD n T R) (hg : Good n T) {i : Nat} (hi : (i : Int) ∈ T.starts) : atOf T i < R.D.length ∧ R.D.getD (atOf T i) 0 = T.lits.getD i 0 := by
  obtain ⟨h1, h2⟩ := hg.atStart hi
  rw [h.Dl]
  exact ⟨h1, by rw [h.D _ h1, h2]⟩
theorem factOf_neg (T : Tr) (x : Int) : factOf T (-x) = factOf T x := by unfold factOf isVar; rw [Int.natAbs_neg]
end Go.Proofs.Ytngegkgmenfelaa
