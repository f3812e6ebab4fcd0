/-
  PLAIN: totals of numbers that are not below 0; of parts; of the same ones in the other order.
-/
import Derived.Test.YtjdpocoahinbfaaDoorP
namespace Go.Proofs.YtjdpocoahinbfaaDoor
open Go.RowKit

def NonNeg (l : List Int) : Prop := ∀ n ∈ l, 0 ≤ n

theorem sum_nonneg : ∀ {l : List Int}, NonNeg l → 0 ≤ l.sum
  | [], _ => by simp
  | x :: l, h => by
    have h1 := h x (by simp)
    have h2 := sum_nonneg (l := l) (fun n hn => h n (by simp [hn]))
    simp; omega

/-- A total of numbers none of which is below 0: their sum, or there is no room for it. -/
theorem totFrom_nn : ∀ (l : List Int) (n : Int), 0 ≤ n → n ≤ 9223372036854775807 → NonNeg l → totFrom n l = if n + l.sum ≤ 9223372036854775807 then some (n + l.sum) else none
  | [], n, h0, h1, _ => by simp [totFrom, h1]
  | x :: l, n, h0, h1, h => by
    have hx := h x (by simp)
    have hl : NonNeg l := fun m hm => h m (by simp [hm])
    have hs := sum_nonneg hl
    show ((addO n x).bind fun m => totFrom m l) = _
    rw [List.sum_cons]
    by_cases h2 : n + x ≤ 9223372036854775807
    · rw [addO_in (by omega) h2, Option.bind_some, totFrom_nn l (n + x) (by omega) h2 hl, Int.add_assoc]
    · rw [addO_out (by omega), if_neg (by omega)]
      rfl

theorem totO_nn {l : List Int} (h : NonNeg l) : totO l = if l.sum ≤ 9223372036854775807 then some l.sum else none := by
  have := totFrom_nn l 0 (by omega) (by omega) h
  simpa [totO] using this

theorem sum_rev : ∀ l : List Int, l.reverse.sum = l.sum
  | [] => rfl
  | x :: l => by rw [List.reverse_cons, List.sum_append, sum_rev l]; simp; omega
theorem sum_cut (l : List Int) (k : Nat) : l.sum = (l.take k).sum + (l.drop k).sum := by
  rw [← List.sum_append, List.take_append_drop]

theorem NonNeg.take {l : List Int} (h : NonNeg l) (k : Nat) : NonNeg (l.take k) := fun n hn => h n (List.mem_of_mem_take hn)
theorem NonNeg.drop {l : List Int} (h : NonNeg l) (k : Nat) : NonNeg (l.drop k) := fun n hn => h n (List.mem_of_mem_drop hn)
theorem NonNeg.reverse {l : List Int} (h : NonNeg l) : NonNeg l.reverse := fun n hn => h n (by simpa using hn)

/-- What SumParts lays of a number. -/
def nnI (n : Int) : Int := if n < 0 then -(n + 1) else n
theorem nnI_nn (n : Int) : 0 ≤ nnI n := by unfold nnI; split <;> omega
theorem nnI_64 {n : Int} (h : In64 n) : In64 (nnI n) := by unfold In64 nnI at *; split <;> omega

/-- The law on totals of parts, as numbers. -/
theorem parts_law {m : List Int} (h : NonNeg m) (k : Nat) :
    totO m.reverse = totO m ∧
    ((totO m = none ∧ (totO (m.take k) = none ∨ totO (m.drop k) = none)) ∨
     (∃ a b, totO (m.take k) = some a ∧ totO (m.drop k) = some b ∧ totO m = addO a b)) := by
  have hs := sum_cut m k
  have s1 := sum_nonneg (h.take k)
  have s2 := sum_nonneg (h.drop k)
  rw [totO_nn h, totO_nn h.reverse, sum_rev, totO_nn (h.take k), totO_nn (h.drop k)]
  refine ⟨rfl, ?_⟩
  by_cases h1 : (m.take k).sum ≤ 9223372036854775807
  · by_cases h2 : (m.drop k).sum ≤ 9223372036854775807
    · right
      refine ⟨_, _, if_pos h1, if_pos h2, ?_⟩
      by_cases h3 : m.sum ≤ 9223372036854775807
      · rw [if_pos h3, addO_in (by omega) (by omega), hs]
      · rw [if_neg h3, addO_out (by omega)]
    · left
      exact ⟨if_neg (by omega), .inr (if_neg h2)⟩
  · left
    exact ⟨if_neg (by omega), .inl (if_neg h1)⟩

/-- Behind i stores: the first i numbers, from the end on; the rest still 0. -/
def backL (m : List Int) (i : Nat) : List Int := List.replicate (m.length - i) 0 ++ (m.take i).reverse
theorem backL_len (m : List Int) (i : Nat) (h : i ≤ m.length) : (backL m i).length = m.length := by simp [backL]; omega
theorem backL_zero (m : List Int) : backL m 0 = List.replicate m.length 0 := by simp [backL]
theorem backL_all (m : List Int) : backL m m.length = m.reverse := by simp [backL]
theorem backL_set (m : List Int) (i : Nat) (h : i < m.length) : (backL m i).set (m.length - 1 - i) (m.getD i 0) = backL m (i + 1) := by
  apply List.ext_getElem
  · rw [List.length_set, backL_len m i (by omega), backL_len m (i + 1) (by omega)]
  · intro j h1 h2
    rw [List.length_set, backL_len m i (by omega)] at h1
    simp only [backL]
    rw [List.getElem_set]
    by_cases hj : m.length - 1 - i = j
    · rw [if_pos hj, List.getElem_append_right (by simp; omega)]
      simp [h]
      congr 1
      omega
    · rw [if_neg hj]
      by_cases hj2 : j < m.length - 1 - i
      · rw [List.getElem_append_left (by simp; omega), List.getElem_append_left (by simp; omega)]
        simp
      · rw [List.getElem_append_right (by simp; omega), List.getElem_append_right (by simp; omega)]
        simp
        congr 1
        omega
end Go.Proofs.YtjdpocoahinbfaaDoor
