/-
  PLAIN: sums and products of two numbers of 64 bits, or none.
-/
import Derived.WalkKit
namespace Go.Proofs.YtjdpocoahinbfaaDoor
open Go.RowKit

def addO (a b : Int) : Option Int := if -9223372036854775808 ≤ a + b ∧ a + b ≤ 9223372036854775807 then some (a + b) else none
def mulO (a b : Int) : Option Int := if -9223372036854775808 ≤ a * b ∧ a * b ≤ 9223372036854775807 then some (a * b) else none
/-- A number of 64 bits. -/
def In64 (a : Int) : Prop := -9223372036854775808 ≤ a ∧ a ≤ 9223372036854775807

theorem addO_in {a b : Int} (h1 : -9223372036854775808 ≤ a + b) (h2 : a + b ≤ 9223372036854775807) : addO a b = some (a + b) := if_pos ⟨h1, h2⟩
theorem addO_out {a b : Int} (h : a + b < -9223372036854775808 ∨ 9223372036854775807 < a + b) : addO a b = none := if_neg (by omega)
theorem mulO_in {a b : Int} (h1 : -9223372036854775808 ≤ a * b) (h2 : a * b ≤ 9223372036854775807) : mulO a b = some (a * b) := if_pos ⟨h1, h2⟩
theorem mulO_out {a b : Int} (h : a * b < -9223372036854775808 ∨ 9223372036854775807 < a * b) : mulO a b = none := if_neg (by omega)

def valO (o : Option Int) : Int := o.getD 0
def errO (o : Option Int) : Int := if o.isSome then 0 else 2

theorem addO_neg_in {a b : Int} (ha : In64 a) (hb : In64 b) (h1 : a < 0) (h2 : b < 0) (h3 : wrap64 (a + b) < 0) : addO a b = some (wrap64 (a + b)) := by
  unfold In64 at ha hb; unfold wrap64 at *
  rw [addO_in (by omega) (by omega)]; congr 1; omega
theorem addO_neg_out {a b : Int} (ha : In64 a) (hb : In64 b) (h1 : a < 0) (h2 : b < 0) (h3 : ¬ wrap64 (a + b) < 0) : addO a b = none := by
  unfold In64 at ha hb; unfold wrap64 at *
  exact addO_out (by omega)
theorem addO_pos_in {a b : Int} (ha : In64 a) (hb : In64 b) (h1 : ¬ a < 0) (h2 : ¬ b < 0) (h3 : ¬ wrap64 (a + b) < 0) : addO a b = some (wrap64 (a + b)) := by
  unfold In64 at ha hb; unfold wrap64 at *
  rw [addO_in (by omega) (by omega)]; congr 1; omega
theorem addO_pos_out {a b : Int} (ha : In64 a) (hb : In64 b) (h1 : ¬ a < 0) (h2 : ¬ b < 0) (h3 : wrap64 (a + b) < 0) : addO a b = none := by
  unfold In64 at ha hb; unfold wrap64 at *
  exact addO_out (by omega)
theorem addO_mix {a b : Int} (ha : In64 a) (hb : In64 b) (h : (a < 0 ∧ ¬ b < 0) ∨ (¬ a < 0 ∧ b < 0)) : addO a b = some (a + b) := by
  unfold In64 at ha hb
  exact addO_in (by omega) (by omega)

/-- A number without its sign. -/
def szI (a : Int) : Int := if a < 0 then -a else a
theorem szI_bd {a : Int} (h : In64 a) : 0 ≤ szI a ∧ szI a ≤ 9223372036854775808 := by unfold szI In64 at *; split <;> omega

theorem mul_sz (a b : Int) : a * b = if (decide (a < 0) != decide (b < 0)) then -(szI a * szI b) else szI a * szI b := by
  unfold szI
  by_cases h1 : a < 0 <;> by_cases h2 : b < 0 <;> simp [h1, h2, Int.neg_mul, Int.mul_neg]

theorem sz_prod_nonneg {a b : Int} (ha : In64 a) (hb : In64 b) : 0 ≤ szI a * szI b := Int.mul_nonneg (szI_bd ha).1 (szI_bd hb).1

/-- The product's two halves, and what they say of it. -/
theorem mulO_of {a b hi lo : Int} (ha : In64 a) (hb : In64 b) (hhi : hi = szI a * szI b / 18446744073709551616) (hlo : lo = szI a * szI b % 18446744073709551616) :
    (hi ≠ 0 → mulO a b = none) ∧
    (hi = 0 → (decide (a < 0) != decide (b < 0)) = true → 9223372036854775808 < lo → mulO a b = none) ∧
    (hi = 0 → (decide (a < 0) != decide (b < 0)) = false → 9223372036854775808 ≤ lo → mulO a b = none) ∧
    (hi = 0 → (decide (a < 0) != decide (b < 0)) = true → lo ≤ 9223372036854775808 → mulO a b = some (-lo)) ∧
    (hi = 0 → (decide (a < 0) != decide (b < 0)) = false → lo < 9223372036854775808 → mulO a b = some lo) := by
  have hp := sz_prod_nonneg ha hb
  have hm := mul_sz a b
  generalize szI a * szI b = p at *
  refine ⟨fun h => ?_, fun h hs h' => ?_, fun h hs h' => ?_, fun h hs h' => ?_, fun h hs h' => ?_⟩
  · apply mulO_out; split at hm <;> omega
  · rw [hs, if_pos rfl] at hm; apply mulO_out; omega
  · rw [hs, if_neg (by simp)] at hm; apply mulO_out; omega
  · rw [hs, if_pos rfl] at hm; rw [mulO_in (by omega) (by omega)]; congr 1; omega
  · rw [hs, if_neg (by simp)] at hm; rw [mulO_in (by omega) (by omega)]; congr 1; omega

theorem addO_comm (a b : Int) : addO a b = addO b a := by unfold addO; rw [Int.add_comm]
theorem mulO_comm (a b : Int) : mulO a b = mulO b a := by unfold mulO; rw [Int.mul_comm]
theorem addO_bd {a b n : Int} (h : addO a b = some n) : In64 n := by unfold addO at h; unfold In64; split at h <;> simp at h; omega
theorem mulO_bd {a b n : Int} (h : mulO a b = some n) : In64 n := by
  unfold mulO at h; unfold In64; split at h
  · rename_i hc; simp at h; rw [← h]; exact hc
  · simp at h
theorem valO_bd {o : Option Int} (h : ∀ n, o = some n → In64 n) : In64 (valO o) := by cases o with | none => exact ⟨by decide, by decide⟩ | some n => exact h n rfl

/-- A total, from a number on. -/
def totFrom (n : Int) : List Int → Option Int
  | [] => some n
  | x :: l => (addO n x).bind fun m => totFrom m l
def totO (l : List Int) : Option Int := totFrom 0 l

/-- A total of products, from a number on. -/
def dotFrom (n : Int) : List Int → List Int → Option Int
  | x :: l, y :: m => (mulO x y).bind fun p => (addO n p).bind fun q => dotFrom q l m
  | _, _ => some n
def dotO (l m : List Int) : Option Int := dotFrom 0 l m

theorem totFrom_bd : ∀ (l : List Int) (n : Int), In64 n → ∀ m, totFrom n l = some m → In64 m
  | [], n, hn, m, h => by simp [totFrom] at h; exact h ▸ hn
  | x :: l, n, hn, m, h => by
    simp only [totFrom, Option.bind_eq_some_iff] at h
    obtain ⟨k, hk, h⟩ := h
    exact totFrom_bd l k (addO_bd hk) m h
theorem in64_0 : In64 0 := ⟨by decide, by decide⟩
theorem totO_bd {l : List Int} {m : Int} (h : totO l = some m) : In64 m := totFrom_bd l 0 in64_0 m h

theorem drop_getD {l : List Int} {k : Nat} (h : k < l.length) : l.drop k = l.getD k 0 :: l.drop (k + 1) := by
  rw [List.drop_eq_getElem_cons h]; simp [h]
theorem in64_getD {l : List Int} (h : ∀ n ∈ l, In64 n) (k : Nat) : In64 (l.getD k 0) := by
  by_cases hk : k < l.length
  · have e : l.getD k 0 = l[k] := by simp [hk]
    rw [e]; exact h _ (List.getElem_mem hk)
  · have e : l.getD k 0 = 0 := by simp [hk]
    rw [e]; exact in64_0

/-- One round of Total's loop. -/
theorem tot_next {l : List Int} {n m z : Int} {k : Nat} {T : Option Int} (hk : k < l.length) (hz : l.getD k 0 = z) (h : totFrom n (l.drop k) = T) (ha : addO n z = some m) : totFrom m (l.drop (k + 1)) = T := by
  rw [drop_getD hk, hz] at h
  simpa [totFrom, ha] using h
theorem tot_stop {l : List Int} {n z : Int} {k : Nat} {T : Option Int} (hk : k < l.length) (hz : l.getD k 0 = z) (h : totFrom n (l.drop k) = T) (ha : addO n z = none) : T = none := by
  rw [drop_getD hk, hz] at h
  simpa [totFrom, ha] using h.symm
theorem tot_end {l : List Int} {n : Int} {k : Nat} {T : Option Int} (hk : ¬ k < l.length) (h : totFrom n (l.drop k) = T) : T = some n := by
  rw [List.drop_eq_nil_of_le (by omega)] at h
  exact h.symm

theorem dot_next {l m : List Int} {n p q y z : Int} {k : Nat} {T : Option Int} (hk : k < l.length) (hk' : k < m.length) (hy : l.getD k 0 = y) (hz : m.getD k 0 = z) (h : dotFrom n (l.drop k) (m.drop k) = T) (hm : mulO y z = some p) (ha : addO n p = some q) :
    dotFrom q (l.drop (k + 1)) (m.drop (k + 1)) = T := by
  rw [drop_getD hk, drop_getD hk', hy, hz] at h
  simpa [dotFrom, hm, ha] using h
theorem dot_stop1 {l m : List Int} {n y z : Int} {k : Nat} {T : Option Int} (hk : k < l.length) (hk' : k < m.length) (hy : l.getD k 0 = y) (hz : m.getD k 0 = z) (h : dotFrom n (l.drop k) (m.drop k) = T) (hm : mulO y z = none) : T = none := by
  rw [drop_getD hk, drop_getD hk', hy, hz] at h
  simpa [dotFrom, hm] using h.symm
theorem dot_stop2 {l m : List Int} {n p y z : Int} {k : Nat} {T : Option Int} (hk : k < l.length) (hk' : k < m.length) (hy : l.getD k 0 = y) (hz : m.getD k 0 = z) (h : dotFrom n (l.drop k) (m.drop k) = T) (hm : mulO y z = some p) (ha : addO n p = none) : T = none := by
  rw [drop_getD hk, drop_getD hk', hy, hz] at h
  simpa [dotFrom, hm, ha] using h.symm
theorem dot_end {l m : List Int} {n : Int} {k : Nat} {T : Option Int} (hk : ¬ k < l.length) (h : dotFrom n (l.drop k) (m.drop k) = T) : T = some n := by
  rw [List.drop_eq_nil_of_le (by omega)] at h
  exact h.symm
end Go.Proofs.YtjdpocoahinbfaaDoor
