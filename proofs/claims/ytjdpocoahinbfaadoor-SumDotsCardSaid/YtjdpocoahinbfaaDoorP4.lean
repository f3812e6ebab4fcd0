/-
  PLAIN: totals of products of small numbers.
-/
import Derived.Test.YtjdpocoahinbfaaDoorP
namespace Go.Proofs.YtjdpocoahinbfaaDoor
open Go.RowKit

def Small (l : List Int) : Prop := ∀ n ∈ l, -1048576 < n ∧ n < 1048576
def dsum : List Int → List Int → Int
  | x :: l, y :: m => x * y + dsum l m
  | _, _ => 0

theorem small_mul {x y : Int} (hx : -1048576 < x ∧ x < 1048576) (hy : -1048576 < y ∧ y < 1048576) : -1099511627776 ≤ x * y ∧ x * y ≤ 1099511627776 := by
  have h1 : x.natAbs * y.natAbs ≤ 1048576 * 1048576 := Nat.mul_le_mul (by omega) (by omega)
  have h2 : (x * y).natAbs ≤ 1099511627776 := by rw [Int.natAbs_mul]; omega
  omega

theorem dotFrom_small (l : List Int) : ∀ (m : List Int) (n : Int), Small l → Small m → -4611686018427387904 + 1099511627776 * (l.length : Int) ≤ n → n ≤ 4611686018427387904 - 1099511627776 * (l.length : Int) → dotFrom n l m = some (n + dsum l m) := by
  induction l with
  | nil => intro m n _ _ _ _; simp [dotFrom, dsum]
  | cons x l ih =>
    intro m n hl hm h1 h2
    cases m with
    | nil => simp [dotFrom, dsum]
    | cons y m =>
      have hp := small_mul (hl x (by simp)) (hm y (by simp))
      have e : ((x :: l).length : Int) = (l.length : Int) + 1 := by simp
      rw [e] at h1 h2
      have ih' := ih m (n + x * y) (fun k hk => hl k (by simp [hk])) (fun k hk => hm k (by simp [hk])) (by omega) (by omega)
      have m1 := mulO_in (a := x) (b := y) (by omega) (by omega)
      have a1 := addO_in (a := n) (b := x * y) (by omega) (by omega)
      simp only [dotFrom, m1, Option.bind_some, a1, ih', dsum]
      congr 1
      omega

theorem dsum_comm : ∀ l m : List Int, dsum l m = dsum m l
  | [], [] => rfl
  | [], _ :: _ => rfl
  | _ :: _, [] => rfl
  | x :: l, y :: m => by simp only [dsum]; rw [dsum_comm l m, Int.mul_comm]
theorem dsum_ones : ∀ l : List Int, dsum l (List.replicate l.length 1) = l.sum
  | [] => rfl
  | x :: l => by rw [List.length_cons, List.replicate_succ]; simp only [dsum]; rw [dsum_ones l]; simp

theorem totFrom_small (l : List Int) : ∀ (n : Int), Small l → -4611686018427387904 + 1099511627776 * (l.length : Int) ≤ n → n ≤ 4611686018427387904 - 1099511627776 * (l.length : Int) → totFrom n l = some (n + l.sum) := by
  induction l with
  | nil => intro n _ _ _; simp [totFrom]
  | cons x l ih =>
    intro n hl h1 h2
    have hx := hl x (by simp)
    have e : ((x :: l).length : Int) = (l.length : Int) + 1 := by simp
    rw [e] at h1 h2
    have ih' := ih (n + x) (fun k hk => hl k (by simp [hk])) (by omega) (by omega)
    have a1 := addO_in (a := n) (b := x) (by omega) (by omega)
    simp only [totFrom, a1, Option.bind_some, ih', List.sum_cons]
    congr 1
    omega

/-- The law, of two rows as many of small numbers. -/
theorem dots_law {l m : List Int} (hl : Small l) (hm : Small m) (hlen : l.length ≤ 500) (hlen' : m.length = l.length) :
    dotO l m = some (dsum l m) ∧ dotO m l = some (dsum l m) ∧ dotO l (List.replicate l.length 1) = some l.sum ∧ totO l = some l.sum := by
  have h1 : Small (List.replicate l.length 1) := fun n hn => by rw [List.eq_of_mem_replicate hn]; omega
  refine ⟨?_, ?_, ?_, ?_⟩
  · have := dotFrom_small l m 0 hl hm (by omega) (by omega); simpa [dotO] using this
  · have := dotFrom_small m l 0 hm hl (by omega) (by omega); rw [dsum_comm] at this; simpa [dotO] using this
  · have := dotFrom_small l (List.replicate l.length 1) 0 hl h1 (by omega) (by omega); rw [dsum_ones] at this; simpa [dotO] using this
  · have := totFrom_small l 0 hl (by omega) (by omega); simpa [totO] using this

def modI (n : Int) : Int := n.tmod 1048576
theorem modI_bd (n : Int) : -1048576 < modI n ∧ modI n < 1048576 := by
  unfold modI
  have h1 := Int.tmod_lt_of_pos n (by omega : (0 : Int) < 1048576)
  have h2 := Int.tmod_lt_of_pos (-n) (by omega : (0 : Int) < 1048576)
  rw [Int.neg_tmod] at h2
  omega
def xL (es : List Int) (k : Nat) : List Int := (es.take k).map modI
theorem xL_len (es : List Int) (k : Nat) (h : k ≤ es.length) : (xL es k).length = k := by simp [xL]; omega
theorem xL_snoc (es : List Int) (k : Nat) (h : k < es.length) : xL es k ++ [modI (es.getD k 0)] = xL es (k + 1) := by
  unfold xL
  rw [List.take_succ_eq_append_getElem h, List.map_append]
  simp [h]
theorem xL_small (es : List Int) (k : Nat) : Small (xL es k) := by
  intro n hn
  simp only [xL, List.mem_map] at hn
  obtain ⟨y, _, rfl⟩ := hn
  exact modI_bd y
theorem small_64 {l : List Int} (h : Small l) : ∀ n ∈ l, In64 n := fun n hn => by have := h n hn; unfold In64; omega
end Go.Proofs.YtjdpocoahinbfaaDoor
