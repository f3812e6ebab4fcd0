/-
  PLAIN: products first, their total then.
-/
import Derived.Test.YtjdpocoahinbfaaDoorP
namespace Go.Proofs.YtjdpocoahinbfaaDoor
open Go.RowKit

def prodsO : List Int → List Int → Option (List Int)
  | x :: l, y :: m => (mulO x y).bind fun p => (prodsO l m).bind fun ps => some (p :: ps)
  | _, _ => some []

theorem dot_prods : ∀ (l m : List Int) (n : Int), dotFrom n l m = (prodsO l m).bind (totFrom n)
  | [], _, n => rfl
  | _ :: _, [], n => rfl
  | x :: l, y :: m, n => by
    simp only [dotFrom, prodsO]
    cases mulO x y with
    | none => rfl
    | some p =>
      simp only [Option.bind_some, Option.bind_assoc, totFrom]
      cases h : addO n p with
      | none => cases prodsO l m <;> rfl
      | some q => simp only [Option.bind_some]; exact dot_prods l m q

theorem prods_len : ∀ (l m ps : List Int), prodsO l m = some ps → ps.length ≤ l.length
  | [], _, ps, h => by simp [prodsO] at h; subst h; simp
  | _ :: _, [], ps, h => by simp [prodsO] at h; subst h; simp
  | x :: l, y :: m, ps, h => by
    simp only [prodsO, Option.bind_eq_some_iff] at h
    obtain ⟨p, _, qs, hq, h⟩ := h
    simp at h
    have := prods_len l m qs hq
    subst h; simp; omega

/-- The products so far, and what is still to come. -/
theorem prods_next {l m ps : List Int} {p y z : Int} {k : Nat} {T : Option (List Int)} (hk : k < l.length) (hk' : k < m.length) (hy : l.getD k 0 = y) (hz : m.getD k 0 = z)
    (h : (prodsO (l.drop k) (m.drop k)).map (ps ++ ·) = T) (hm : mulO y z = some p) : (prodsO (l.drop (k + 1)) (m.drop (k + 1))).map ((ps ++ [p]) ++ ·) = T := by
  rw [drop_getD hk, drop_getD hk', hy, hz] at h
  simp only [prodsO, hm, Option.bind_some] at h
  rw [← h]
  cases prodsO (l.drop (k + 1)) (m.drop (k + 1)) <;> simp
theorem prods_stop {l m ps : List Int} {y z : Int} {k : Nat} {T : Option (List Int)} (hk : k < l.length) (hk' : k < m.length) (hy : l.getD k 0 = y) (hz : m.getD k 0 = z)
    (h : (prodsO (l.drop k) (m.drop k)).map (ps ++ ·) = T) (hm : mulO y z = none) : T = none := by
  rw [drop_getD hk, drop_getD hk', hy, hz] at h
  simp only [prodsO, hm] at h
  exact h.symm
theorem prods_end {l m ps : List Int} {k : Nat} {T : Option (List Int)} (hk : ¬ k < l.length) (h : (prodsO (l.drop k) (m.drop k)).map (ps ++ ·) = T) : T = some ps := by
  rw [List.drop_eq_nil_of_le (by omega)] at h
  rw [← h]
  simp [prodsO]
theorem in64_snoc {ps : List Int} {p : Int} (h : ∀ n ∈ ps, In64 n) (hp : In64 p) : ∀ n ∈ ps ++ [p], In64 n := by
  intro n hn
  simp at hn
  rcases hn with hn | rfl
  · exact h n hn
  · exact hp
end Go.Proofs.YtjdpocoahinbfaaDoor
