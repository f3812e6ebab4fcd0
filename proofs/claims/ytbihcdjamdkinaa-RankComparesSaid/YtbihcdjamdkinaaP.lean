/-
  Queues as plain lists.
-/
import Derived.Test.YtbihcdjamdkinaaWc
namespace Go.Proofs.Ytbihcdjamdkinaa

/-- The variable at a place. -/
def at_ (L : List Int) (i : Nat) : Nat := (L.getD i 0).toNat
def swL (L : List Int) (i k : Nat) : List Int := (L.set i (at_ L k)).set k (at_ L i)
def swP (L P : List Int) (i k : Nat) : List Int := (P.set (at_ L k) i).set (at_ L i) k

/-- What up does. -/
def upF (A : List Int) : Nat → Nat → List Int → List Int → List Int × List Int
  | 0, _, L, P => (L, P)
  | f + 1, i, L, P => if 0 < i ∧ ahd A (at_ L i) (at_ L ((i - 1) / 2)) = true then upF A f ((i - 1) / 2) (swL L i ((i - 1) / 2)) (swP L P i ((i - 1) / 2)) else (L, P)

/-- The one that down asks of those behind a place. -/
def kid (A L : List Int) (i : Nat) : Nat := if 2 * i + 2 < L.length ∧ ahd A (at_ L (2 * i + 2)) (at_ L (2 * i + 1)) = true then 2 * i + 2 else 2 * i + 1
/-- What down does. -/
def downF (A : List Int) : Nat → Nat → List Int → List Int → List Int × List Int
  | 0, _, L, P => (L, P)
  | f + 1, i, L, P => if kid A L i < L.length ∧ ahd A (at_ L (kid A L i)) (at_ L i) = true then downF A f (kid A L i) (swL L i (kid A L i)) (swP L P i (kid A L i)) else (L, P)

/-- Each stands where it is told to stand; all are variables. -/
structure Inv (n : Nat) (L P A : List Int) : Prop where
  lenP : P.length = n + 1
  lenA : A.length = n + 1
  at_ : ∀ i, i < L.length → ∃ v : Nat, L.getD i 0 = v ∧ 1 ≤ v ∧ v ≤ n ∧ P.getD v 0 = i

theorem Inv.var {n : Nat} {L P A : List Int} (h : Inv n L P A) {i : Nat} (hi : i < L.length) : L.getD i 0 = (Ytbihcdjamdkinaa.at_ L i : Nat) ∧ 1 ≤ Ytbihcdjamdkinaa.at_ L i ∧ Ytbihcdjamdkinaa.at_ L i ≤ n ∧ P.getD (Ytbihcdjamdkinaa.at_ L i) 0 = i := by
  obtain ⟨v, e, h1, h2, h3⟩ := h.at_ i hi
  have : Ytbihcdjamdkinaa.at_ L i = v := by unfold Ytbihcdjamdkinaa.at_; rw [e]; simp
  rw [this]
  exact ⟨e, h1, h2, h3⟩

theorem getD_set_ne {l : List Int} {i j : Nat} {x : Int} (h : i ≠ j) : (l.set i x).getD j 0 = l.getD j 0 := by
  rw [List.getD_eq_getElem?_getD, List.getElem?_set_ne h, List.getD_eq_getElem?_getD]
theorem getD_set_eq {l : List Int} {i : Nat} {x : Int} (h : i < l.length) : (l.set i x).getD i 0 = x := by
  rw [List.getD_eq_getElem?_getD]; simp [h]

theorem swL_len (L : List Int) (i k : Nat) : (swL L i k).length = L.length := by simp [swL]
theorem swP_len (L P : List Int) (i k : Nat) : (swP L P i k).length = P.length := by simp [swP]

theorem Inv.swap {n : Nat} {L P A : List Int} (h : Inv n L P A) {i k : Nat} (hi : i < L.length) (hk : k < L.length) : Inv n (swL L i k) (swP L P i k) A := by
  obtain ⟨ei, i1, i2, i3⟩ := h.var hi
  obtain ⟨ek, k1, k2, k3⟩ := h.var hk
  have hP := h.lenP
  refine ⟨by rw [swP_len]; exact hP, h.lenA, fun j hj => ?_⟩
  rw [swL_len] at hj
  unfold swL swP
  generalize Ytbihcdjamdkinaa.at_ L i = u at *
  generalize Ytbihcdjamdkinaa.at_ L k = v at *
  by_cases h1 : k = j
  · subst h1
    refine ⟨u, getD_set_eq (by simpa using hj), i1, i2, ?_⟩
    exact getD_set_eq (by simp; omega)
  · rw [getD_set_ne h1]
    by_cases h2 : i = j
    · subst h2
      refine ⟨v, getD_set_eq hj, k1, k2, ?_⟩
      have : u ≠ v := by
        intro e; subst e; rw [i3] at k3; omega
      rw [getD_set_ne this]
      exact getD_set_eq (by omega)
    · rw [getD_set_ne h2]
      obtain ⟨x, e, x1, x2, x3⟩ := h.at_ j hj
      refine ⟨x, e, x1, x2, ?_⟩
      have n1 : u ≠ x := by intro e'; subst e'; rw [i3] at x3; omega
      have n2 : v ≠ x := by intro e'; subst e'; rw [k3] at x3; omega
      rw [getD_set_ne n1, getD_set_ne n2]
      exact x3
end Go.Proofs.Ytbihcdjamdkinaa
