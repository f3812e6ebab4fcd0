/-
  Bump, Take, Put, whatever they are given.
-/
import Derived.Test.YtbihcdjamdkinaaIn
namespace Go.Proofs.Ytbihcdjamdkinaa
open Go.RowKit Go.Lib

def okB (n : Nat) (v y : Int) : Bool := decide (1 ≤ v ∧ v ≤ n ∧ 0 ≤ y ∧ y ≤ 1099511627776)
def bC (n : Nat) (v y : Int) : Int := if okB n v y then 0 else 1
def bA (n : Nat) (A : List Int) (v y : Int) : List Int := if okB n v y then bumpA A v.toNat y else A
def bS (n : Nat) (A : List Int) (v y sc : Int) : Int := if okB n v y then bumpS A v.toNat y sc else sc
def tI (n : Nat) (A : List Int) (I : Nat → Bool) : Nat → Bool := if topF A I n = 0 then I else upd I (topF A I n) false
def tOk (n : Nat) (A : List Int) (I : Nat → Bool) : Bool := decide (topF A I n ≠ 0)
def pC (n : Nat) (I : Nat → Bool) (v : Int) : Int := if 1 ≤ v ∧ v ≤ n then (if I v.toNat = true then 7 else 0) else 1
def pI (n : Nat) (I : Nat → Bool) (v : Int) : Nat → Bool := if 1 ≤ v ∧ v ≤ n then upd I v.toNat true else I

theorem upd_id {I : Nat → Bool} {v : Nat} {x : Bool} (h : I v = x) : upd I v x = I := by
  funext u; unfold upd; split
  · rename_i e; subst e; exact h.symm
  · rfl

section
variable {w : World} {B : Nat → Prop} {b n : Nat} {A : List Int} {I : Nat → Bool} {sc : Int}

theorem Bump_all (h : RankAt w B b n A I sc) (v y : Int) (hs : sc ≤ 1000000) :
    Calls Try.prog 19 #[.pointer (some ⟨b, 0, none⟩), .int .i64 v, .int .i64 y] w fun e w' => e = .returned (.int .i64 (bC n v y)) ∧ Keep B w w' ∧ RankAt w' B b n (bA n A v y) I (bS n A v y sc) := by
  unfold bC bA bS
  cases ho : okB n v y with
  | true =>
    have ho' := of_decide_eq_true ho
    obtain ⟨u, rfl⟩ := Int.eq_ofNat_of_zero_le (show 0 ≤ v by omega)
    exact Bump_ok h u y (by omega) (by omega) (by omega) hs
  | false =>
    have ho' := of_decide_eq_false ho
    refine (Bump_err h v y (by omega)).mono ?_
    rintro e w' ⟨he, rfl⟩
    exact ⟨he, Keep.refl _ _, h⟩

theorem Take_all (h : RankAt w B b n A I sc) :
    Calls Try.prog 20 #[.pointer (some ⟨b, 0, none⟩)] w fun e w' => e = .returned (.tuple #[.int .i64 (topF A I n : Nat), .bool (tOk n A I)]) ∧ Keep B w w' ∧ RankAt w' B b n A (tI n A I) sc := by
  unfold tOk tI
  by_cases h0 : topF A I n = 0
  · rw [if_pos h0]
    refine (Take_none h h0).mono ?_
    rintro e w' ⟨he, rfl⟩
    refine ⟨?_, Keep.refl _ _, h⟩
    rw [he, h0]; rfl
  · rw [if_neg h0, decide_eq_true h0]
    exact Take_some h h0

theorem Put_all (h : RankAt w B b n A I sc) (v : Int) :
    Calls Try.prog 21 #[.pointer (some ⟨b, 0, none⟩), .int .i64 v] w fun e w' => e = .returned (.int .i64 (pC n I v)) ∧ Keep B w w' ∧ RankAt w' B b n A (pI n I v) sc := by
  unfold pC pI
  by_cases hv : 1 ≤ v ∧ v ≤ n
  · rw [if_pos hv, if_pos hv]
    obtain ⟨u, rfl⟩ := Int.eq_ofNat_of_zero_le (show 0 ≤ v by omega)
    rw [Int.toNat_natCast]
    cases hi : I u with
    | true =>
      refine (Put_there h u (by omega) (by omega) hi).mono ?_
      rintro e w' ⟨he, rfl⟩
      exact ⟨he, Keep.refl _ _, by rw [upd_id hi]; exact h⟩
    | false => exact Put_ok h u (by omega) (by omega) hi
  · rw [if_neg hv, if_neg hv]
    refine (Put_no h v (by omega)).mono ?_
    rintro e w' ⟨he, rfl⟩
    exact ⟨he, Keep.refl _ _, h⟩

theorem ofV_bd (h : RankAt w B b n A I sc) (v : Int) : 0 ≤ ofV n A v ∧ ofV n A v ≤ 1125899906842624 := by
  unfold ofV; split
  · exact h.bd _
  · omega
end

theorem bA_keeps {n : Nat} {A : List Int} {x y : Int} (hl : A.length = n + 1) {v w : Int} (hA : ∀ j, 0 ≤ A.getD j 0) (h : ofV n A v ≤ ofV n A w) (h1 : x ≠ v) (h2 : x ≠ w) : ofV n (bA n A x y) v ≤ ofV n (bA n A x y) w := by
  unfold bA
  cases ho : okB n x y with
  | false => exact h
  | true =>
    have ho' := of_decide_eq_true ho
    have hs : ∀ j, j ≠ x.toNat → (A.set x.toNat (A.getD x.toNat 0 + y)).getD j 0 = A.getD j 0 := fun j hj => getD_set_ne (fun e => hj e.symm)
    have hd : ∀ u, 1 ≤ u ∧ u ≤ (n : Int) → x ≠ u → (bumpA A x.toNat y).getD u.toNat 0 = if over A x.toNat y then A.getD u.toNat 0 / 2 else A.getD u.toNat 0 := fun u hu hx => by
      unfold bumpA
      split
      · rw [halfTo_lt _ _ _ (by omega) (by rw [List.length_set]; omega), hs _ (by omega)]
      · rw [hs _ (by omega)]
    show ofV n (bumpA A x.toNat y) v ≤ ofV n (bumpA A x.toNat y) w
    unfold ofV at h ⊢
    have a1 := hA v.toNat
    have a2 := hA w.toNat
    by_cases hv : 1 ≤ v ∧ v ≤ n
    · rw [if_pos hv, hd v hv h1]
      rw [if_pos hv] at h
      by_cases hw : 1 ≤ w ∧ w ≤ n
      · rw [if_pos hw, hd w hw h2]
        rw [if_pos hw] at h
        split <;> omega
      · rw [if_neg hw]
        rw [if_neg hw] at h
        split <;> omega
    · rw [if_neg hv]
      by_cases hw : 1 ≤ w ∧ w ≤ n
      · rw [if_pos hw, hd w hw h2]
        split <;> omega
      · rw [if_neg hw]; exact Int.le_refl _
theorem bS_bd (n : Nat) (A : List Int) (v y sc : Int) : sc ≤ bS n A v y sc ∧ bS n A v y sc ≤ sc + 1 := by
  unfold bS bumpS; split
  · split <;> omega
  · omega
end Go.Proofs.Ytbihcdjamdkinaa
