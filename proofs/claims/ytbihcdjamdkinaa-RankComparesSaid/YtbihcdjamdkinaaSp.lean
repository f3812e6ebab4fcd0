/-
  The order of floats as numbers; what the insertion sort leaves is sorted.
-/
import Derived.Test.YtbihcdjamdkinaaSc
namespace Go.Proofs.Ytbihcdjamdkinaa
open Go.RowKit Go.Lib

/-- A float's rank: none is below all. -/
def fk (x : Nat) : Int := if fnan x then -9223372036854775809 else fkey x
theorem fk_lo (x : Nat) : -9223372036854775809 ≤ fk x ∧ (fnan x = false → -9223372036854775808 ≤ fk x) := by
  unfold fk fkey frung
  split
  · rename_i h; exact ⟨Int.le_refl _, fun h' => by rw [h] at h'; cases h'⟩
  · split <;> constructor <;> omega
theorem fcmp_eq (x y : Nat) : fcmp x y = if fk x < fk y then -1 else if fk y < fk x then 1 else 0 := by
  have hx := fk_lo x
  have hy := fk_lo y
  unfold fcmp
  cases h1 : fnan x with
  | true =>
    cases h2 : fnan y with
    | true => simp [fk, h1, h2]
    | false =>
      have e : fk x = -9223372036854775809 := by simp [fk, h1]
      have := hy.2 h2
      simp [e]; omega
  | false =>
    cases h2 : fnan y with
    | true =>
      have e : fk y = -9223372036854775809 := by simp [fk, h2]
      have := hx.2 h1
      simp [e]; omega
    | false => simp [fk, h1, h2]
theorem fcmp_neg {x y : Nat} : fcmp x y < 0 ↔ fk x < fk y := by rw [fcmp_eq]; split <;> (try split) <;> omega
theorem fcmp_pos {x y : Nat} : 0 < fcmp x y ↔ fk y < fk x := by rw [fcmp_eq]; split <;> (try split) <;> omega
theorem fcmp_zero {x y : Nat} : fcmp x y = 0 ↔ fk x = fk y := by rw [fcmp_eq]; split <;> (try split) <;> omega

/-- The rank of the float at a place. -/
def kAt (xs : List Int) (i : Nat) : Int := fk (xs.getD i 0).toNat
theorem fcmpAt_neg {xs : List Int} {i k : Nat} : fcmpAt xs i k < 0 ↔ kAt xs i < kAt xs k := fcmp_neg
theorem fcmpAt_pos {xs : List Int} {i k : Nat} : 0 < fcmpAt xs i k ↔ kAt xs k < kAt xs i := fcmp_pos
theorem ltX_iff {xs : List Int} {x y : Int} : ltX xs x y = true ↔ kAt xs y.toNat < kAt xs x.toNat := by unfold ltX; rw [decide_eq_true_iff]; exact fcmpAt_neg
theorem ltX_no {xs : List Int} {x y : Int} : ltX xs x y = false ↔ kAt xs x.toNat ≤ kAt xs y.toNat := by
  have := ltX_iff (xs := xs) (x := x) (y := y)
  cases h : ltX xs x y with
  | true => rw [h] at this; simp at this; simp; omega
  | false => rw [h] at this; simp at this; simp; omega

/-- The one order: the greater float first; of the same ones the lesser place. -/
def TX (xs : List Int) (x y : Int) : Prop := kAt xs y.toNat < kAt xs x.toNat ∨ (kAt xs y.toNat = kAt xs x.toNat ∧ x < y)
theorem TX.trans {xs : List Int} {x y z : Int} (h : TX xs x y) (k : TX xs y z) : TX xs x z := by unfold TX at *; omega

/-- From lo to hi all stand in that order. -/
def Srt (xs es : List Int) (lo hi : Nat) : Prop := ∀ i j, lo ≤ i → i < j → j < hi → TX xs (es.getD i 0) (es.getD j 0)

/-- What is kept: the same members, all outside lo to hi where it was. -/
structure Perm' (es es' : List Int) (lo hi : Nat) : Prop where
  perm : es'.Perm es
  out : ∀ j, j < lo ∨ hi ≤ j → es'.getD j 0 = es.getD j 0
  all : ∀ (p : Int → Prop), (∀ j, lo ≤ j → j < hi → p (es.getD j 0)) → ∀ j, lo ≤ j → j < hi → p (es'.getD j 0)
theorem Perm'.refl (es : List Int) (lo hi : Nat) : Perm' es es lo hi := ⟨.refl _, fun _ _ => rfl, fun _ h => h⟩
theorem Perm'.trans {a b c : List Int} {lo hi : Nat} (h : Perm' a b lo hi) (k : Perm' b c lo hi) : Perm' a c lo hi :=
  ⟨k.perm.trans h.perm, fun j hj => (k.out j hj).trans (h.out j hj), fun p hp => k.all p (h.all p hp)⟩
theorem Perm'.len {a b : List Int} {lo hi : Nat} (h : Perm' a b lo hi) : b.length = a.length := h.perm.length_eq
theorem Perm'.mono {a b : List Int} {lo hi lo' hi' : Nat} (h : Perm' a b lo hi) (h1 : lo' ≤ lo) (h2 : hi ≤ hi') : Perm' a b lo' hi' :=
  ⟨h.perm, fun j hj => h.out j (by omega), fun p hp j j1 j2 => by
    by_cases e : lo ≤ j ∧ j < hi
    · exact h.all p (fun j a b => hp j (by omega) (by omega)) j e.1 e.2
    · rw [h.out j (by omega)]; exact hp j j1 j2⟩
theorem swE_perm {es : List Int} {i k : Nat} (hi : i < es.length) (hk : k < es.length) {lo hi' : Nat} (h1 : lo ≤ i) (h2 : i < hi') (h3 : lo ≤ k) (h4 : k < hi') : Perm' es (swE es i k) lo hi' := by
  refine ⟨?_, fun j hj => ?_, fun p hp j j1 j2 => ?_⟩
  · have := List.set_set_perm hi hk
    unfold swE
    rw [List.getD_eq_getElem?_getD, List.getD_eq_getElem?_getD, List.getElem?_eq_getElem hi, List.getElem?_eq_getElem hk]
    exact this
  · rw [getD_swE hi hk, if_neg (by omega), if_neg (by omega)]
  · rw [getD_swE hi hk]
    split
    · exact hp i h1 h2
    · split
      · exact hp k h3 h4
      · exact hp j j1 j2

theorem insIn_srt (xs : List Int) (lo i : Nat) : ∀ (j : Nat) (es : List Int), lo ≤ j → j ≤ i → i < es.length →
    (∀ p q, lo ≤ p → p < q → q ≤ i → p ≠ j → q ≠ j → TX xs (es.getD p 0) (es.getD q 0)) → (∀ q, j < q → q ≤ i → TX xs (es.getD j 0) (es.getD q 0)) → (∀ p, lo ≤ p → p < j → es.getD p 0 < es.getD j 0) →
    Srt xs (insIn xs lo j es) lo (i + 1) ∧ Perm' es (insIn xs lo j es) lo (i + 1)
  | 0, es, hj, hi, hl, h1, h2, _ => by
    unfold insIn
    refine ⟨fun p q a b c => ?_, .refl _ _ _⟩
    by_cases e : p = 0
    · subst e; exact h2 q b (by omega)
    · exact h1 p q a b (by omega) e (by omega)
  | j + 1, es, hj, hi, hl, h1, h2, h3 => by
    unfold insIn
    by_cases hc : lo < j + 1 ∧ ltX xs (es.getD (j + 1) 0) (es.getD j 0) = true
    · rw [if_pos hc]
      obtain ⟨hlo, hlt⟩ := hc
      have hjl : j < es.length := by omega
      have hjl' : j + 1 < es.length := by omega
      have hT : TX xs (es.getD (j + 1) 0) (es.getD j 0) := .inl (ltX_iff.1 hlt)
      have g := fun k => getD_swE hjl' hjl k
      have ih := insIn_srt xs lo i j (swE es (j + 1) j) (by omega) (by omega) (by rw [swE_len]; exact hl) (fun p q a b c d e => ?_) (fun q a b => ?_) (fun p a b => ?_)
      · exact ⟨ih.1, (swE_perm hjl' hjl (by omega) (by omega) (by omega) (by omega)).trans ih.2⟩
      · rw [g p, g q, if_neg d, if_neg e]
        by_cases e1 : p = j + 1
        · subst e1
          rw [if_pos rfl, if_neg (by omega)]
          exact h1 j q (by omega) (by omega) c (by omega) (by omega)
        · rw [if_neg e1]
          by_cases e2 : q = j + 1
          · subst e2
            rw [if_pos rfl]
            exact h1 p j a (by omega) (by omega) (by omega) (by omega)
          · rw [if_neg e2]
            exact h1 p q a b c e1 e2
      · rw [g j, g q, if_pos rfl, if_neg (by omega)]
        by_cases e2 : q = j + 1
        · rw [if_pos e2]; exact hT
        · rw [if_neg e2]; exact h2 q (by omega) b
      · rw [g p, g j, if_neg (by omega), if_neg (by omega), if_pos rfl]
        exact h3 p a (by omega)
    · rw [if_neg hc]
      refine ⟨fun p q a b c => ?_, .refl _ _ _⟩
      by_cases e1 : p = j + 1
      · subst e1; exact h2 q b (by omega)
      · by_cases e2 : q = j + 1
        · subst e2
          have hlo : lo < j + 1 := by omega
          have hno : ltX xs (es.getD (j + 1) 0) (es.getD j 0) = false := by
            cases hh : ltX xs (es.getD (j + 1) 0) (es.getD j 0) with
            | true => exact absurd ⟨hlo, hh⟩ hc
            | false => rfl
          have hT : TX xs (es.getD j 0) (es.getD (j + 1) 0) := by
            have a := ltX_no.1 hno
            have b := h3 j (by omega) (by omega)
            unfold TX; omega
          by_cases e3 : p = j
          · subst e3; exact hT
          · exact (h1 p j a (by omega) (by omega) e1 (by omega)).trans hT
        · exact h1 p q a b (by omega) e1 e2

/-- The insertion sort, of places that rise. -/
theorem insOut_srt (xs : List Int) (lo : Nat) : ∀ (k i : Nat) (es : List Int), lo ≤ i → i + k ≤ es.length → Srt xs es lo i → (∀ p q, lo ≤ p → p < q → i ≤ q → q < i + k → es.getD p 0 < es.getD q 0) →
    Srt xs (insOut xs lo k i es) lo (i + k) ∧ Perm' es (insOut xs lo k i es) lo (i + k)
  | 0, i, es, _, _, h, _ => ⟨h, .refl _ _ _⟩
  | k + 1, i, es, hlo, hl, h, hr => by
    unfold insOut
    obtain ⟨s1, p1⟩ := insIn_srt xs lo i i es hlo (Nat.le_refl _) (by omega) (fun p q a b c d e => h p q a b (by omega)) (fun q a b => by omega) (fun p a b => hr p i a b (Nat.le_refl _) (by omega))
    have ih := insOut_srt xs lo k (i + 1) (insIn xs lo i es) (by omega) (by rw [p1.len]; omega) s1 (fun p q a b c d => ?_)
    · rw [show i + 1 + k = i + (k + 1) from by omega] at ih
      exact ⟨ih.1, (p1.mono (Nat.le_refl _) (by omega)).trans ih.2⟩
    · rw [p1.out q (by omega)]
      by_cases e : p < i + 1
      · exact p1.all (fun z => z < es.getD q 0) (fun j j1 j2 => hr j q j1 (by omega) (by omega) (by omega)) p a e
      · rw [p1.out p (by omega)]
        exact hr p q a b (by omega) (by omega)

/-- What Order tells: all places, in that order. -/
def Ordered (xs : List Int) (len : Nat) (es : List Int) : Prop := es.Perm (upI len) ∧ Srt xs es 0 len

theorem small_ordered (xs : List Int) (n : Nat) (h0 : 0 < n) : Ordered xs n (insOut xs 0 (n - (0 + 1)) (0 + 1) (upI n)) := by
  have h := insOut_srt xs 0 (n - 1) 1 (upI n) (by omega) (by rw [upI_len]; omega) (fun i j a b c => by omega) (fun p q a b c d => by rw [upI_getD (by omega), upI_getD (by omega)]; omega)
  rw [show 1 + (n - 1) = n from by omega] at h
  exact ⟨h.2.perm, h.1⟩

theorem Srt.pairwise {xs es : List Int} {n : Nat} (h : Srt xs es 0 n) (hl : es.length = n) : es.Pairwise (TX xs) := by
  rw [List.pairwise_iff_getElem]
  intro i j hi hj hij
  have := h i j (Nat.zero_le _) hij (by omega)
  rwa [List.getD_eq_getElem?_getD, List.getD_eq_getElem?_getD, List.getElem?_eq_getElem hi, List.getElem?_eq_getElem hj] at this

/-- There is one such row. -/
theorem Ordered.one {xs es es' : List Int} {n : Nat} (h : Ordered xs n es) (k : Ordered xs n es') : es = es' := by
  have l1 : es.length = n := by rw [h.1.length_eq, upI_len]
  have l2 : es'.length = n := by rw [k.1.length_eq, upI_len]
  refine List.Perm.eq_of_pairwise (le := TX xs) (fun a b _ _ h1 h2 => ?_) (h.2.pairwise l1) (k.2.pairwise l2) (h.1.trans k.1.symm)
  unfold TX at h1 h2; omega

/-- Order at fewer than 20. -/
theorem Order_small (a : Option Addr) (len cap : Nat) (xs : List Int) (w : World) (hl : len < 20) (hx : IsU w a len xs) :
    Calls Try.prog 10 #[.slice a len cap] w fun e w' => ∃ v es', e = .returned v ∧ Ordered xs len es' ∧ OwnI w' w.heap.size v es' ∧ es'.length = len ∧ Below w.heap.size w w' :=
  Order_of (Ordered xs len) a len cap xs w (by omega) hx (fun h => by subst h; exact ⟨.refl _, fun i j _ _ c => by omega⟩)
    (fun w0 w g c bx h0 hs => (sort_small hs hl).mono fun e w' ⟨he, h⟩ => ⟨he, _, small_ordered xs len h0, h⟩)
end Go.Proofs.Ytbihcdjamdkinaa
