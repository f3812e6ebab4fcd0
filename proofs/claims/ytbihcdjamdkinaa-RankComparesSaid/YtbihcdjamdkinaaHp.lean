/-
  The queue as a heap: what up, down, settle, put and take keep, on plain lists.
-/
import Derived.Test.YtbihcdjamdkinaaWi
namespace Go.Proofs.Ytbihcdjamdkinaa
theorem ahd_iff (A : List Int) (u v : Nat) : ahd A u v = true ↔ A.getD v 0 < A.getD u 0 ∨ (A.getD v 0 = A.getD u 0 ∧ u < v) := by
  unfold ahd orI cmpI
  generalize A.getD v 0 = y
  generalize A.getD u 0 = x
  rw [decide_eq_true_iff]
  by_cases h1 : y < x
  · simp [h1]
  · by_cases h2 : x < y
    · simp [h1, h2]; omega
    · have : x = y := by omega
      subst this
      simp
      by_cases h3 : u < v
      · simp [h3]
      · by_cases h4 : v < u
        · simp [h3, h4]
        · simp [h3, h4]

theorem ahd_no (A : List Int) (u v : Nat) : ahd A u v = false ↔ A.getD u 0 < A.getD v 0 ∨ (A.getD v 0 = A.getD u 0 ∧ v ≤ u) := by
  have := ahd_iff A u v
  cases h : ahd A u v with
  | true => rw [h] at this; simp at this; simp; omega
  | false => rw [h] at this; simp at this; simp; omega

/-- No child of a place stands behind what must stand behind it. -/
def Ok (A L : List Int) (j : Nat) : Prop := ahd A (at_ L j) (at_ L ((j - 1) / 2)) = false
def Heap (A L : List Int) : Prop := ∀ j, 0 < j → j < L.length → Ok A L j

theorem at_swL {L : List Int} {i k : Nat} (hi : i < L.length) (hk : k < L.length) (j : Nat) : at_ (swL L i k) j = if j = k then at_ L i else if j = i then at_ L k else at_ L j := by
  unfold at_ swL
  by_cases h1 : j = k
  · subst h1
    rw [getD_set_eq (by simpa using hk), if_pos rfl]
    simp [at_]; omega
  · rw [if_neg h1, getD_set_ne (fun e => h1 e.symm)]
    by_cases h2 : j = i
    · subst h2
      rw [getD_set_eq hi, if_pos rfl]
      simp [at_]; omega
    · rw [if_neg h2, getD_set_ne (fun e => h2 e.symm)]

theorem up_heap {A : List Int} : ∀ (f i : Nat) (L P : List Int), i < f → i < L.length →
    (∀ j, 0 < j → j < L.length → j ≠ i → Ok A L j) → (0 < i → ∀ j, 0 < j → j < L.length → (j - 1) / 2 = i → ahd A (at_ L j) (at_ L ((i - 1) / 2)) = false) →
    Heap A (upF A f i L P).1
  | 0, i, L, P, hf, _, _, _ => absurd hf (Nat.not_lt_zero _)
  | f + 1, i, L, P, hf, hi, h1, h2 => by
    unfold upF
    by_cases h : 0 < i ∧ ahd A (at_ L i) (at_ L ((i - 1) / 2)) = true
    · rw [if_pos h]
      obtain ⟨h0, ha⟩ := h
      have hp : (i - 1) / 2 < L.length := by omega
      have hne : (i - 1) / 2 ≠ i := by omega
      refine up_heap f ((i - 1) / 2) _ _ (by omega) (by rw [swL_len]; exact hp) ?_ ?_
      · intro j j0 jl jn
        rw [swL_len] at jl
        unfold Ok
        rw [at_swL hi hp, at_swL hi hp, if_neg jn]
        by_cases e1 : j = i
        · subst e1
          rw [if_pos rfl, if_pos rfl]
          rw [ahd_iff] at ha
          rw [ahd_no]; omega
        · rw [if_neg e1]
          by_cases e2 : (j - 1) / 2 = (i - 1) / 2
          · rw [if_pos e2]
            have := h1 j j0 jl e1
            unfold Ok at this
            rw [e2] at this
            rw [ahd_iff] at ha
            rw [ahd_no] at this ⊢; omega
          · rw [if_neg e2]
            by_cases e3 : (j - 1) / 2 = i
            · rw [if_pos e3]
              exact h2 h0 j j0 jl e3
            · rw [if_neg e3]
              exact h1 j j0 jl e1
      · intro p0 j j0 jl jp
        rw [swL_len] at jl
        rw [at_swL hi hp, at_swL hi hp]
        have n1 : j ≠ (i - 1) / 2 := by omega
        have n2 : ((i - 1) / 2 - 1) / 2 ≠ (i - 1) / 2 := by omega
        have n3 : ((i - 1) / 2 - 1) / 2 ≠ i := by omega
        rw [if_neg n1, if_neg n2, if_neg n3]
        have hpp := h1 ((i - 1) / 2) p0 hp hne
        unfold Ok at hpp
        by_cases e1 : j = i
        · rw [if_pos e1]
          exact hpp
        · rw [if_neg e1]
          have := h1 j j0 jl e1
          unfold Ok at this
          rw [jp] at this
          rw [ahd_no] at this hpp ⊢; omega
    · rw [if_neg h]
      intro j j0 jl
      by_cases e : j = i
      · subst e
        unfold Ok
        cases hh : ahd A (at_ L j) (at_ L ((j - 1) / 2)) with
        | true => exact absurd ⟨j0, hh⟩ h
        | false => rfl
      · exact h1 j j0 jl e

/-- All whose parent is m or behind it stand right. -/
def HeapFrom (A L : List Int) (m : Nat) : Prop := ∀ j, 0 < j → j < L.length → m ≤ (j - 1) / 2 → Ok A L j

theorem kid_cases (A L : List Int) (i : Nat) : kid A L i = 2 * i + 1 ∨ (kid A L i = 2 * i + 2 ∧ 2 * i + 2 < L.length) := by
  unfold kid; split
  · rename_i h; exact .inr ⟨rfl, h.1⟩
  · exact .inl rfl

theorem kid_best (A L : List Int) (i j : Nat) (hj : 0 < j) (hl : j < L.length) (hp : (j - 1) / 2 = i) : j = kid A L i ∨ ahd A (at_ L j) (at_ L (kid A L i)) = false := by
  have : j = 2 * i + 1 ∨ j = 2 * i + 2 := by omega
  unfold kid
  by_cases h : 2 * i + 2 < L.length ∧ ahd A (at_ L (2 * i + 2)) (at_ L (2 * i + 1)) = true
  · rw [if_pos h]
    rcases this with e | e
    · right
      have h2 := h.2
      rw [ahd_iff] at h2
      rw [e, ahd_no]; omega
    · exact .inl e
  · rw [if_neg h]
    rcases this with e | e
    · exact .inl e
    · right
      subst e
      cases hh : ahd A (at_ L (2 * i + 2)) (at_ L (2 * i + 1)) with
      | true => exact absurd ⟨hl, hh⟩ h
      | false => rfl

theorem down_heap {A : List Int} (m : Nat) : ∀ (f i : Nat) (L P : List Int), L.length < f + i → 0 < f → m ≤ i →
    (∀ j, 0 < j → j < L.length → m ≤ (j - 1) / 2 → (j - 1) / 2 ≠ i → Ok A L j) →
    (m < i → i < L.length → ∀ j, 0 < j → j < L.length → (j - 1) / 2 = i → m ≤ (i - 1) / 2 → ahd A (at_ L j) (at_ L ((i - 1) / 2)) = false) →
    HeapFrom A (downF A f i L P).1 m
  | 0, i, L, P, hf, h0, hm, h1, h2 => absurd h0 (Nat.lt_irrefl _)
  | f + 1, i, L, P, hf, h0, hm, h1, h2 => by
    unfold downF
    by_cases h : kid A L i < L.length ∧ ahd A (at_ L (kid A L i)) (at_ L i) = true
    · rw [if_pos h]
      obtain ⟨hk, ha⟩ := h
      have hc := kid_cases A L i
      have hb := kid_best A L i
      generalize kid A L i = k at *
      have hki : (k - 1) / 2 = i := by omega
      have k0 : 0 < k := by omega
      have hi : i < L.length := by omega
      have hne : k ≠ i := by omega
      refine down_heap m f k _ _ (by rw [swL_len]; omega) (by omega) (by omega) ?_ ?_
      · intro j j0 jl jm jn
        rw [swL_len] at jl
        unfold Ok
        rw [at_swL hi hk, at_swL hi hk, if_neg jn]
        by_cases e1 : j = k
        · subst e1
          rw [if_pos rfl, if_pos hki]
          rw [ahd_iff] at ha
          rw [ahd_no]; omega
        · rw [if_neg e1]
          by_cases e2 : (j - 1) / 2 = i
          · rw [if_pos e2, if_neg (by omega)]
            rcases hb j j0 jl e2 with e | e
            · exact absurd e e1
            · exact e
          · rw [if_neg e2]
            by_cases e3 : j = i
            · rw [if_pos e3]
              subst e3
              exact h2 (by omega) hi k k0 hk hki (by omega)
            · rw [if_neg e3]
              exact h1 j j0 jl jm e2
      · intro km kl j j0 jl jk mi
        rw [swL_len] at jl kl
        rw [at_swL hi hk, at_swL hi hk]
        rw [hki] at mi ⊢
        rw [if_neg (by omega), if_neg (by omega), if_neg (by omega), if_pos rfl]
        have := h1 j j0 jl (by omega) (by omega)
        unfold Ok at this
        rw [jk] at this
        exact this
    · rw [if_neg h]
      show HeapFrom A L m
      intro j j0 jl jm
      by_cases e : (j - 1) / 2 = i
      · unfold Ok
        rw [e]
        have hc := kid_cases A L i
        have hb := kid_best A L i j j0 jl e
        have hk : kid A L i < L.length := by omega
        have ha : ahd A (at_ L (kid A L i)) (at_ L i) = false := by
          cases hh : ahd A (at_ L (kid A L i)) (at_ L i) with
          | true => exact absurd ⟨hk, hh⟩ h
          | false => rfl
        rcases hb with hb | hb
        · rw [hb]; exact ha
        · rw [ahd_no] at *; omega
      · exact h1 j j0 jl jm e

theorem heap_from {A L : List Int} (h : HeapFrom A L 0) : Heap A L := fun j j0 jl => h j j0 jl (Nat.zero_le _)

theorem set_heap {A : List Int} (f : Nat) {n : Nat} : ∀ (i : Nat) (L P : List Int), Inv n L P A → i ≤ L.length → L.length < f → HeapFrom A L i → Heap A (setF A f i L P).1
  | 0, L, P, _, _, _, h => heap_from h
  | i + 1, L, P, hI, hi, hf, h => by
    unfold setF
    obtain ⟨h1, h2⟩ := downF_inv f i L P hI (by omega)
    refine set_heap f i _ _ h1 (by omega) (by omega) ?_
    refine down_heap i f i L P (by omega) (by omega) (Nat.le_refl _) (fun j j0 jl jm jn => h j j0 jl (by omega)) (fun hlt => absurd hlt (Nat.lt_irrefl _))

/-- The first of a heap is ahead of all. -/
theorem heap_top {A L : List Int} (h : Heap A L) : ∀ j, j < L.length → ahd A (at_ L j) (at_ L 0) = false := by
  intro j
  induction j using Nat.strongRecOn with
  | ind j ih =>
    intro jl
    rcases Nat.eq_zero_or_pos j with e | e
    · subst e; rw [ahd_no]; omega
    · have h1 := h j e jl
      have h2 := ih ((j - 1) / 2) (by omega) (by omega)
      unfold Ok at h1
      rw [ahd_no] at *; omega

/-! ### who is in -/
def mem (L : List Int) (v : Nat) : Prop := ∃ i, i < L.length ∧ at_ L i = v

theorem mem_swL {L : List Int} {i k : Nat} (hi : i < L.length) (hk : k < L.length) (v : Nat) : mem (swL L i k) v ↔ mem L v := by
  constructor
  · rintro ⟨j, jl, e⟩
    rw [swL_len] at jl
    rw [at_swL hi hk] at e
    by_cases h1 : j = k
    · rw [if_pos h1] at e; exact ⟨i, hi, e⟩
    · rw [if_neg h1] at e
      by_cases h2 : j = i
      · rw [if_pos h2] at e; exact ⟨k, hk, e⟩
      · rw [if_neg h2] at e; exact ⟨j, jl, e⟩
  · rintro ⟨j, jl, e⟩
    by_cases h2 : j = i
    · refine ⟨k, by rw [swL_len]; exact hk, ?_⟩
      rw [at_swL hi hk, if_pos rfl, ← h2]; exact e
    · by_cases h1 : j = k
      · refine ⟨i, by rw [swL_len]; exact hi, ?_⟩
        rw [at_swL hi hk]
        by_cases e1 : i = k
        · rw [if_pos e1]; subst e1; exact absurd h1 h2
        · rw [if_neg e1, if_pos rfl, ← h1]; exact e
      · refine ⟨j, by rw [swL_len]; exact jl, ?_⟩
        rw [at_swL hi hk, if_neg h1, if_neg h2]; exact e

theorem swP_out {L P : List Int} {i k : Nat} (hi : i < L.length) (hk : k < L.length) {v : Nat} (hv : ¬ mem L v) : (swP L P i k).getD v 0 = P.getD v 0 := by
  unfold swP
  rw [getD_set_ne (fun e => hv ⟨i, hi, e⟩), getD_set_ne (fun e => hv ⟨k, hk, e⟩)]

theorem up_keeps {A : List Int} : ∀ (f i : Nat) (L P : List Int), i < L.length → (∀ v, mem (upF A f i L P).1 v ↔ mem L v) ∧ (∀ v, ¬ mem L v → (upF A f i L P).2.getD v 0 = P.getD v 0) ∧ (upF A f i L P).1.length = L.length
  | 0, i, L, P, _ => ⟨fun _ => Iff.rfl, fun _ _ => rfl, rfl⟩
  | f + 1, i, L, P, hi => by
    unfold upF
    split
    · have hp : (i - 1) / 2 < L.length := by omega
      obtain ⟨h1, h2, h3⟩ := up_keeps (A := A) f ((i - 1) / 2) (swL L i ((i - 1) / 2)) (swP L P i ((i - 1) / 2)) (by rw [swL_len]; exact hp)
      refine ⟨fun v => (h1 v).trans (mem_swL hi hp v), fun v hv => ?_, h3.trans (swL_len _ _ _)⟩
      rw [h2 v (fun h => hv ((mem_swL hi hp v).1 h))]
      exact swP_out hi hp hv
    · exact ⟨fun _ => Iff.rfl, fun _ _ => rfl, rfl⟩

theorem down_keeps {A : List Int} : ∀ (f i : Nat) (L P : List Int), (∀ v, mem (downF A f i L P).1 v ↔ mem L v) ∧ (∀ v, ¬ mem L v → (downF A f i L P).2.getD v 0 = P.getD v 0) ∧ (downF A f i L P).1.length = L.length
  | 0, i, L, P => ⟨fun _ => Iff.rfl, fun _ _ => rfl, rfl⟩
  | f + 1, i, L, P => by
    unfold downF
    split
    · rename_i hc
      have hk := hc.1
      have hi : i < L.length := by have := kid_cases A L i; omega
      obtain ⟨h1, h2, h3⟩ := down_keeps (A := A) f (kid A L i) (swL L i (kid A L i)) (swP L P i (kid A L i))
      refine ⟨fun v => (h1 v).trans (mem_swL hi hk v), fun v hv => ?_, h3.trans (swL_len _ _ _)⟩
      rw [h2 v (fun h => hv ((mem_swL hi hk v).1 h))]
      exact swP_out hi hk hv
    · exact ⟨fun _ => Iff.rfl, fun _ _ => rfl, rfl⟩

theorem set_keeps {A : List Int} (f : Nat) : ∀ (i : Nat) (L P : List Int), (∀ v, mem (setF A f i L P).1 v ↔ mem L v) ∧ (∀ v, ¬ mem L v → (setF A f i L P).2.getD v 0 = P.getD v 0) ∧ (setF A f i L P).1.length = L.length
  | 0, L, P => ⟨fun _ => Iff.rfl, fun _ _ => rfl, rfl⟩
  | i + 1, L, P => by
    unfold setF
    obtain ⟨h1, h2, h3⟩ := down_keeps (A := A) f i L P
    obtain ⟨g1, g2, g3⟩ := set_keeps (A := A) f i (downF A f i L P).1 (downF A f i L P).2
    refine ⟨fun v => (g1 v).trans (h1 v), fun v hv => ?_, g3.trans h3⟩
    rw [g2 v (fun h => hv ((h1 v).1 h))]
    exact h2 v hv
/-! ### how many are in -/
def cnt (I : Nat → Bool) : Nat → Nat
  | 0 => 0
  | k + 1 => cnt I k + (if I (k + 1) then 1 else 0)
def upd (I : Nat → Bool) (v : Nat) (x : Bool) : Nat → Bool := fun u => if u = v then x else I u

theorem upd_same (I : Nat → Bool) (v : Nat) (x : Bool) : upd I v x v = x := if_pos rfl
theorem upd_ne {I : Nat → Bool} {v u : Nat} {x : Bool} (h : u ≠ v) : upd I v x u = I u := if_neg h
theorem cnt_le (I : Nat → Bool) : ∀ n, cnt I n ≤ n
  | 0 => Nat.le_refl _
  | k + 1 => by have := cnt_le I k; unfold cnt; split <;> omega
theorem cnt_upd_gt (I : Nat → Bool) (v : Nat) (x : Bool) : ∀ n, n < v → cnt (upd I v x) n = cnt I n
  | 0, _ => rfl
  | k + 1, h => by unfold cnt; rw [cnt_upd_gt I v x k (by omega), upd_ne (by omega)]
theorem cnt_upd (I : Nat → Bool) (v : Nat) (x : Bool) : ∀ n, 1 ≤ v → v ≤ n → cnt (upd I v x) n + (if I v then 1 else 0) = cnt I n + (if x then 1 else 0)
  | 0, h1, h2 => by omega
  | k + 1, h1, h2 => by
    unfold cnt
    by_cases e : v = k + 1
    · subst e
      rw [cnt_upd_gt I _ x k (by omega), upd_same]; omega
    · have := cnt_upd I v x k h1 (by omega)
      rw [upd_ne (by omega)]; omega
theorem cnt_zero {I : Nat → Bool} : ∀ {n : Nat}, cnt I n = 0 → ∀ v, 1 ≤ v → v ≤ n → I v = false
  | 0, _, v, h1, h2 => by omega
  | k + 1, h, v, h1, h2 => by
    unfold cnt at h
    by_cases e : v = k + 1
    · subst e
      cases hv : I (k + 1) with
      | true => rw [hv] at h; simp at h
      | false => rfl
    · exact cnt_zero (n := k) (by omega) v h1 (by omega)
theorem cnt_all {I : Nat → Bool} : ∀ {n : Nat}, (∀ v, 1 ≤ v → v ≤ n → I v = true) → cnt I n = n
  | 0, _ => rfl
  | k + 1, h => by unfold cnt; rw [cnt_all (n := k) (fun v a b => h v a (by omega)), h (k + 1) (by omega) (Nat.le_refl _)]; rfl

/-- A queue as a heap of those that are in. -/
structure HInv (n : Nat) (L P A : List Int) (I : Nat → Bool) : Prop where
  inv : Inv n L P A
  heap : Heap A L
  mem : ∀ v, 1 ≤ v → v ≤ n → (I v = true ↔ Ytbihcdjamdkinaa.mem L v)
  out : ∀ v, 1 ≤ v → v ≤ n → I v = false → P.getD v 0 = -1
  len : L.length = cnt I n

theorem HInv.not {n : Nat} {L P A : List Int} {I : Nat → Bool} (h : HInv n L P A I) {v : Nat} (h1 : 1 ≤ v) (h2 : v ≤ n) (hv : I v = false) : ¬ Ytbihcdjamdkinaa.mem L v := fun e => by
  have := (h.mem v h1 h2).2 e
  rw [hv] at this; cases this
theorem HInv.in_ {n : Nat} {L P A : List Int} {I : Nat → Bool} (h : HInv n L P A I) {v : Nat} (h1 : 1 ≤ v) (h2 : v ≤ n) (hv : I v = true) : ∃ i, i < L.length ∧ at_ L i = v ∧ P.getD v 0 = i := by
  obtain ⟨i, hi, e⟩ := (h.mem v h1 h2).1 hv
  have := (h.inv.var hi).2.2.2
  rw [e] at this
  exact ⟨i, hi, e, this⟩
theorem HInv.has {n : Nat} {L P A : List Int} {I : Nat → Bool} (h : HInv n L P A I) {v : Nat} (h1 : 1 ≤ v) (h2 : v ≤ n) : decide (0 ≤ P.getD v 0) = I v := by
  cases hv : I v with
  | true => obtain ⟨i, _, _, e⟩ := h.in_ h1 h2 hv; rw [e]; simp
  | false => rw [h.out v h1 h2 hv]; simp
theorem HInv.lt {n : Nat} {L P A : List Int} {I : Nat → Bool} (h : HInv n L P A I) {v : Nat} (h1 : 1 ≤ v) (h2 : v ≤ n) : P.getD v 0 < L.length := by
  cases hv : I v with
  | true => obtain ⟨i, hi, _, e⟩ := h.in_ h1 h2 hv; rw [e]; omega
  | false => rw [h.out v h1 h2 hv]; omega

/-- Places and activities stay places and activities of n, whoever is more active. -/
theorem Inv.act {n : Nat} {L P A A' : List Int} (h : Inv n L P A) (hl : A'.length = n + 1) : Inv n L P A' := ⟨h.lenP, hl, h.at_⟩

/-- All that up may do to a heap. -/
theorem HInv.up {n : Nat} {L P A : List Int} {I : Nat → Bool} (h : Inv n L P A) (hm : ∀ v, 1 ≤ v → v ≤ n → (I v = true ↔ Ytbihcdjamdkinaa.mem L v)) (ho : ∀ v, 1 ≤ v → v ≤ n → I v = false → P.getD v 0 = -1)
    (hl : L.length = cnt I n) {i : Nat} (hi : i < L.length) (h1 : ∀ j, 0 < j → j < L.length → j ≠ i → Ok A L j)
    (h2 : 0 < i → ∀ j, 0 < j → j < L.length → (j - 1) / 2 = i → ahd A (at_ L j) (at_ L ((i - 1) / 2)) = false) :
    HInv n (upF A (i + 1) i L P).1 (upF A (i + 1) i L P).2 A I := by
  obtain ⟨k1, k2, k3⟩ := up_keeps (A := A) (i + 1) i L P hi
  refine ⟨(upF_inv (i + 1) i L P h hi).1, up_heap (i + 1) i L P (by omega) hi h1 h2, fun v a b => (hm v a b).trans (k1 v).symm, fun v a b hv => ?_, k3.trans hl⟩
  rw [k2 v (fun e => by have := (hm v a b).2 e; rw [hv] at this; cases this)]
  exact ho v a b hv

/-- One is put in, behind all. -/
theorem Inv.push {n : Nat} {L P A : List Int} (h : Inv n L P A) {v : Nat} (h1 : 1 ≤ v) (h2 : v ≤ n) (hv : ¬ Ytbihcdjamdkinaa.mem L v) : Inv n (L ++ [(v : Int)]) (P.set v L.length) A := by
  refine ⟨by rw [List.length_set]; exact h.lenP, h.lenA, fun i hi => ?_⟩
  rw [List.length_append, List.length_singleton] at hi
  by_cases e : i = L.length
  · subst e
    refine ⟨v, by simp [List.getD_eq_getElem?_getD], h1, h2, ?_⟩
    exact getD_set_eq (by rw [h.lenP]; omega)
  · have hi' : i < L.length := by omega
    obtain ⟨e0, a1, a2, a3⟩ := h.var hi'
    refine ⟨Ytbihcdjamdkinaa.at_ L i, ?_, a1, a2, ?_⟩
    · rw [List.getD_eq_getElem?_getD, List.getElem?_append_left hi', ← List.getD_eq_getElem?_getD]; exact e0
    · rw [getD_set_ne (fun e => hv ⟨i, hi', e.symm⟩)]; exact a3

theorem at_push_lt {L : List Int} {x : Int} {j : Nat} (h : j < L.length) : at_ (L ++ [x]) j = at_ L j := by
  unfold at_; rw [List.getD_eq_getElem?_getD, List.getElem?_append_left h, ← List.getD_eq_getElem?_getD]
theorem at_push_eq {L : List Int} {v : Nat} : at_ (L ++ [(v : Int)]) L.length = v := by
  unfold at_; simp [List.getD_eq_getElem?_getD]

theorem HInv.put {n : Nat} {L P A : List Int} {I : Nat → Bool} (h : HInv n L P A I) {v : Nat} (h1 : 1 ≤ v) (h2 : v ≤ n) (hv : I v = false) :
    HInv n (upF A (L.length + 1) L.length (L ++ [(v : Int)]) (P.set v L.length)).1 (upF A (L.length + 1) L.length (L ++ [(v : Int)]) (P.set v L.length)).2 A (upd I v true) := by
  have hn := h.not h1 h2 hv
  have hlen : (L ++ [(v : Int)]).length = L.length + 1 := by simp
  refine HInv.up (h.inv.push h1 h2 hn) (fun u a b => ?_) (fun u a b hu => ?_) ?_ (by omega) (fun j j0 jl jn => ?_) (fun i0 j j0 jl jp => by omega)
  · by_cases e : u = v
    · subst e
      rw [upd_same]
      exact ⟨fun _ => ⟨L.length, by omega, at_push_eq⟩, fun _ => rfl⟩
    · rw [upd_ne e, h.mem u a b]
      constructor
      · rintro ⟨i, hi, e'⟩
        exact ⟨i, by omega, by rw [at_push_lt hi]; exact e'⟩
      · rintro ⟨i, hi, e'⟩
        by_cases ei : i = L.length
        · subst ei; rw [at_push_eq] at e'; exact absurd e'.symm e
        · have hi' : i < L.length := by omega
          exact ⟨i, hi', by rw [at_push_lt hi'] at e'; exact e'⟩
  · by_cases e : u = v
    · subst e; rw [upd_same] at hu; cases hu
    · rw [upd_ne e] at hu
      rw [getD_set_ne (fun e' => e e'.symm)]
      exact h.out u a b hu
  · have := cnt_upd I v true n h1 h2
    rw [hv] at this
    have hl := h.len
    simp at this
    omega
  · have jl' : j < L.length := by omega
    unfold Ok
    rw [at_push_lt jl', at_push_lt (by omega)]
    exact h.heap j j0 jl'

/-! ### take -/
theorem cutL_len (L : List Int) : (cutL L).length = L.length - 1 := by unfold cutL; simp [swL]
theorem at_cutL {L : List Int} (hl : 0 < L.length) {j : Nat} (hj : j < L.length - 1) : at_ (cutL L) j = if j = 0 then at_ L (L.length - 1) else at_ L j := by
  have : at_ (cutL L) j = at_ (swL L 0 (L.length - 1)) j := by
    unfold cutL
    rw [at_, List.getD_eq_getElem?_getD, List.getElem?_take_of_lt hj, ← List.getD_eq_getElem?_getD]; rfl
  rw [this, at_swL hl (by omega), if_neg (by omega)]
theorem Inv.inj {n : Nat} {L P A : List Int} (h : Inv n L P A) {i j : Nat} (hi : i < L.length) (hj : j < L.length) (e : Ytbihcdjamdkinaa.at_ L i = Ytbihcdjamdkinaa.at_ L j) : i = j := by
  have a := (h.var hi).2.2.2
  have b := (h.var hj).2.2.2
  rw [e] at a
  rw [a] at b
  omega

theorem mem_cutL {n : Nat} {L P A : List Int} (h : Inv n L P A) (hl : 0 < L.length) (v : Nat) : mem (cutL L) v ↔ mem L v ∧ v ≠ at_ L 0 := by
  constructor
  · rintro ⟨j, hj, e⟩
    rw [cutL_len] at hj
    rw [at_cutL hl hj] at e
    by_cases j0 : j = 0
    · rw [if_pos j0] at e
      refine ⟨⟨_, by omega, e⟩, fun e' => ?_⟩
      have := h.inj (i := L.length - 1) (j := 0) (by omega) hl (e.trans e')
      omega
    · rw [if_neg j0] at e
      refine ⟨⟨j, by omega, e⟩, fun e' => ?_⟩
      exact j0 (h.inj (by omega) hl (e.trans e'))
  · rintro ⟨⟨j, hj, e⟩, hne⟩
    have j0 : j ≠ 0 := by intro e'; subst e'; exact hne e.symm
    by_cases jl : j = L.length - 1
    · refine ⟨0, by rw [cutL_len]; omega, ?_⟩
      rw [at_cutL hl (by omega), if_pos rfl, ← jl]; exact e
    · refine ⟨j, by rw [cutL_len]; omega, ?_⟩
      rw [at_cutL hl (by omega), if_neg j0]; exact e

theorem HInv.take {n : Nat} {L P A : List Int} {I : Nat → Bool} (h : HInv n L P A I) (hl : 0 < L.length) {f : Nat} (hf : L.length ≤ f) :
    HInv n (downF A f 0 (cutL L) (cutP L P)).1 (downF A f 0 (cutL L) (cutP L P)).2 A (upd I (at_ L 0) false) := by
  have hc := h.inv.cut hl
  obtain ⟨_, b1, b2, b3⟩ := h.inv.var hl
  obtain ⟨k1, k2, k3⟩ := down_keeps (A := A) f 0 (cutL L) (cutP L P)
  have hmc := mem_cutL h.inv hl
  have hin : I (at_ L 0) = true := (h.mem _ b1 b2).2 ⟨0, hl, rfl⟩
  have hinv : Inv n (downF A f 0 (cutL L) (cutP L P)).1 (downF A f 0 (cutL L) (cutP L P)).2 A := by
    by_cases e : 0 < (cutL L).length
    · exact (downF_inv f 0 _ _ hc e).1
    · have hno : ¬ kid A (cutL L) 0 < (cutL L).length := by omega
      cases f with
      | zero => exact hc
      | succ f =>
        unfold downF
        rw [if_neg (fun hh => hno hh.1)]
        exact hc
  refine ⟨hinv, ?_, fun v a b => ?_, fun v a b hv => ?_, ?_⟩
  · refine heap_from (down_heap 0 f 0 _ _ (by rw [cutL_len]; omega) (by omega) (Nat.le_refl _) (fun j j0 jl _ jn => ?_) (fun hlt => absurd hlt (Nat.lt_irrefl _)))
    rw [cutL_len] at jl
    unfold Ok
    rw [at_cutL hl jl, at_cutL hl (by omega), if_neg (by omega), if_neg jn]
    exact h.heap j j0 (by omega)
  · rw [k1 v, hmc v]
    by_cases e : v = at_ L 0
    · rw [e, upd_same]; simp
    · rw [upd_ne e, h.mem v a b]; simp [e]
  · by_cases e : v = at_ L 0
    · rw [k2 v (fun hm => ((hmc v).1 hm).2 e), e]
      unfold cutP
      exact getD_set_eq (by rw [swP_len, h.inv.lenP]; omega)
    · rw [upd_ne e] at hv
      have hnm := h.not a b hv
      rw [k2 v (fun hm => hnm ((hmc v).1 hm).1)]
      unfold cutP
      rw [getD_set_ne (fun e' => e e'.symm), swP_out hl (by omega) hnm]
      exact h.out v a b hv
  · have := cnt_upd I (at_ L 0) false n b1 b2
    rw [hin] at this
    have hl' := h.len
    simp at this
    rw [k3, cutL_len]; omega

/-! ### bump -/
theorem Heap.child {A L : List Int} (h : Heap A L) {i : Nat} (hi : i < L.length) : 0 < i → ∀ j, 0 < j → j < L.length → (j - 1) / 2 = i → ahd A (at_ L j) (at_ L ((i - 1) / 2)) = false := fun i0 j j0 jl jp => by
  have a := h j j0 jl
  have b := h i i0 hi
  unfold Ok at a b
  rw [jp] at a
  rw [ahd_no] at *; omega

theorem HInv.bump {n : Nat} {L P A : List Int} {I : Nat → Bool} (h : HInv n L P A I) {v : Nat} {y : Int} (h1 : 1 ≤ v) (h2 : v ≤ n) (hy : 0 ≤ y) {T : List Int × List Int}
    (hT : T = if 0 ≤ P.getD v 0 then upF (A.set v (A.getD v 0 + y)) ((P.getD v 0).toNat + 1) (P.getD v 0).toNat L P else (L, P)) :
    HInv n T.1 T.2 (A.set v (A.getD v 0 + y)) I := by
  have hA := h.inv.lenA
  have hlen : (A.set v (A.getD v 0 + y)).length = n + 1 := by rw [List.length_set]; exact hA
  have gv : (A.set v (A.getD v 0 + y)).getD v 0 = A.getD v 0 + y := getD_set_eq (by omega)
  have go : ∀ u, u ≠ v → (A.set v (A.getD v 0 + y)).getD u 0 = A.getD u 0 := fun u e => getD_set_ne (fun e' => e e'.symm)
  have hinv := h.inv.act hlen
  have more : ∀ j, 0 < j → j < L.length → at_ L j ≠ v → Ok (A.set v (A.getD v 0 + y)) L j := fun j j0 jl e => by
    have := h.heap j j0 jl
    unfold Ok at this ⊢
    by_cases e2 : at_ L ((j - 1) / 2) = v
    · rw [ahd_no] at this ⊢
      rw [e2] at this ⊢
      rw [gv, go _ e]; omega
    · rw [ahd_no] at this ⊢
      rw [go _ e, go _ e2]; exact this
  subst hT
  cases hv : I v with
  | true =>
    obtain ⟨i, hi, e, hp⟩ := h.in_ h1 h2 hv
    rw [hp, if_pos (by omega), Int.toNat_natCast]
    refine HInv.up hinv h.mem h.out h.len hi (fun j j0 jl jn => more j j0 jl (fun e' => jn (h.inv.inj jl hi (e'.trans e.symm)))) (fun i0 j j0 jl jp => ?_)
    have := h.heap.child hi i0 j j0 jl jp
    have n1 : at_ L j ≠ v := fun e' => by have := h.inv.inj jl hi (e'.trans e.symm); omega
    have n2 : at_ L ((i - 1) / 2) ≠ v := fun e' => by have := h.inv.inj (i := (i - 1) / 2) (by omega) hi (e'.trans e.symm); omega
    rw [ahd_no] at this ⊢
    rw [go _ n1, go _ n2]; exact this
  | false =>
    rw [h.out v h1 h2 hv, if_neg (by omega)]
    have hnm := h.not h1 h2 hv
    exact ⟨hinv, fun j j0 jl => more j j0 jl (fun e => hnm ⟨j, jl, e⟩), h.mem, h.out, h.len⟩

/-- All are settled anew, whatever the activities. -/
theorem HInv.settle {n : Nat} {L P A A' : List Int} {I : Nat → Bool} (h : HInv n L P A I) (hl : A'.length = n + 1) {f : Nat} (hf : L.length < f) : HInv n (setF A' f L.length L P).1 (setF A' f L.length L P).2 A' I := by
  have hi := h.inv.act hl
  obtain ⟨k1, k2, k3⟩ := set_keeps (A := A') f L.length L P
  refine ⟨(setF_inv f L.length L P hi (Nat.le_refl _)).1, set_heap f L.length L P hi (Nat.le_refl _) hf (fun j j0 jl jm => by omega), fun v a b => (h.mem v a b).trans (k1 v).symm, fun v a b hv => ?_, k3.trans h.len⟩
  rw [k2 v (h.not a b hv)]
  exact h.out v a b hv

/-- up of a heap's own place. -/
theorem HInv.upSame {n : Nat} {L P A : List Int} {I : Nat → Bool} (h : HInv n L P A I) {i : Nat} (hi : i < L.length) : HInv n (upF A (i + 1) i L P).1 (upF A (i + 1) i L P).2 A I :=
  HInv.up h.inv h.mem h.out h.len hi (fun j j0 jl _ => h.heap j j0 jl) (h.heap.child hi)

/-- The first is ahead of all that are in. -/
theorem HInv.top {n : Nat} {L P A : List Int} {I : Nat → Bool} (h : HInv n L P A I) (u : Nat) (h1 : 1 ≤ u) (h2 : u ≤ n) (hu : I u = true) : ahd A u (at_ L 0) = false := by
  obtain ⟨i, hi, e, _⟩ := h.in_ h1 h2 hu
  have := heap_top h.heap i hi
  rwa [e] at this
end Go.Proofs.Ytbihcdjamdkinaa
