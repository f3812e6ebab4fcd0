/-
  Swapped ranges, rotated blocks, one moved along: on plain lists.
-/
import Derived.Test.YtbihcdjamdkinaaSp
namespace Go.Proofs.Ytbihcdjamdkinaa

/-- The n from a exchanged with the n from b. -/
def swR (es : List Int) (a b : Nat) : Nat → List Int
  | 0 => es
  | k + 1 => swE (swR es a b k) (a + k) (b + k)
theorem swR_len (es : List Int) (a b : Nat) : ∀ n, (swR es a b n).length = es.length
  | 0 => rfl
  | k + 1 => by unfold swR; rw [swE_len]; exact swR_len es a b k
theorem swR_getD {es : List Int} {a b : Nat} : ∀ (n : Nat), a + n ≤ b → b + n ≤ es.length → ∀ j,
    (swR es a b n).getD j 0 = if a ≤ j ∧ j < a + n then es.getD (b + (j - a)) 0 else if b ≤ j ∧ j < b + n then es.getD (a + (j - b)) 0 else es.getD j 0
  | 0, _, _, j => by rw [if_neg (by omega), if_neg (by omega)]; rfl
  | k + 1, h1, h2, j => by
    unfold swR
    have ih := swR_getD (es := es) (a := a) (b := b) k (by omega) (by omega)
    rw [getD_swE (by rw [swR_len]; omega) (by rw [swR_len]; omega)]
    by_cases e1 : j = b + k
    · rw [if_pos e1, ih, if_neg (by omega), if_neg (by omega), if_neg (by omega), if_pos (by omega)]
      congr 1; omega
    · rw [if_neg e1]
      by_cases e2 : j = a + k
      · rw [if_pos e2, ih, if_neg (by omega), if_neg (by omega), if_pos (by omega)]
        congr 1; omega
      · rw [if_neg e2, ih]
        by_cases c1 : a ≤ j ∧ j < a + k
        · rw [if_pos c1, if_pos (by omega)]
        · by_cases c2 : b ≤ j ∧ j < b + k
          · rw [if_neg c1, if_pos c2, if_neg (by omega), if_pos (by omega)]
          · rw [if_neg c1, if_neg c2, if_neg (by omega), if_neg (by omega)]
theorem swR_perm {es : List Int} {a b lo hi : Nat} : ∀ (n : Nat), a + n ≤ b → b + n ≤ es.length → lo ≤ a → b + n ≤ hi → Perm' es (swR es a b n) lo hi
  | 0, _, _, _, _ => .refl _ _ _
  | k + 1, h1, h2, h3, h4 => by
    unfold swR
    exact (swR_perm k (by omega) (by omega) h3 (by omega)).trans (swE_perm (by rw [swR_len]; omega) (by rw [swR_len]; omega) (by omega) (by omega) (by omega) (by omega))

/-- u v has become v u. -/
structure Rot (es es' : List Int) (a m b : Nat) : Prop where
  fst : ∀ t, t < b - m → es'.getD (a + t) 0 = es.getD (m + t) 0
  snd : ∀ t, t < m - a → es'.getD (a + (b - m) + t) 0 = es.getD (a + t) 0
  perm : Perm' es es' a b

theorem Rot.none {es : List Int} {a m b : Nat} (h : a = m ∨ m = b) : Rot es es a m b := by
  refine ⟨fun t ht => ?_, fun t ht => ?_, .refl _ _ _⟩
  · rcases h with h | h
    · rw [h]
    · omega
  · rcases h with h | h
    · omega
    · congr 1; omega

/-- What rotate does. -/
def rotF (m : Nat) : Nat → Nat → Nat → List Int → List Int
  | 0, i, _, es => swR es (m - i) m i
  | f + 1, i, j, es => if i = j then swR es (m - i) m i else if j < i then rotF m f (i - j) j (swR es (m - i) m j) else rotF m f i (j - i) (swR es (m - i) (m + j - i) i)
theorem rotF_len (m : Nat) : ∀ (f i j : Nat) (es : List Int), (rotF m f i j es).length = es.length
  | 0, i, _, es => by unfold rotF; exact swR_len _ _ _ _
  | f + 1, i, j, es => by
    unfold rotF
    split
    · exact swR_len _ _ _ _
    · split
      · rw [rotF_len, swR_len]
      · rw [rotF_len, swR_len]
theorem rotF_rot (m : Nat) : ∀ (f i j : Nat) (es : List Int), i + j ≤ f + 1 → 0 < i → 0 < j → i ≤ m → m + j ≤ es.length → Rot es (rotF m f i j es) (m - i) m (m + j)
  | 0, i, j, es, hf, hi, hj, _, _ => by omega
  | f + 1, i, j, es, hf, hi, hj, hm, hl => by
    unfold rotF
    by_cases h1 : i = j
    · subst h1
      rw [if_pos rfl]
      have g := swR_getD (es := es) (a := m - i) (b := m) i (by omega) (by omega)
      refine ⟨fun t ht => ?_, fun t ht => ?_, swR_perm i (by omega) (by omega) (Nat.le_refl _) (by omega)⟩
      · rw [g, if_pos (by omega)]; congr 1; omega
      · rw [g, if_neg (by omega), if_pos (by omega)]; congr 1; omega
    · rw [if_neg h1]
      by_cases h2 : j < i
      · rw [if_pos h2]
        have g := swR_getD (es := es) (a := m - i) (b := m) j (by omega) (by omega)
        have ih := rotF_rot m f (i - j) j (swR es (m - i) m j) (by omega) (by omega) hj (by omega) (by rw [swR_len]; omega)
        have gl := swR_len es (m - i) m j
        generalize rotF m f (i - j) j (swR es (m - i) m j) = R at *
        have hp := swR_perm (es := es) (a := m - i) (b := m) (lo := m - i) (hi := m + j) j (by omega) (by omega) (Nat.le_refl _) (by omega)
        refine ⟨fun t ht => ?_, fun t ht => ?_, hp.trans (ih.perm.mono (by omega) (Nat.le_refl _))⟩
        · have := ih.perm.out (m - i + t) (by omega)
          rw [this, g, if_pos (by omega)]; congr 1; omega
        · by_cases ht2 : t < i - j
          · by_cases hc : t < j
            · have e := ih.fst t (by omega)
              rw [show m - i + (m + j - m) + t = m - (i - j) + t from by omega, e, g, if_neg (by omega), if_pos (by omega)]
              congr 1; omega
            · have e := ih.snd (t - j) (by omega)
              rw [show m - i + (m + j - m) + t = m - (i - j) + (m + j - m) + (t - j) from by omega, e, g, if_neg (by omega), if_neg (by omega)]
              congr 1; omega
          · by_cases hc : t < j
            · have e := ih.fst t (by omega)
              rw [show m - i + (m + j - m) + t = m - (i - j) + t from by omega, e, g, if_neg (by omega), if_pos (by omega)]
              congr 1; omega
            · have e := ih.snd (t - j) (by omega)
              rw [show m - i + (m + j - m) + t = m - (i - j) + (m + j - m) + (t - j) from by omega, e, g, if_neg (by omega), if_neg (by omega)]
              congr 1; omega
      · rw [if_neg h2]
        have g := swR_getD (es := es) (a := m - i) (b := m + j - i) i (by omega) (by omega)
        have ih := rotF_rot m f i (j - i) (swR es (m - i) (m + j - i) i) (by omega) hi (by omega) hm (by rw [swR_len]; omega)
        generalize rotF m f i (j - i) (swR es (m - i) (m + j - i) i) = R at *
        have hp := swR_perm (es := es) (a := m - i) (b := m + j - i) (lo := m - i) (hi := m + j) i (by omega) (by omega) (Nat.le_refl _) (by omega)
        refine ⟨fun t ht => ?_, fun t ht => ?_, hp.trans (ih.perm.mono (Nat.le_refl _) (by omega))⟩
        · by_cases hc : t < j - i
          · have e := ih.fst t (by omega)
            rw [e, g, if_neg (by omega)]
            by_cases hd : m + j - i ≤ m + t
            · omega
            · rw [if_neg (by omega)]
          · have e := ih.snd (t - (j - i)) (by omega)
            rw [show m - i + t = m - i + (m + (j - i) - m) + (t - (j - i)) from by omega, e, g, if_pos (by omega)]
            congr 1; omega
        · have := ih.perm.out (m - i + (m + j - m) + t) (by omega)
          rw [this, g, if_neg (by omega), if_pos (by omega)]; congr 1; omega

/-- One moved up c places. -/
def shR (es : List Int) (a : Nat) : Nat → List Int
  | 0 => es
  | c + 1 => swE (shR es a c) (a + c) (a + c + 1)
theorem shR_len (es : List Int) (a : Nat) : ∀ c, (shR es a c).length = es.length
  | 0 => rfl
  | c + 1 => by unfold shR; rw [swE_len]; exact shR_len es a c
theorem shR_getD {es : List Int} {a : Nat} : ∀ (c : Nat), a + c < es.length → ∀ j, (shR es a c).getD j 0 = if a ≤ j ∧ j < a + c then es.getD (j + 1) 0 else if j = a + c then es.getD a 0 else es.getD j 0
  | 0, _, j => by
    rw [if_neg (by omega)]
    split
    · rename_i h; rw [h]; rfl
    · rfl
  | c + 1, h, j => by
    unfold shR
    have ih := shR_getD (es := es) (a := a) c (by omega)
    rw [getD_swE (by rw [shR_len]; omega) (by rw [shR_len]; omega)]
    by_cases e1 : j = a + c + 1
    · rw [if_pos e1, ih, if_neg (by omega), if_pos rfl, if_neg (by omega), if_pos (by omega)]
    · rw [if_neg e1]
      by_cases e2 : j = a + c
      · rw [if_pos e2, ih, if_neg (by omega), if_neg (by omega), if_pos (by omega), e2]
      · rw [if_neg e2, ih]
        by_cases c1 : a ≤ j ∧ j < a + c
        · rw [if_pos c1, if_pos (by omega)]
        · rw [if_neg c1, if_neg e2, if_neg (by omega), if_neg (by omega)]
theorem shR_perm {es : List Int} {a lo hi : Nat} : ∀ (c : Nat), a + c < es.length → lo ≤ a → a + c < hi → Perm' es (shR es a c) lo hi
  | 0, _, _, _ => .refl _ _ _
  | c + 1, h1, h2, h3 => by
    unfold shR
    exact (shR_perm c (by omega) h2 (by omega)).trans (swE_perm (by rw [shR_len]; omega) (by rw [shR_len]; omega) (by omega) (by omega) (by omega) (by omega))

/-- One moved down c places, from m. -/
def shL (es : List Int) (m : Nat) : Nat → List Int
  | 0 => es
  | c + 1 => swE (shL es m c) (m - c) (m - c - 1)
theorem shL_len (es : List Int) (m : Nat) : ∀ c, (shL es m c).length = es.length
  | 0 => rfl
  | c + 1 => by unfold shL; rw [swE_len]; exact shL_len es m c
theorem shL_getD {es : List Int} {m : Nat} : ∀ (c : Nat), c ≤ m → m < es.length → ∀ j, (shL es m c).getD j 0 = if m - c < j ∧ j ≤ m then es.getD (j - 1) 0 else if j = m - c then es.getD m 0 else es.getD j 0
  | 0, _, _, j => by
    rw [if_neg (by omega)]
    split
    · rename_i h; rw [h]; rfl
    · rfl
  | c + 1, h, hl, j => by
    unfold shL
    have ih := shL_getD (es := es) (m := m) c (by omega) hl
    rw [getD_swE (by rw [shL_len]; omega) (by rw [shL_len]; omega)]
    by_cases e1 : j = m - c - 1
    · rw [if_pos e1, ih, if_neg (by omega), if_pos rfl, if_neg (by omega), if_pos (by omega)]
    · rw [if_neg e1]
      by_cases e2 : j = m - c
      · rw [if_pos e2, ih, if_neg (by omega), if_neg (by omega), if_pos (by omega)]
        congr 1; omega
      · rw [if_neg e2, ih]
        by_cases c1 : m - c < j ∧ j ≤ m
        · rw [if_pos c1, if_pos (by omega)]
        · rw [if_neg c1, if_neg e2, if_neg (by omega), if_neg (by omega)]
theorem shL_perm {es : List Int} {m lo hi : Nat} : ∀ (c : Nat), c ≤ m → m < es.length → lo ≤ m - c → m < hi → Perm' es (shL es m c) lo hi
  | 0, _, _, _, _ => .refl _ _ _
  | c + 1, h1, h2, h3, h4 => by
    unfold shL
    exact (shL_perm c (by omega) h2 (by omega) h4).trans (swE_perm (by rw [shL_len]; omega) (by rw [shL_len]; omega) (by omega) (by omega) (by omega) (by omega))
end Go.Proofs.Ytbihcdjamdkinaa
