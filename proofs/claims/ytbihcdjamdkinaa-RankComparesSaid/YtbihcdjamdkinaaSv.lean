/-
  What symMerge makes of two sorted rows, on plain lists.
-/
import Derived.Test.YtbihcdjamdkinaaSq
namespace Go.Proofs.Ytbihcdjamdkinaa

/-- Of two of the same rank, one in each row, the one of the first row is the lesser place. -/
def Cr (xs es : List Int) (a m b : Nat) : Prop := ∀ p q, a ≤ p → p < m → m ≤ q → q < b → kAt xs (es.getD p 0).toNat = kAt xs (es.getD q 0).toNat → es.getD p 0 < es.getD q 0

theorem Srt.le {xs es : List Int} {lo hi i j : Nat} (h : Srt xs es lo hi) (h1 : lo ≤ i) (h2 : i ≤ j) (h3 : j < hi) : kAt xs (es.getD j 0).toNat ≤ kAt xs (es.getD i 0).toNat := by
  by_cases e : i = j
  · subst e; exact Int.le_refl _
  · have := h i j h1 (by omega) h3
    unfold TX at this; omega
theorem Srt.mono {xs es : List Int} {lo hi lo' hi' : Nat} (h : Srt xs es lo hi) (h1 : lo ≤ lo') (h2 : hi' ≤ hi) : Srt xs es lo' hi' := fun i j a b c => h i j (by omega) b (by omega)
theorem Srt.same {xs es es' : List Int} {lo hi : Nat} (h : Srt xs es lo hi) (he : ∀ j, lo ≤ j → j < hi → es'.getD j 0 = es.getD j 0) : Srt xs es' lo hi := fun i j a b c => by
  rw [he i a (by omega), he j (by omega) c]; exact h i j a b c

/-- One is moved up to where it belongs. -/
theorem one_up {xs es : List Int} {a b i : Nat} (hb : b ≤ es.length) (hs : Srt xs es (a + 1) b) (hc : Cr xs es a (a + 1) b) (h1 : a + 1 ≤ i) (h2 : i ≤ b)
    (hl : ∀ q, a + 1 ≤ q → q < i → ltX xs (es.getD q 0) (es.getD a 0) = true) (hg : ∀ q, i ≤ q → q < b → ltX xs (es.getD q 0) (es.getD a 0) = false) :
    Srt xs (shR es a (i - 1 - a)) a b ∧ Perm' es (shR es a (i - 1 - a)) a b := by
  have hab : a + 1 ≤ b := by omega
  have hlen : a + (i - 1 - a) < es.length := by omega
  refine ⟨fun p q p1 p2 p3 => ?_, shR_perm _ hlen (Nat.le_refl _) (by omega)⟩
  have g := shR_getD (es := es) (a := a) (i - 1 - a) hlen
  rw [g p, g q]
  by_cases c1 : p < i - 1
  · rw [if_pos (by omega)]
    by_cases c2 : q < i - 1
    · rw [if_pos (by omega)]; exact hs (p + 1) (q + 1) (by omega) (by omega) (by omega)
    · rw [if_neg (by omega)]
      by_cases c3 : q = i - 1
      · rw [if_pos (by omega)]
        exact .inl (ltX_iff.1 (hl (p + 1) (by omega) (by omega)))
      · rw [if_neg (by omega)]; exact hs (p + 1) q (by omega) (by omega) (by omega)
  · rw [if_neg (by omega), if_neg (c := a ≤ q ∧ q < a + (i - 1 - a)) (by omega)]
    by_cases c3 : p = i - 1
    · rw [if_pos (by omega), if_neg (by omega)]
      have k1 := ltX_no.1 (hg q (by omega) p3)
      have k2 := hc a q (Nat.le_refl _) (by omega) (by omega) p3
      unfold TX; omega
    · rw [if_neg (by omega), if_neg (by omega)]
      exact hs p q (by omega) p2 p3

/-- One is moved down to where it belongs. -/
theorem one_down {xs es : List Int} {a m i : Nat} (hb : m + 1 ≤ es.length) (hs : Srt xs es a m) (hc : Cr xs es a m (m + 1)) (h1 : a ≤ i) (h2 : i ≤ m)
    (hl : ∀ q, a ≤ q → q < i → ltX xs (es.getD m 0) (es.getD q 0) = false) (hg : ∀ q, i ≤ q → q < m → ltX xs (es.getD m 0) (es.getD q 0) = true) :
    Srt xs (shL es m (m - i)) a (m + 1) ∧ Perm' es (shL es m (m - i)) a (m + 1) := by
  refine ⟨fun p q p1 p2 p3 => ?_, shL_perm _ (by omega) (by omega) (by omega) (by omega)⟩
  have g := shL_getD (es := es) (m := m) (m - i) (by omega) (by omega)
  rw [g p, g q]
  by_cases c1 : q < i
  · rw [if_neg (by omega), if_neg (c := p = m - (m - i)) (by omega), if_neg (by omega), if_neg (by omega)]
    exact hs p q p1 p2 (by omega)
  · by_cases c2 : q = i
    · rw [if_neg (by omega), if_neg (c := p = m - (m - i)) (by omega), if_neg (by omega), if_pos (by omega)]
      have k1 := ltX_no.1 (hl p p1 (by omega))
      have k2 := hc p m p1 (by omega) (Nat.le_refl _) (by omega)
      unfold TX; omega
    · rw [if_pos (c := m - (m - i) < q ∧ q ≤ m) (by omega)]
      by_cases c3 : p < i
      · rw [if_neg (by omega), if_neg (by omega)]
        exact hs p (q - 1) p1 (by omega) (by omega)
      · by_cases c4 : p = i
        · rw [if_neg (by omega), if_pos (by omega)]
          exact .inl (ltX_iff.1 (hg (q - 1) (by omega) (by omega)))
        · rw [if_pos (by omega)]
          exact hs (p - 1) (q - 1) (by omega) (by omega) (by omega)

/-- Behind the rotation: both halves are two sorted rows each, and all of the first stand ahead of all of the second. -/
structure Halves (xs es1 : List Int) (a s mid e b : Nat) : Prop where
  s1 : Srt xs es1 a s
  s2 : Srt xs es1 s mid
  c1 : Cr xs es1 a s mid
  s3 : Srt xs es1 mid e
  s4 : Srt xs es1 e b
  c2 : Cr xs es1 mid e b
  ahead : ∀ i j, a ≤ i → i < mid → mid ≤ j → j < b → TX xs (es1.getD i 0) (es1.getD j 0)

theorem halves {xs es es1 : List Int} {a m b s mid e : Nat} (hs1 : Srt xs es a m) (hs2 : Srt xs es m b) (hc : Cr xs es a m b) (h1 : a ≤ s) (h2 : s ≤ m) (h3 : m ≤ e) (h4 : e ≤ b) (hmid : mid + m = s + e) (hsm : s ≤ mid)
    (hlo : a < s → e < b → kAt xs (es.getD e 0).toNat ≤ kAt xs (es.getD (s - 1) 0).toNat) (hhi : s < m → m < e → kAt xs (es.getD s 0).toNat < kAt xs (es.getD (e - 1) 0).toNat)
    (hr : Rot es es1 s m e) : Halves xs es1 a s mid e b := by
  have g1 : ∀ i, i < s → es1.getD i 0 = es.getD i 0 := fun i hi => hr.perm.out i (by omega)
  have g2 : ∀ i, s ≤ i → i < mid → es1.getD i 0 = es.getD (m + (i - s)) 0 := fun i a c => by
    have := hr.fst (i - s) (by omega)
    rw [show s + (i - s) = i from by omega] at this; exact this
  have g3 : ∀ i, mid ≤ i → i < e → es1.getD i 0 = es.getD (s + (i - mid)) 0 := fun i a c => by
    have := hr.snd (i - mid) (by omega)
    rw [show s + (e - m) + (i - mid) = i from by omega] at this; exact this
  have g4 : ∀ i, e ≤ i → es1.getD i 0 = es.getD i 0 := fun i hi => hr.perm.out i (by omega)
  refine ⟨fun i j a1 a2 a3 => ?_, fun i j a1 a2 a3 => ?_, fun p q a1 a2 a3 a4 h => ?_, fun i j a1 a2 a3 => ?_, fun i j a1 a2 a3 => ?_, fun p q a1 a2 a3 a4 h => ?_, fun i j a1 a2 a3 a4 => ?_⟩
  · rw [g1 i (by omega), g1 j a3]; exact hs1 i j a1 a2 (by omega)
  · rw [g2 i a1 (by omega), g2 j (by omega) a3]; exact hs2 _ _ (by omega) (by omega) (by omega)
  · rw [g1 p a2, g2 q a3 a4] at h ⊢; exact hc p _ a1 (by omega) (by omega) (by omega) h
  · rw [g3 i a1 (by omega), g3 j (by omega) a3]; exact hs1 _ _ (by omega) (by omega) (by omega)
  · rw [g4 i a1, g4 j (by omega)]; exact hs2 i j (by omega) a2 a3
  · rw [g3 p a1 a2, g4 q a3] at h ⊢; exact hc _ q (by omega) (by omega) (by omega) a4 h
  · by_cases i1 : i < s
    · rw [g1 i i1]
      by_cases j1 : j < e
      · rw [g3 j a3 j1]; exact hs1 i _ a1 (by omega) (by omega)
      · rw [g4 j (by omega)]
        have k1 := hlo (by omega) (by omega)
        have k2 := hs1.le (i := i) (j := s - 1) a1 (by omega) (by omega)
        have k3 := hs2.le (i := e) (j := j) (by omega) (by omega) a4
        have k4 := hc i j a1 (by omega) (by omega) a4
        unfold TX; omega
    · rw [g2 i (by omega) a2]
      by_cases j1 : j < e
      · rw [g3 j a3 j1]
        have k1 := hhi (by omega) (by omega)
        have k2 := hs2.le (i := m + (i - s)) (j := e - 1) (by omega) (by omega) (by omega)
        have k3 := hs1.le (i := s) (j := s + (j - mid)) (by omega) (by omega) (by omega)
        unfold TX; omega
      · rw [g4 j (by omega)]; exact hs2 _ j (by omega) (by omega) a4

/-- Both halves are merged: so is the whole. -/
theorem joined {xs es1 es2 es3 : List Int} {a s mid e b : Nat} (h : Halves xs es1 a s mid e b) (p2 : Perm' es1 es2 a mid) (s2 : Srt xs es2 a mid) (p3 : Perm' es2 es3 mid b) (s3 : Srt xs es3 mid b) : Srt xs es3 a b := fun i j a1 a2 a3 => by
  by_cases i1 : i < mid
  · by_cases j1 : j < mid
    · rw [p3.out i (by omega), p3.out j (by omega)]; exact s2 i j a1 a2 j1
    · rw [p3.out i (by omega)]
      refine p3.all (fun y => TX xs (es2.getD i 0) y) (fun q q1 q2 => ?_) j (by omega) a3
      rw [p2.out q (by omega)]
      exact p2.all (fun x => TX xs x (es1.getD q 0)) (fun r r1 r2 => h.ahead r q r1 r2 q1 q2) i a1 i1
  · exact s3 i j (by omega) a2 a3
end Go.Proofs.Ytbihcdjamdkinaa
