/-
  The stable sort's rounds, on plain lists: cuts that nothing crosses, rows of blocks that are sorted.
-/
import Derived.Test.YtbihcdjamdkinaaSv
namespace Go.Proofs.Ytbihcdjamdkinaa

/-- All ahead of c are places below c, all others are not. -/
def Cut (es : List Int) (n c : Nat) : Prop := ∀ p q, p < c → c ≤ q → q < n → es.getD p 0 < c ∧ (c : Int) ≤ es.getD q 0
theorem Cut.perm {es es' : List Int} {n c lo hi : Nat} (h : Cut es n c) (hp : Perm' es es' lo hi) (hc : c ≤ lo ∨ hi ≤ c) (hh : hi ≤ n) (h0 : c ≤ n) : Cut es' n c := by
  by_cases hcn : c < n
  · intro p q p1 q1 q2
    constructor
    · by_cases hin : lo ≤ p ∧ p < hi
      · exact hp.all (fun z => z < (c : Int)) (fun j j1 j2 => (h j (n - 1) (by omega) (by omega) (by omega)).1) p hin.1 hin.2
      · rw [hp.out p (by omega)]; exact (h p q p1 q1 q2).1
    · by_cases hin : lo ≤ q ∧ q < hi
      · exact hp.all (fun z => (c : Int) ≤ z) (fun j j1 j2 => (h p j p1 (by omega) (by omega)).2) q hin.1 hin.2
      · rw [hp.out q (by omega)]; exact (h p q p1 q1 q2).2
  · intro p q p1 q1 q2; omega
theorem cut_upI (n c : Nat) : Cut (upI n) n c := fun p q p1 q1 q2 => by
  rw [upI_getD (by omega), upI_getD q2]; omega
theorem Cut.cr {xs es : List Int} {n lo m hi : Nat} (h : Cut es n m) (hh : hi ≤ n) : Cr xs es lo m hi := fun p q _ p2 q1 q2 _ => by
  have := h p q p2 q1 (by omega)
  omega
theorem Srt.perm {xs es es' : List Int} {lo hi lo' hi' : Nat} (h : Srt xs es lo hi) (hp : Perm' es es' lo' hi') (hd : hi ≤ lo' ∨ hi' ≤ lo) : Srt xs es' lo hi := h.same fun j j1 j2 => hp.out j (by omega)

/-- Cuts at all multiples of bs from a on; blocks of bs from a on are sorted, those that begin ahead of n. -/
def CutsFrom (es : List Int) (n bs a : Nat) : Prop := ∀ t, a ≤ t * bs → t * bs ≤ n → Cut es n (t * bs)
def SrtFrom (xs es : List Int) (n bs a : Nat) : Prop := ∀ t, a ≤ t * bs → Srt xs es (t * bs) (min n (t * bs + bs))
def SrtTo (xs es : List Int) (n bs a : Nat) : Prop := ∀ t, t * bs + bs ≤ a → Srt xs es (t * bs) (min n (t * bs + bs))

theorem ins_range (xs : List Int) {es : List Int} {lo hi : Nat} (h : lo ≤ hi) (hl : hi ≤ es.length) (hr : ∀ p q, lo ≤ p → p < q → q < hi → es.getD p 0 < es.getD q 0) :
    Srt xs (insOut xs lo (hi - (lo + 1)) (lo + 1) es) lo hi ∧ Perm' es (insOut xs lo (hi - (lo + 1)) (lo + 1) es) lo hi := by
  by_cases e : lo = hi
  · subst e
    rw [show lo - (lo + 1) = 0 from by omega]
    exact ⟨fun i j a b c => by omega, .refl _ _ _⟩
  · have := insOut_srt xs lo (hi - (lo + 1)) (lo + 1) es (by omega) (by omega) (fun i j a b c => by omega) (fun p q a b c d => hr p q a b (by omega))
    rw [show lo + 1 + (hi - (lo + 1)) = hi from by omega] at this
    exact this

theorem mul_step {t u b : Nat} (h : ¬ t ≤ u) : u * b + b ≤ t * b := by
  have : (u + 1) * b ≤ t * b := Nat.mul_le_mul_right b (by omega)
  rw [Nat.add_mul, Nat.one_mul] at this; exact this
theorem mul_le {t u b : Nat} (h : t ≤ u) : t * b ≤ u * b := Nat.mul_le_mul_right b h

/-- The first round: one block more. -/
theorem first_step {xs es es' : List Int} {n t : Nat} (hb : t * 20 + 20 ≤ n ∨ n ≤ t * 20 + 20) (hT : SrtTo xs es n 20 (t * 20)) (hC : CutsFrom es n 20 0) {hi : Nat} (hhi : hi = min n (t * 20 + 20)) (hlo : t * 20 ≤ n)
    (hp : Perm' es es' (t * 20) hi) (hs : Srt xs es' (t * 20) hi) : SrtTo xs es' n 20 (t * 20 + 20) ∧ CutsFrom es' n 20 0 := by
  constructor
  · intro q hq
    by_cases e : q = t
    · subst e; rw [← hhi]; exact hs
    · exact (hT q (by omega)).perm hp (by omega)
  · intro q _ h2
    exact (hC q (Nat.zero_le _) h2).perm hp (by omega) (by omega) h2

theorem st_step {xs es es' : List Int} {n bs u a : Nat} (ha : a = u * (2 * bs)) (hb : a + 2 * bs ≤ n) (C2 : CutsFrom es n (2 * bs) 0) (C1 : CutsFrom es n bs a) (T : SrtTo xs es n (2 * bs) a) (F : SrtFrom xs es n bs a)
    (hp : Perm' es es' a (a + 2 * bs)) (hs : Srt xs es' a (a + 2 * bs)) : CutsFrom es' n (2 * bs) 0 ∧ CutsFrom es' n bs (a + 2 * bs) ∧ SrtTo xs es' n (2 * bs) (a + 2 * bs) ∧ SrtFrom xs es' n bs (a + 2 * bs) := by
  refine ⟨fun t _ h2 => ?_, fun t h1 h2 => ?_, fun t h1 => ?_, fun t h1 => ?_⟩
  · refine (C2 t (Nat.zero_le _) h2).perm hp ?_ hb h2
    by_cases e : t ≤ u
    · have := mul_le (b := 2 * bs) e; omega
    · have := mul_step (b := 2 * bs) e; omega
  · exact (C1 t (by omega) h2).perm hp (by omega) hb h2
  · by_cases e : t * (2 * bs) + 2 * bs ≤ a
    · exact (T t e).perm hp (by omega)
    · have e2 : t * (2 * bs) = a := by
        by_cases e3 : t ≤ u
        · by_cases e4 : t = u
          · subst e4; exact ha.symm
          · have := mul_step (b := 2 * bs) (t := u) (u := t) (by omega); omega
        · have := mul_step (b := 2 * bs) e3; omega
      rw [e2]
      exact hs.mono (Nat.le_refl _) (by omega)
  · exact (F t (by omega)).perm hp (by omega)

theorem st_pre {xs es : List Int} {n bs u a : Nat} (ha : a = u * (2 * bs)) (C1 : CutsFrom es n bs a) (F : SrtFrom xs es n bs a) (hm : a + bs ≤ n) :
    Srt xs es a (a + bs) ∧ Srt xs es (a + bs) (min n (a + bs + bs)) ∧ Cut es n (a + bs) := by
  have e0 : (2 * u) * bs = a := by rw [ha, Nat.mul_comm 2 u, Nat.mul_assoc]
  have e1 : (2 * u + 1) * bs = a + bs := by rw [Nat.add_mul, Nat.one_mul, e0]
  have f0 := F (2 * u) (by omega)
  have f1 := F (2 * u + 1) (by omega)
  rw [e0] at f0
  rw [e1] at f1
  have c1 := C1 (2 * u + 1) (by omega) (by omega)
  rw [e1] at c1
  exact ⟨f0.mono (Nat.le_refl _) (by omega), f1, c1⟩

theorem st_end {xs es es' : List Int} {n bs u a : Nat} (ha : a = u * (2 * bs)) (hn : n < a + 2 * bs) (C2 : CutsFrom es n (2 * bs) 0) (T : SrtTo xs es n (2 * bs) a)
    (hp : Perm' es es' a n) (hs : Srt xs es' a n) : CutsFrom es' n (2 * bs) 0 ∧ SrtFrom xs es' n (2 * bs) 0 := by
  refine ⟨fun t _ h2 => ?_, fun t _ => ?_⟩
  · refine (C2 t (Nat.zero_le _) h2).perm hp ?_ (Nat.le_refl _) h2
    by_cases e : t ≤ u
    · have := mul_le (b := 2 * bs) e; omega
    · have := mul_step (b := 2 * bs) e; omega
  · by_cases e : t ≤ u
    · by_cases e4 : t = u
      · subst e4
        rw [← ha]
        exact hs.mono (Nat.le_refl _) (by omega)
      · have := mul_step (b := 2 * bs) (t := u) (u := t) (by omega)
        exact (T t (by omega)).perm hp (by omega)
    · have := mul_step (b := 2 * bs) e
      exact fun i j a1 a2 a3 => by omega
theorem st_last {xs es : List Int} {n bs u a : Nat} (ha : a = u * (2 * bs)) (F : SrtFrom xs es n bs a) (hm : n ≤ a + bs) : Srt xs es a n := by
  have e0 : (2 * u) * bs = a := by rw [ha, Nat.mul_comm 2 u, Nat.mul_assoc]
  have f0 := F (2 * u) (by omega)
  rw [e0] at f0
  exact f0.mono (Nat.le_refl _) (by omega)
theorem cuts_double {es : List Int} {n bs : Nat} (h : CutsFrom es n bs 0) : CutsFrom es n (2 * bs) 0 := fun t _ h2 => by
  have e0 : (2 * t) * bs = t * (2 * bs) := by rw [Nat.mul_comm 2 t, Nat.mul_assoc]
  have := h (2 * t) (Nat.zero_le _) (by omega)
  rwa [e0] at this
end Go.Proofs.Ytbihcdjamdkinaa
