/-
  PLAIN: what holds of a trail at all times ('Good'), and what each step leaves of it.
-/
import Derived.Test.YtngegkgmenfelaaWl
namespace Go.Proofs.Ytngegkgmenfelaa
open Go.RowKit Go.Lib

/-- Numbers below n, each once: at most n. -/
theorem pigeon : ∀ (n : Nat) (xs : List Nat), xs.Nodup → (∀ x ∈ xs, x < n) → xs.length ≤ n
  | 0, xs, _, h => by
    cases xs with
    | nil => simp
    | cons a xs => exact absurd (h a (by simp)) (by omega)
  | n + 1, xs, hn, h => by
    by_cases hm : n ∈ xs
    · have h1 := pigeon n (xs.erase n) (hn.erase n) (fun x hx => by
        have h2 := h x (List.mem_of_mem_erase hx)
        have h3 : x ≠ n := fun e => by rw [e] at hx; exact absurd hx (hn.not_mem_erase)
        omega)
      rw [List.length_erase_of_mem hm] at h1
      omega
    · have := pigeon n xs hn (fun x hx => by
        have h2 := h x hx
        have h3 : x ≠ n := fun e => hm (e ▸ hx)
        omega)
      omega

/-- A clause whose first two literals part. -/
def Long (c : List Int) : Prop := 2 ≤ c.length ∧ c.getD 0 0 ≠ c.getD 1 0
def Alike (c : List Int) : Prop := ∀ x ∈ c, x = c.getD 0 0
instance (c : List Int) : Decidable (Long c) := by unfold Long; exact inferInstance

def cl (T : Tr) (m : Nat) : List Int := T.L.getD m []

structure Good (n : Nat) (T : Tr) : Prop where
  ok : Ok n T
  part : ∀ m, m < T.L.length → Alike (cl T m) ∨ Long (cl T m)
  wIn : ∀ j k, k ∈ T.W.getD j [] → ∃ m : Nat, k = (m : Nat) ∧ m < T.L.length ∧ Long (cl T m) ∧ (j = sideN ((cl T m).getD 0 0) ∨ j = sideN ((cl T m).getD 1 0))
  wOf : ∀ m, m < T.L.length → Long (cl T m) → ((m : Nat) : Int) ∈ T.W.getD (sideN ((cl T m).getD 0 0)) [] ∧ ((m : Nat) : Int) ∈ T.W.getD (sideN ((cl T m).getD 1 0)) []
  wNd : ∀ j, (T.W.getD j []).Nodup
  shIn : ∀ k, k ∈ T.short → ∃ m : Nat, k = (m : Nat) ∧ m < T.L.length ∧ Alike (cl T m)
  shOf : ∀ m, m < T.L.length → ¬ Long (cl T m) → ((m : Nat) : Int) ∈ T.short
  shl : T.short.length ≤ T.L.length
  lit : ∀ x, x ∈ T.lits ↔ valOf T x = 1
  nd : T.lits.Nodup
  nxl : T.nx ≤ T.lits.length
  vis : ∀ p, p < T.nx → ∀ m, m < T.L.length → Long (cl T m) → ((cl T m).getD 0 0 = -(T.lits.getD p 0) → valOf T ((cl T m).getD 1 0) = 1) ∧ ((cl T m).getD 1 0 = -(T.lits.getD p 0) → valOf T ((cl T m).getD 0 0) = 1)
  stUp : ∀ a b, a < b → b < T.starts.length → T.starts.getD a 0 < T.starts.getD b 0
  stIn : ∀ a, a < T.starts.length → 0 ≤ T.starts.getD a 0 ∧ T.starts.getD a 0 < T.lits.length
  lev : ∀ i, i < T.lits.length → (factOf T (T.lits.getD i 0)).2.1 = ((T.starts.countP (fun s => decide (s ≤ (i : Int))) : Nat) : Int)
  rs : ∀ i, i < T.lits.length → (((i : Nat) : Int) ∈ T.starts ∧ (factOf T (T.lits.getD i 0)).2.2 = -1) ∨ (((i : Nat) : Int) ∉ T.starts ∧ ∃ m : Nat, m < T.L.length ∧ (factOf T (T.lits.getD i 0)).2.2 = (m : Nat) ∧ T.lits.getD i 0 ∈ cl T m ∧ ∀ y ∈ cl T m, y ≠ T.lits.getD i 0 → -y ∈ T.lits.take i)
  unk : ∀ x, valOf T x = 0 → factOf T x = (0, -1, -1)

variable {n : Nat} {T : Tr}

theorem valOf_var {x : Int} (h : valOf T x ≠ 0) : 1 ≤ x.natAbs ∧ x.natAbs ≤ T.F.length := by
  by_cases hv : 1 ≤ x.natAbs ∧ x.natAbs ≤ T.F.length
  · exact hv
  · exact absurd (by unfold valOf; rw [factOf_out hv]; split <;> rfl) h
theorem Good.litVar (h : Good n T) {x : Int} (hx : x ∈ T.lits) : 1 ≤ x.natAbs ∧ x.natAbs ≤ n := by
  have := (h.lit x).1 hx
  have h2 := valOf_var (T := T) (x := x) (by omega)
  rw [h.ok.fl] at h2; exact h2
theorem Good.litsLen (h : Good n T) : T.lits.length ≤ n := by
  have := pigeon n (T.lits.map fun x => x.natAbs - 1) (by
    rw [List.nodup_iff_pairwise_ne, List.pairwise_map]
    refine List.Pairwise.imp_of_mem ?_ (List.nodup_iff_pairwise_ne.1 h.nd)
    intro a b ha hb hab e
    have h1 := h.litVar ha
    have h2 := h.litVar hb
    have h3 : a = -b := by omega
    have h4 := (h.lit a).1 ha
    have h5 := (h.lit b).1 hb
    rw [h3, valOf_neg] at h4
    omega) (by
    intro x hx
    obtain ⟨a, ha, rfl⟩ := List.mem_map.1 hx
    have := h.litVar ha
    omega)
  simpa using this
theorem Good.rowLen (h : Good n T) (j : Nat) : (T.W.getD j []).length ≤ T.L.length := by
  have := pigeon T.L.length ((T.W.getD j []).map Int.toNat) (by
    rw [List.nodup_iff_pairwise_ne, List.pairwise_map]
    refine List.Pairwise.imp_of_mem ?_ (List.nodup_iff_pairwise_ne.1 (h.wNd j))
    intro a b ha hb hab e
    obtain ⟨m, rfl, _⟩ := h.wIn j a ha
    obtain ⟨p, rfl, _⟩ := h.wIn j b hb
    simp at e hab; omega) (by
    intro x hx
    obtain ⟨a, ha, rfl⟩ := List.mem_map.1 hx
    obtain ⟨m, rfl, hm, _⟩ := h.wIn j a ha
    simpa using hm)
  simpa using this

/-- The visited false literal's clauses, for a look. -/
theorem Good.lookInv (h : Good n T) (p : Nat) (hp : p < T.lits.length) : LookInv n 300000 20000 (-(T.lits.getD p 0)) (T.W.getD (sideN (-(T.lits.getD p 0))) []) 0 [] T where
  ok := h.ok
  neg := by rw [valOf_neg, (h.lit _).1 (mem_getD hp)]
  xok := by have := h.litVar (mem_getD (d := 0) hp); rw [Int.natAbs_neg]; exact this
  kl := Nat.le_refl _
  il := Nat.zero_le _
  rows := fun q => by have := h.rowLen q; have := h.ok.ll; omega
  lits := by have := h.litsLen; have := h.ok.n2; omega
  rest := fun q _ hq => by
    obtain ⟨m, e, hm, hl, _⟩ := h.wIn _ _ (mem_getD (d := 0) hq)
    exact ⟨m, e, hm, hl.1⟩
end Go.Proofs.Ytngegkgmenfelaa
