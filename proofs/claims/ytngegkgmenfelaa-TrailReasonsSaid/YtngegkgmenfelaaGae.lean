/-
  PLAIN: what holds of a trail at all times ('Good'), and what each step leaves of it.
-/
import Derived.Test.YtngegkgmenfelaaWkl
import Derived.Test.YtngegkgmenfelaaWm
namespace Go.Proofs.Ytngegkgmenfelaa
open Go.RowKit Go.Lib

/-- Numbers below n, each once: at most n. -/
theorem pigeon : ∀ (n : Nat) (xs : List Nat), xs.Nodup → (∀ x ∈ xs, x < n) → xs.length ≤ n
  | 0, xs, _, h => by
    cases xs with
    | nil => simp
    | cons a xs => exact absurd (h a (by simp)) (by omega)
  | n + 1, xs, hn, h => by
    by_cases hm : n ∈ xs
    · have h1 := pigeon n (xs.erase n) (hn.erase n) (fun x hx => by
        have h2 := h x (List.mem_of_mem_erase hx)
        have h3 : x ≠ n := fun e => by rw [e] at hx; exact absurd hx (hn.not_mem_erase)
        omega)
      rw [List.length_erase_of_mem hm] at h1
      omega
    · have := pigeon n xs hn (fun x hx => by
        have h2 := h x hx
        have h3 : x ≠ n := fun e => hm (e ▸ hx)
        omega)
      omega

/-- A clause whose first two literals part. -/
def Long (c : List Int) : Prop := 2 ≤ c.length ∧ c.getD 0 0 ≠ c.getD 1 0
def Alike (c : List Int) : Prop := ∀ x ∈ c, x = c.getD 0 0
instance (c : List Int) : Decidable (Long c) := by unfold Long; exact inferInstance

def cl (T : Tr) (m : Nat) : List Int := T.L.getD m []

structure Good (n : Nat) (T : Tr) : Prop where
  ok : Ok n T
  part : ∀ m, m < T.L.length → Alike (cl T m) ∨ Long (cl T m)
  wIn : ∀ j k, k ∈ T.W.getD j [] → ∃ m : Nat, k = (m : Nat) ∧ m < T.L.length ∧ Long (cl T m) ∧ (j = sideN ((cl T m).getD 0 0) ∨ j = sideN ((cl T m).getD 1 0))
  wOf : ∀ m, m < T.L.length → Long (cl T m) → ((m : Nat) : Int) ∈ T.W.getD (sideN ((cl T m).getD 0 0)) [] ∧ ((m : Nat) : Int) ∈ T.W.getD (sideN ((cl T m).getD 1 0)) []
  wNd : ∀ j, (T.W.getD j []).Nodup
  shIn : ∀ k, k ∈ T.short → ∃ m : Nat, k = (m : Nat) ∧ m < T.L.length ∧ Alike (cl T m)
  shOf : ∀ m, m < T.L.length → ¬ Long (cl T m) → ((m : Nat) : Int) ∈ T.short
  shl : T.short.length ≤ T.L.length
  lit : ∀ x, x ∈ T.lits ↔ valOf T x = 1
  nd : T.lits.Nodup
  nxl : T.nx ≤ T.lits.length
  vis : ∀ p, p < T.nx → ∀ m, m < T.L.length → Long (cl T m) → ((cl T m).getD 0 0 = -(T.lits.getD p 0) → valOf T ((cl T m).getD 1 0) = 1) ∧ ((cl T m).getD 1 0 = -(T.lits.getD p 0) → valOf T ((cl T m).getD 0 0) = 1)
  stUp : ∀ a b, a < b → b < T.starts.length → T.starts.getD a 0 < T.starts.getD b 0
  stIn : ∀ a, a < T.starts.length → 0 ≤ T.starts.getD a 0 ∧ T.starts.getD a 0 < T.lits.length
  lev : ∀ i, i < T.lits.length → (factOf T (T.lits.getD i 0)).2.1 = ((T.starts.countP (fun s => decide (s ≤ (i : Int))) : Nat) : Int)
  rs : ∀ i, i < T.lits.length → (((i : Nat) : Int) ∈ T.starts ∧ (factOf T (T.lits.getD i 0)).2.2 = -1) ∨ (((i : Nat) : Int) ∉ T.starts ∧ ∃ m : Nat, m < T.L.length ∧ (factOf T (T.lits.getD i 0)).2.2 = (m : Nat) ∧ T.lits.getD i 0 ∈ cl T m ∧ ∀ y ∈ cl T m, y ≠ T.lits.getD i 0 → -y ∈ T.lits.take i)
  unk : ∀ x, valOf T x = 0 → factOf T x = (0, -1, -1)

variable {n : Nat} {T : Tr}

theorem valOf_var {x : Int} (h : valOf T x ≠ 0) : 1 ≤ x.natAbs ∧ x.natAbs ≤ T.F.length := by
  by_cases hv : 1 ≤ x.natAbs ∧ x.natAbs ≤ T.F.length
  · exact hv
  · exact absurd (by unfold valOf; rw [factOf_out hv]; split <;> rfl) h
theorem Good.litVar (h : Good n T) {x : Int} (hx : x ∈ T.lits) : 1 ≤ x.natAbs ∧ x.natAbs ≤ n := by
  have := (h.lit x).1 hx
  have h2 := valOf_var (T := T) (x := x) (by omega)
  rw [h.ok.fl] at h2; exact h2
theorem Good.litsLen (h : Good n T) : T.lits.length ≤ n := by
  have := pigeon n (T.lits.map fun x => x.natAbs - 1) (by
    rw [List.nodup_iff_pairwise_ne, List.pairwise_map]
    refine List.Pairwise.imp_of_mem ?_ (List.nodup_iff_pairwise_ne.1 h.nd)
    intro a b ha hb hab e
    have h1 := h.litVar ha
    have h2 := h.litVar hb
    have h3 : a = -b := by omega
    have h4 := (h.lit a).1 ha
    have h5 := (h.lit b).1 hb
    rw [h3, valOf_neg] at h4
    omega) (by
    intro x hx
    obtain ⟨a, ha, rfl⟩ := List.mem_map.1 hx
    have := h.litVar ha
    omega)
  simpa using this
theorem Good.rowLen (h : Good n T) (j : Nat) : (T.W.getD j []).length ≤ T.L.length := by
  have := pigeon T.L.length ((T.W.getD j []).map Int.toNat) (by
    rw [List.nodup_iff_pairwise_ne, List.pairwise_map]
    refine List.Pairwise.imp_of_mem ?_ (List.nodup_iff_pairwise_ne.1 (h.wNd j))
    intro a b ha hb hab e
    obtain ⟨m, rfl, _⟩ := h.wIn j a ha
    obtain ⟨p, rfl, _⟩ := h.wIn j b hb
    simp at e hab; omega) (by
    intro x hx
    obtain ⟨a, ha, rfl⟩ := List.mem_map.1 hx
    obtain ⟨m, rfl, hm, _⟩ := h.wIn j a ha
    simpa using hm)
  simpa using this

/-- The visited false literal's clauses, for a look. -/
theorem Good.lookInv (h : Good n T) (p : Nat) (hp : p < T.lits.length) : LookInv n 300000 20000 (-(T.lits.getD p 0)) (T.W.getD (sideN (-(T.lits.getD p 0))) []) 0 [] T where
  ok := h.ok
  neg := by rw [valOf_neg, (h.lit _).1 (mem_getD hp)]
  xok := by have := h.litVar (mem_getD (d := 0) hp); rw [Int.natAbs_neg]; exact this
  kl := Nat.le_refl _
  il := Nat.zero_le _
  rows := fun q => by have := h.rowLen q; have := h.ok.ll; omega
  lits := by have := h.litsLen; have := h.ok.n2; omega
  rest := fun q _ hq => by
    obtain ⟨m, e, hm, hl, _⟩ := h.wIn _ _ (mem_getD (d := 0) hq)
    exact ⟨m, e, hm, hl.1⟩
end Go.Proofs.Ytngegkgmenfelaa

/-
  PLAIN: Good behind a change of places, behind another literal to watch, behind a literal that is made true.
-/
namespace Go.Proofs.Ytngegkgmenfelaa
open Go.RowKit Go.Lib
variable {n : Nat} {T : Tr}

/-- The same clauses, each in some order. -/
def SameCl (T T' : Tr) : Prop := T'.L.length = T.L.length ∧ ∀ m x, x ∈ cl T' m ↔ x ∈ cl T m
theorem SameCl.refl (T : Tr) : SameCl T T := ⟨rfl, fun _ _ => Iff.rfl⟩
theorem SameCl.trans {a b c : Tr} (h : SameCl a b) (k : SameCl b c) : SameCl a c := ⟨k.1.trans h.1, fun m x => (k.2 m x).trans (h.2 m x)⟩

theorem cl_sw (T : Tr) (k i j m : Nat) (hk : k < T.L.length) : cl (swT T k i j) m = if m = k then ((cl T k).set i ((cl T k).getD j 0)).set j ((cl T k).getD i 0) else cl T m := by
  show (T.L.set k _).getD m [] = _
  by_cases e : m = k
  · subst e; rw [if_pos rfl, getD_set_eq _ _ _ hk]; rfl
  · rw [if_neg e, getD_set_ne _ _ _ (Ne.symm e)]; rfl
theorem set2_iff {c : List Int} {i j : Nat} (hi : i < c.length) (hj : j < c.length) (hij : i ≠ j) (x : Int) : x ∈ (c.set i (c.getD j 0)).set j (c.getD i 0) ↔ x ∈ c := by
  refine ⟨set2_mem hi hj, fun hx => ?_⟩
  obtain ⟨p, hp, rfl⟩ := List.getElem_of_mem hx
  have key : ∀ q, q < c.length → ((c.set i (c.getD j 0)).set j (c.getD i 0)).getD q 0 ∈ (c.set i (c.getD j 0)).set j (c.getD i 0) := fun q hq => mem_getD (by rw [List.length_set, List.length_set]; exact hq)
  have e0 : c[p] = c.getD p 0 := by rw [List.getD_eq_getElem?_getD, List.getElem?_eq_getElem hp, Option.getD_some]
  rw [e0]
  by_cases e : p = i
  · have := key j hj
    rw [getD_set_eq _ _ _ (by rw [List.length_set]; exact hj)] at this
    rw [e]; exact this
  · by_cases e' : p = j
    · have := key i hi
      rw [getD_set_ne _ _ _ (Ne.symm hij), getD_set_eq _ _ _ hi] at this
      rw [e']; exact this
    · have := key p hp
      rw [getD_set_ne _ _ _ (Ne.symm e'), getD_set_ne _ _ _ (Ne.symm e)] at this
      exact this
theorem SameCl.sw (T : Tr) (k i j : Nat) (hk : k < T.L.length) (hi : i < (cl T k).length) (hj : j < (cl T k).length) (hij : i ≠ j) : SameCl T (swT T k i j) := by
  refine ⟨sw_ll _ _ _ _, fun m x => ?_⟩
  rw [cl_sw _ _ _ _ _ hk]
  by_cases e : m = k
  · subst e; rw [if_pos rfl]; exact set2_iff hi hj hij x
  · rw [if_neg e]
theorem alike_iff {c c' : List Int} (h : ∀ x, x ∈ c' ↔ x ∈ c) (ha : Alike c) : Alike c' := by
  intro x hx
  have h1 := ha x ((h x).1 hx)
  have h2 : c'.getD 0 0 ∈ c' := mem_getD (List.length_pos_of_mem hx)
  have h3 := ha _ ((h _).1 h2)
  rw [h1, h3]
theorem long_not_alike {c : List Int} (h : Long c) : ¬ Alike c := fun ha => h.2 (ha _ (mem_getD (by have := h.1; omega))).symm

/-- The first two literals of a clause change places. -/
theorem Good.sw01 (h : Good n T) (k : Nat) (hk : k < T.L.length) (hl : Long (cl T k)) : Good n (swT T k 0 1) ∧ SameCl T (swT T k 0 1) := by
  have hs := SameCl.sw T k 0 1 hk (by have := hl.1; omega) (by have := hl.1; omega) (by omega)
  have e0 : ∀ m, (cl (swT T k 0 1) m).getD 0 0 = if m = k then (cl T m).getD 1 0 else (cl T m).getD 0 0 := fun m => by
    rw [cl_sw _ _ _ _ _ hk]
    by_cases e : m = k
    · subst e
      rw [if_pos rfl, if_pos rfl, getD_set_ne _ _ _ (by omega), getD_set_eq _ _ _ (by have := hl.1; omega)]
    · rw [if_neg e, if_neg e]
  have e1 : ∀ m, (cl (swT T k 0 1) m).getD 1 0 = if m = k then (cl T m).getD 0 0 else (cl T m).getD 1 0 := fun m => by
    rw [cl_sw _ _ _ _ _ hk]
    by_cases e : m = k
    · subst e
      rw [if_pos rfl, if_pos rfl, getD_set_eq _ _ _ (by rw [List.length_set]; have := hl.1; omega)]
    · rw [if_neg e, if_neg e]
  have el : ∀ m, (cl (swT T k 0 1) m).length = (cl T m).length := fun m => sw_len T k 0 1 m
  have lg : ∀ m, Long (cl (swT T k 0 1) m) ↔ Long (cl T m) := fun m => by
    unfold Long
    rw [el, e0, e1]
    by_cases e : m = k
    · rw [if_pos e, if_pos e]; exact ⟨fun h => ⟨h.1, Ne.symm h.2⟩, fun h => ⟨h.1, Ne.symm h.2⟩⟩
    · rw [if_neg e, if_neg e]
  have ak : ∀ m, Alike (cl (swT T k 0 1) m) ↔ Alike (cl T m) := fun m => ⟨alike_iff fun x => (hs.2 m x).symm, alike_iff fun x => hs.2 m x⟩
  refine ⟨{ h with
    ok := h.ok.sw k 0 1 (by have := hl.1; exact (by omega : 0 < (cl T k).length)) (by have := hl.1; exact (by omega : 1 < (cl T k).length))
    part := fun m hm => ?_, wIn := fun j q hq => ?_, wOf := fun m hm hL => ?_, shIn := fun q hq => ?_, shOf := fun m hm hL => ?_, shl := by rw [hs.1]; exact h.shl
    vis := fun p hp m hm hL => ?_, rs := fun i hi => ?_, lit := h.lit, unk := h.unk, lev := h.lev }, hs⟩
  · rw [hs.1] at hm
    rw [ak, lg]; exact h.part m hm
  · obtain ⟨m, rfl, hm, hL, ho⟩ := h.wIn j q hq
    refine ⟨m, rfl, by rw [hs.1]; exact hm, (lg m).2 hL, ?_⟩
    rw [e0, e1]
    by_cases e : m = k
    · rw [if_pos e, if_pos e]; exact ho.symm
    · rw [if_neg e, if_neg e]; exact ho
  · rw [hs.1] at hm
    obtain ⟨a, b⟩ := h.wOf m hm ((lg m).1 hL)
    rw [e0, e1]
    by_cases e : m = k
    · rw [if_pos e, if_pos e]; exact ⟨b, a⟩
    · rw [if_neg e, if_neg e]; exact ⟨a, b⟩
  · obtain ⟨m, rfl, hm, hA⟩ := h.shIn q hq
    exact ⟨m, rfl, by rw [hs.1]; exact hm, (ak m).2 hA⟩
  · rw [hs.1] at hm
    exact h.shOf m hm (fun hh => hL ((lg m).2 hh))
  · rw [hs.1] at hm
    obtain ⟨a, b⟩ := h.vis p hp m hm ((lg m).1 hL)
    rw [e0, e1]
    by_cases e : m = k
    · rw [if_pos e, if_pos e]; exact ⟨b, a⟩
    · rw [if_neg e, if_neg e]; exact ⟨a, b⟩
  · rcases h.rs i hi with h1 | ⟨h1, m, h2, h3, h4, h5⟩
    · exact .inl h1
    · exact .inr ⟨h1, m, by rw [hs.1]; exact h2, h3, (hs.2 m _).2 h4, fun y hy => h5 y ((hs.2 m y).1 hy)⟩

/-- A literal is made true: by a clause, or decided (its level then begins behind all others). -/
theorem Good.make_core (h : Good n T) (y r : Int) (hy : 1 ≤ y.natAbs ∧ y.natAbs ≤ n) (hv : valOf T y = 0) (m : Nat) (hm : m < T.L.length) (hr : r = (m : Nat)) (hym : y ∈ cl T m) (hz : ∀ z ∈ cl T m, z ≠ y → valOf T z = -1) : Good n (makeT T y r) := by
  have hyF : 1 ≤ y.natAbs ∧ y.natAbs ≤ T.F.length := by rw [h.ok.fl]; exact hy
  have hv' : valOf T (-y) = 0 := by rw [valOf_neg, hv]; rfl
  have v1 : ∀ x, valOf T x = 1 → valOf (makeT T y r) x = 1 := fun x hx => by
    rw [valOf_make T y r x hyF]
    have e1 : ¬ x = y := fun e => by rw [e, hv] at hx; omega
    have e2 : ¬ x = -y := fun e => by rw [e, hv'] at hx; omega
    rw [if_neg e1, if_neg e2]; exact hx
  have fo : ∀ x, valOf T x ≠ 0 → factOf (makeT T y r) x = factOf T x := fun x hx => by
    rw [factOf_make T y r x hyF, if_neg]
    intro e
    have : x = y ∨ x = -y := by omega
    rcases this with e | e
    · rw [e, hv] at hx; exact hx rfl
    · rw [e, hv'] at hx; exact hx rfl
  have hyl : y ∉ T.lits := fun hh => by have := (h.lit y).1 hh; omega
  have gl : ∀ i, i < T.lits.length → (T.lits ++ [y]).getD i 0 = T.lits.getD i 0 := fun i hi => by
    rw [List.getD_eq_getElem?_getD, List.getElem?_append_left hi, ← List.getD_eq_getElem?_getD]
  have ge : (T.lits ++ [y]).getD T.lits.length 0 = y := by
    rw [List.getD_eq_getElem?_getD, List.getElem?_append_right (Nat.le_refl _)]; simp
  have vl : ∀ i, i < T.lits.length → valOf T (T.lits.getD i 0) ≠ 0 := fun i hi => by rw [(h.lit _).1 (mem_getD hi)]; omega
  have ll : (makeT T y r).lits.length = T.lits.length + 1 := by show (T.lits ++ [y]).length = _; simp
  have fy : factOf (makeT T y r) y = (sgn y, ((T.starts.length : Nat) : Int), r) := by rw [factOf_make T y r y hyF, if_pos rfl]
  refine { h with
    ok := h.ok.make y r hy, lit := fun x => ?_, nd := ?_, nxl := ?_, vis := fun p hp m hm hL => ?_, stIn := fun a ha => ?_, lev := fun i hi => ?_, rs := fun i hi => ?_, unk := fun x hx => ?_ }
  · show x ∈ T.lits ++ [y] ↔ _
    rw [List.mem_append, List.mem_singleton, h.lit x, valOf_make T y r x hyF]
    by_cases e1 : x = y
    · rw [if_pos e1]; simp [e1]
    · rw [if_neg e1]
      by_cases e2 : x = -y
      · rw [if_pos e2, e2, hv']; have : ¬ -y = y := by omega
        simp [this]
      · rw [if_neg e2]; simp [e1]
  · show (T.lits ++ [y]).Nodup
    rw [List.nodup_append]
    refine ⟨h.nd, by simp, fun a ha b hb => ?_⟩
    rw [List.mem_singleton] at hb
    subst hb
    exact fun e => hyl (e ▸ ha)
  · rw [ll]; have := h.nxl; show T.nx ≤ _; omega
  · have hp' : p < T.lits.length := Nat.lt_of_lt_of_le hp h.nxl
    show ((cl T m).getD 0 0 = -((T.lits ++ [y]).getD p 0) → _) ∧ ((cl T m).getD 1 0 = -((T.lits ++ [y]).getD p 0) → _)
    rw [gl p hp']
    obtain ⟨a, b⟩ := h.vis p hp m hm hL
    exact ⟨fun e => v1 _ (a e), fun e => v1 _ (b e)⟩
  · rw [ll]; have := h.stIn a ha; show 0 ≤ T.starts.getD a 0 ∧ T.starts.getD a 0 < ((T.lits.length + 1 : Nat) : Int); omega
  · rw [ll] at hi
    show (factOf (makeT T y r) ((T.lits ++ [y]).getD i 0)).2.1 = _
    by_cases e : i < T.lits.length
    · rw [gl i e, fo _ (vl i e)]; exact h.lev i e
    · obtain rfl : i = T.lits.length := by omega
      rw [ge, fy]
      show ((T.starts.length : Nat) : Int) = ((T.starts.countP _ : Nat) : Int)
      rw [List.countP_eq_length.2]
      intro s hs
      obtain ⟨a, ha, rfl⟩ := List.getElem_of_mem hs
      have := h.stIn a ha
      rw [List.getD_eq_getElem?_getD, List.getElem?_eq_getElem ha, Option.getD_some] at this
      simpa using (by omega)
  · rw [ll] at hi
    show (((i : Nat) : Int) ∈ T.starts ∧ (factOf (makeT T y r) ((T.lits ++ [y]).getD i 0)).2.2 = -1) ∨ _
    by_cases e : i < T.lits.length
    · have et : (T.lits ++ [y]).take i = T.lits.take i := List.take_append_of_le_length (by omega)
      rcases h.rs i e with h1 | ⟨h1, m', h2, h3, h4, h5⟩
      · rw [gl i e, fo _ (vl i e)]; exact .inl h1
      · refine .inr ⟨h1, m', h2, ?_, ?_, ?_⟩
        · show (factOf (makeT T y r) ((T.lits ++ [y]).getD i 0)).2.2 = _
          rw [gl i e, fo _ (vl i e)]; exact h3
        · show (T.lits ++ [y]).getD i 0 ∈ cl T m'
          rw [gl i e]; exact h4
        · show ∀ z ∈ cl T m', z ≠ (T.lits ++ [y]).getD i 0 → -z ∈ (T.lits ++ [y]).take i
          rw [gl i e, et]; exact h5
    · obtain rfl : i = T.lits.length := by omega
      refine .inr ⟨fun (hh : ((T.lits.length : Nat) : Int) ∈ T.starts) => ?_, m, hm, ?_, ?_, ?_⟩
      · obtain ⟨a, ha, e2⟩ := List.getElem_of_mem hh
        have := h.stIn a ha
        rw [List.getD_eq_getElem?_getD, List.getElem?_eq_getElem ha, Option.getD_some, e2] at this
        omega
      · show (factOf (makeT T y r) ((T.lits ++ [y]).getD T.lits.length 0)).2.2 = _
        rw [ge, fy]; exact hr
      · show (T.lits ++ [y]).getD T.lits.length 0 ∈ cl T m
        rw [ge]; exact hym
      · show ∀ z ∈ cl T m, z ≠ (T.lits ++ [y]).getD T.lits.length 0 → -z ∈ (T.lits ++ [y]).take T.lits.length
        rw [ge, List.take_append_of_le_length (Nat.le_refl _), List.take_length]
        intro z hz1 hz2
        rw [h.lit, valOf_neg, hz z hz1 hz2]; rfl
  · rw [valOf_make T y r x hyF] at hx
    by_cases e1 : x = y
    · rw [if_pos e1] at hx; omega
    · rw [if_neg e1] at hx
      by_cases e2 : x = -y
      · rw [if_pos e2] at hx; omega
      · rw [if_neg e2] at hx
        rw [factOf_make T y r x hyF, if_neg (by omega)]
        exact h.unk x hx
end Go.Proofs.Ytngegkgmenfelaa

/-
  PLAIN: look keeps Good; what it tells.
-/
namespace Go.Proofs.Ytngegkgmenfelaa
open Go.RowKit Go.Lib
variable {n : Nat} {T : Tr}

/-- A clause's second watch moves from x to another literal; x's row is kept ++ k :: rest. -/
theorem Good.other {x : Int} {j k i : Nat} {kept rest : List Int} (h : Good n (setW T j (kept ++ (k : Int) :: rest))) (hj : sideN x = j) (hjw : j < T.W.length) (hx : valOf T x = -1) (hk : k < T.L.length) (hl : Long (cl T k)) (hc1 : (cl T k).getD 1 0 = x) (hc0 : valOf T ((cl T k).getD 0 0) ≠ 1)
    (h2 : 2 ≤ i) (hi : i < (cl T k).length) (hg : goodI T (cl T k) i = true) : Good n (setW (otherT T k i) j (kept ++ rest)) ∧ SameCl T (otherT T k i) := by
  subst hj
  have hs : SameCl T (otherT T k i) := SameCl.sw T k 1 i hk (by omega) hi (by omega)
  have hcm : ∀ z ∈ cl T k, 1 ≤ z.natAbs ∧ z.natAbs ≤ n := (h.ok.clause k).2
  have hg1 : 0 ≤ valOf T ((cl T k).getD i 0) ∧ (cl T k).getD i 0 ≠ (cl T k).getD 0 0 := by
    unfold goodI at hg
    rw [Bool.and_eq_true, decide_eq_true_eq, bne_iff_ne] at hg
    exact hg
  have m0 : 1 ≤ ((cl T k).getD 0 0).natAbs := (hcm _ (mem_getD (by omega))).1
  have mi : 1 ≤ ((cl T k).getD i 0).natAbs := (hcm _ (mem_getD hi)).1
  have m1 : 1 ≤ x.natAbs := by rw [← hc1]; exact (hcm _ (mem_getD (by have := hl.1; omega))).1
  have n0x : (cl T k).getD 0 0 ≠ x := by rw [← hc1]; exact hl.2
  have nix : (cl T k).getD i 0 ≠ x := fun e => by rw [e, hx] at hg1; omega
  obtain ⟨s, hsd⟩ : ∃ s, sideN ((cl T k).getD i 0) = s := ⟨_, rfl⟩
  have sj : s ≠ sideN x := fun e => nix (side_inj (by omega) (by omega) (hsd.trans e))
  have s0j : sideN ((cl T k).getD 0 0) ≠ sideN x := fun e => n0x (side_inj (by omega) (by omega) e)
  have s0s : sideN ((cl T k).getD 0 0) ≠ s := fun e => hg1.2 (side_inj (by omega) (by omega) (e.trans hsd.symm)).symm
  have hsl : s < T.W.length := by
    rw [← hsd]
    have := h.ok.wl
    rw [show (setW T (sideN x) (kept ++ (k : Int) :: rest)).W.length = T.W.length from by show (T.W.set _ _).length = _; rw [List.length_set]] at this
    rw [this]; exact side_lt (hcm _ (mem_getD hi))
  -- the clauses
  have e0 : ∀ m, (cl (otherT T k i) m).getD 0 0 = (cl T m).getD 0 0 := fun m => by
    rw [show cl (otherT T k i) m = cl (swT T k 1 i) m from rfl, cl_sw _ _ _ _ _ hk]
    by_cases e : m = k
    · subst e; rw [if_pos rfl, getD_set_ne _ _ _ (by omega), getD_set_ne _ _ _ (by omega)]
    · rw [if_neg e]
  have e1 : ∀ m, (cl (otherT T k i) m).getD 1 0 = if m = k then (cl T k).getD i 0 else (cl T m).getD 1 0 := fun m => by
    rw [show cl (otherT T k i) m = cl (swT T k 1 i) m from rfl, cl_sw _ _ _ _ _ hk]
    by_cases e : m = k
    · subst e; rw [if_pos rfl, if_pos rfl, getD_set_ne _ _ _ (by omega), getD_set_eq _ _ _ (by omega)]
    · rw [if_neg e, if_neg e]
  have el : ∀ m, (cl (otherT T k i) m).length = (cl T m).length := fun m => sw_len T k 1 i m
  have lg : ∀ m, Long (cl (otherT T k i) m) ↔ Long (cl T m) := fun m => by
    unfold Long
    rw [el, e0, e1]
    by_cases e : m = k
    · subst e; rw [if_pos rfl]; exact ⟨fun _ => hl, fun h => ⟨h.1, Ne.symm hg1.2⟩⟩
    · rw [if_neg e]
  have ak : ∀ m, Alike (cl (otherT T k i) m) ↔ Alike (cl T m) := fun m => ⟨alike_iff fun z => (hs.2 m z).symm, alike_iff fun z => hs.2 m z⟩
  -- the rows
  have rA : ∀ p, (setW T (sideN x) (kept ++ (k : Int) :: rest)).W.getD p [] = if p = sideN x then kept ++ (k : Int) :: rest else T.W.getD p [] := fun p => by
    by_cases e : p = sideN x
    · rw [if_pos e, e]; exact setW_get _ _ _ hjw
    · rw [if_neg e]; exact getD_set_ne _ _ _ (Ne.symm e)
  have r2 : ∀ p, (setW (otherT T k i) (sideN x) (kept ++ rest)).W.getD p [] = if p = sideN x then kept ++ rest else if p = s then T.W.getD p [] ++ [(k : Int)] else T.W.getD p [] := fun p => by
    have hl2 : (push T.W (sideN ((T.L.getD k []).getD i 0)) k).length = T.W.length := by unfold push; rw [List.length_set]
    by_cases e : p = sideN x
    · rw [if_pos e, e]; exact setW_get _ _ _ (by show _ < (push T.W _ k).length; rw [hl2]; exact hjw)
    · rw [if_neg e]
      show ((push T.W (sideN ((cl T k).getD i 0)) k).set _ _).getD p [] = _
      rw [getD_set_ne _ _ _ (Ne.symm e), hsd]
      unfold push
      by_cases e' : p = s
      · rw [if_pos e', e', getD_set_eq _ _ _ hsl]
      · rw [if_neg e', getD_set_ne _ _ _ (Ne.symm e')]
  have ndj := h.wNd (sideN x)
  rw [rA, if_pos rfl] at ndj
  have knot : (k : Int) ∉ kept ++ rest := fun hh => by
    rw [List.nodup_append] at ndj
    obtain ⟨_, b, c⟩ := ndj
    rw [List.nodup_cons] at b
    rcases List.mem_append.1 hh with hh | hh
    · exact c _ hh _ (List.mem_cons_self ..) rfl
    · exact b.1 hh
  have kns : (k : Int) ∉ T.W.getD s [] := fun hh => by
    obtain ⟨m, e, hm, _, ho⟩ := h.wIn s (k : Int) (by rw [rA, if_neg sj]; exact hh)
    obtain rfl : k = m := by omega
    rcases ho with ho | ho
    · exact s0s ho.symm
    · rw [show (cl (setW T (sideN x) (kept ++ (k : Int) :: rest)) k).getD 1 0 = x from hc1] at ho; exact sj ho
  refine ⟨{
    ok := ((h.ok.sw k 1 i (by show 1 < (cl T k).length; omega) hi).push s k).setW (sideN x) _ |> fun o => by
      have : setW (pushT (swT (setW T (sideN x) (kept ++ (k : Int) :: rest)) k 1 i) s k) (sideN x) (kept ++ rest) = setW (otherT T k i) (sideN x) (kept ++ rest) := by
        have e := push_set T.W (sideN x) s k (kept ++ (k : Int) :: rest) sj
        show Tr.mk _ ((push (T.W.set (sideN x) (kept ++ (k : Int) :: rest)) s k).set (sideN x) (kept ++ rest)) _ _ _ _ _ = Tr.mk _ ((push T.W (sideN ((T.L.getD k []).getD i 0)) k).set (sideN x) (kept ++ rest)) _ _ _ _ _
        rw [e, List.set_set, show sideN ((T.L.getD k []).getD i 0) = s from hsd]
        rfl
      rw [← this]; exact o
    part := fun m hm => by rw [show (setW (otherT T k i) (sideN x) (kept ++ rest)).L.length = (otherT T k i).L.length from rfl, hs.1] at hm; rw [show cl (setW (otherT T k i) (sideN x) (kept ++ rest)) m = cl (otherT T k i) m from rfl, ak, lg]; exact h.part m hm
    wIn := fun p q hq => ?_, wOf := fun m hm hL => ?_, wNd := fun p => ?_
    shIn := fun q hq => by
      obtain ⟨m, rfl, hm, hA⟩ := h.shIn q hq
      exact ⟨m, rfl, by show m < (otherT T k i).L.length; rw [hs.1]; exact hm, (ak m).2 hA⟩
    shOf := fun m hm hL => by
      have hm' : m < T.L.length := by rw [← hs.1]; exact hm
      exact h.shOf m hm' (fun hh => hL ((lg m).2 hh))
    shl := by show T.short.length ≤ (otherT T k i).L.length; rw [hs.1]; exact h.shl
    lit := h.lit, nd := h.nd, nxl := h.nxl, vis := fun p hp m hm hL => ?_, stUp := h.stUp, stIn := h.stIn, lev := h.lev
    rs := fun a ha => by
      rcases h.rs a ha with h1 | ⟨h1, m, h2, h3, h4, h5⟩
      · exact .inl h1
      · exact .inr ⟨h1, m, by show m < (otherT T k i).L.length; rw [hs.1]; exact h2, h3, (hs.2 m _).2 h4, fun y hy => h5 y ((hs.2 m y).1 hy)⟩
    unk := h.unk }, hs⟩
  · rw [r2] at hq
    have fin : ∀ m : Nat, m < T.L.length → Long (cl T m) → (p = sideN ((cl (otherT T k i) m).getD 0 0) ∨ p = sideN ((cl (otherT T k i) m).getD 1 0)) → ∃ m' : Nat, ((m : Nat) : Int) = (m' : Nat) ∧ m' < (otherT T k i).L.length ∧ Long (cl (otherT T k i) m') ∧ (p = sideN ((cl (otherT T k i) m').getD 0 0) ∨ p = sideN ((cl (otherT T k i) m').getD 1 0)) := fun m a b c => ⟨m, rfl, by rw [hs.1]; exact a, (lg m).2 b, c⟩
    by_cases ep : p = sideN x
    · rw [if_pos ep] at hq
      obtain ⟨m, rfl, hm, hL, ho⟩ := h.wIn p q (by rw [rA, if_pos ep, List.mem_append, List.mem_cons]; rcases List.mem_append.1 hq with hq | hq; exact .inl hq; exact .inr (.inr hq))
      have hmk : m ≠ k := fun e => knot (by rw [← e]; exact hq)
      refine fin m hm hL ?_
      rw [e0, e1, if_neg hmk]; exact ho
    · rw [if_neg ep] at hq
      by_cases es : p = s
      · rw [if_pos es, List.mem_append, List.mem_singleton] at hq
        rcases hq with hq | rfl
        · obtain ⟨m, rfl, hm, hL, ho⟩ := h.wIn p q (by rw [rA, if_neg ep]; exact hq)
          have hmk : m ≠ k := fun e => kns (by rw [← e, ← es]; exact hq)
          refine fin m hm hL ?_
          rw [e0, e1, if_neg hmk]; exact ho
        · refine fin k hk hl (.inr ?_)
          rw [e1, if_pos rfl, hsd]; exact es
      · rw [if_neg es] at hq
        obtain ⟨m, rfl, hm, hL, ho⟩ := h.wIn p q (by rw [rA, if_neg ep]; exact hq)
        refine fin m hm hL ?_
        rw [e0, e1]
        by_cases hmk : m = k
        · subst hmk
          rcases ho with ho | ho
          · exact .inl ho
          · rw [show (cl (setW T (sideN x) (kept ++ (m : Int) :: rest)) m).getD 1 0 = x from hc1] at ho
            exact absurd ho ep
        · rw [if_neg hmk]; exact ho
  · have hm' : m < T.L.length := by rw [← hs.1]; exact hm
    have hL' := (lg m).1 hL
    obtain ⟨a, b⟩ := h.wOf m hm' hL'
    show ((m : Nat) : Int) ∈ _ ∧ ((m : Nat) : Int) ∈ _
    rw [show cl (setW (otherT T k i) (sideN x) (kept ++ rest)) m = cl (otherT T k i) m from rfl, e0, e1, r2, r2]
    rw [show cl (setW T (sideN x) (kept ++ (k : Int) :: rest)) m = cl T m from rfl] at a b
    rw [rA] at a b
    have keep2 : m ≠ k → ∀ z, ((m : Nat) : Int) ∈ (if sideN z = sideN x then kept ++ (k : Int) :: rest else T.W.getD (sideN z) []) → ((m : Nat) : Int) ∈ (if sideN z = sideN x then kept ++ rest else if sideN z = s then T.W.getD (sideN z) [] ++ [(k : Int)] else T.W.getD (sideN z) []) := fun hmk z hz => by
      by_cases ez : sideN z = sideN x
      · rw [if_pos ez] at hz ⊢
        rw [List.mem_append, List.mem_cons] at hz
        rw [List.mem_append]
        rcases hz with hz | hz | hz
        · exact .inl hz
        · exact absurd (by omega) hmk
        · exact .inr hz
      · rw [if_neg ez] at hz ⊢
        split
        · exact List.mem_append_left _ hz
        · exact hz
    by_cases hmk : m = k
    · subst hmk
      rw [if_pos rfl, hsd, if_neg s0j, if_neg s0s, if_neg sj, if_pos rfl]
      rw [if_neg s0j] at a
      exact ⟨a, List.mem_append_right _ (List.mem_singleton.2 rfl)⟩
    · rw [if_neg hmk]
      exact ⟨keep2 hmk _ a, keep2 hmk _ b⟩
  · rw [r2]
    by_cases ep : p = sideN x
    · rw [if_pos ep]
      rw [List.nodup_append] at ndj ⊢
      obtain ⟨a, b, c⟩ := ndj
      rw [List.nodup_cons] at b
      exact ⟨a, b.2, fun u hu v hv => c u hu v (List.mem_cons_of_mem _ hv)⟩
    · rw [if_neg ep]
      have := h.wNd p
      rw [rA, if_neg ep] at this
      split
      · rename_i es
        rw [List.nodup_append]
        refine ⟨this, by simp, fun u hu v hv => ?_⟩
        rw [List.mem_singleton] at hv
        subst hv
        exact fun e => kns (by rw [← es, ← e]; exact hu)
      · exact this
  · have hm' : m < T.L.length := by rw [← hs.1]; exact hm
    obtain ⟨a, b⟩ := h.vis p hp m hm' ((lg m).1 hL)
    show ((cl (otherT T k i) m).getD 0 0 = -(T.lits.getD p 0) → valOf T ((cl (otherT T k i) m).getD 1 0) = 1) ∧ ((cl (otherT T k i) m).getD 1 0 = -(T.lits.getD p 0) → valOf T ((cl (otherT T k i) m).getD 0 0) = 1)
    rw [e0, e1]
    by_cases hmk : m = k
    · subst hmk
      rw [if_pos rfl]
      have a' : (cl T m).getD 0 0 = -(T.lits.getD p 0) → valOf T ((cl T m).getD 1 0) = 1 := a
      rw [hc1, hx] at a'
      refine ⟨fun e => absurd (a' e) (by omega), fun e => ?_⟩
      have hpl : valOf T (T.lits.getD p 0) = 1 := (h.lit _).1 (mem_getD (Nat.lt_of_lt_of_le hp h.nxl))
      rw [e, valOf_neg, hpl] at hg1
      omega
    · rw [if_neg hmk]; exact ⟨a, b⟩
end Go.Proofs.Ytngegkgmenfelaa

/-
  PLAIN: look as a whole.
-/
namespace Go.Proofs.Ytngegkgmenfelaa
open Go.RowKit Go.Lib
variable {n : Nat} {T : Tr}

/-- More is known; the clauses are the same. -/
structure Ext (T T' : Tr) : Prop where
  same : SameCl T T'
  starts : T'.starts = T.starts
  short : T'.short = T.short
  wl : T'.W.length = T.W.length
  lits : ∃ more, T'.lits = T.lits ++ more
theorem Ext.refl (T : Tr) : Ext T T := ⟨SameCl.refl T, rfl, rfl, rfl, [], by simp⟩
theorem Ext.trans {a b c : Tr} (h : Ext a b) (k : Ext b c) : Ext a c := by
  obtain ⟨m1, e1⟩ := h.lits
  obtain ⟨m2, e2⟩ := k.lits
  exact ⟨h.same.trans k.same, k.starts.trans h.starts, k.short.trans h.short, k.wl.trans h.wl, m1 ++ m2, by rw [e2, e1, List.append_assoc]⟩

/-- The clause m has x for a watch, and then the other one is true. -/
def Done (T : Tr) (x : Int) (m : Nat) : Prop := ((cl T m).getD 0 0 = x → valOf T ((cl T m).getD 1 0) = 1) ∧ ((cl T m).getD 1 0 = x → valOf T ((cl T m).getD 0 0) = 1)

structure LookRes (n : Nat) (x : Int) (T0 : Tr) (R : Int × List Int × Tr) : Prop where
  good : Good n (setW R.2.2 (sideN x) R.2.1)
  ext : Ext T0 R.2.2
  nx : R.2.2.nx = T0.nx
  yes : R.1 = -1 → ∀ k ∈ R.2.1, ∃ m : Nat, k = (m : Nat) ∧ Done R.2.2 x m
  no : R.1 ≠ -1 → ∃ m : Nat, R.1 = (m : Nat) ∧ m < R.2.2.L.length ∧ ∀ z ∈ cl R.2.2 m, valOf R.2.2 z = -1
theorem LookRes.from {x : Int} {T0 T1 : Tr} {R : Int × List Int × Tr} (h : LookRes n x T1 R) (e : Ext T0 T1) (hn : T1.nx = T0.nx) : LookRes n x T0 R := ⟨h.good, e.trans h.ext, h.nx.trans hn, h.yes, h.no⟩

theorem cl_other_ne (T : Tr) (k i m : Nat) (h : m ≠ k) : cl (otherT T k i) m = cl T m := getD_set_ne _ _ _ (Ne.symm h)
theorem cl_look1_ne (T : Tr) (x : Int) (k m : Nat) (h : m ≠ k) : cl (look1 x k T) m = cl T m := by
  unfold look1; split
  · exact getD_set_ne _ _ _ (Ne.symm h)
  · rfl

theorem lookGo_good {x : Int} (hxn : 1 ≤ x.natAbs ∧ x.natAbs ≤ n) : ∀ (rest kept : List Int) (T : Tr), Good n (setW T (sideN x) (kept ++ rest)) → sideN x < T.W.length → valOf T x = -1 → (∀ k ∈ kept, ∃ m : Nat, k = (m : Nat) ∧ Done T x m) → LookRes n x T (lookGo x rest kept T)
  | [], kept, T, h, hj, hx, hd => by
    rw [List.append_nil] at h
    exact ⟨h, Ext.refl T, rfl, fun _ => hd, fun hh => absurd rfl hh⟩
  | k :: rest, kept, T, h, hj, hx, hd => by
    obtain ⟨m, rfl, hm, hL, ho⟩ := h.wIn (sideN x) k (by rw [setW_get _ _ _ hj]; exact List.mem_append_right _ (List.mem_cons_self ..))
    have hm : m < T.L.length := hm
    have hL : Long (cl T m) := hL
    have ho : sideN x = sideN ((cl T m).getD 0 0) ∨ sideN x = sideN ((cl T m).getD 1 0) := ho
    have hcm : ∀ z ∈ cl T m, 1 ≤ z.natAbs ∧ z.natAbs ≤ n := (h.ok.clause m).2
    have m0 := (hcm _ (mem_getD (d := 0) (show 0 < (cl T m).length by have := hL.1; omega))).1
    have m1 := (hcm _ (mem_getD (d := 0) (show 1 < (cl T m).length by have := hL.1; omega))).1
    have nd := h.wNd (sideN x)
    rw [setW_get _ _ _ hj] at nd
    have hmk : ∀ q : Nat, ((q : Nat) : Int) ∈ kept → q ≠ m := fun q hq e => by
      rw [List.nodup_append] at nd
      exact nd.2.2 _ hq _ (List.mem_cons_self ..) (by rw [e])
    rw [lookGo_mid]
    -- behind the change of places
    obtain ⟨h1, s1, c1, L1⟩ : Good n (setW (look1 x m T) (sideN x) (kept ++ (m : Int) :: rest)) ∧ SameCl T (look1 x m T) ∧ (cl (look1 x m T) m).getD 1 0 = x ∧ Long (cl (look1 x m T) m) := by
      by_cases e : (cl T m).getD 0 0 = x
      · have e1 : look1 x m T = swT T m 0 1 := if_pos e
        rw [e1]
        obtain ⟨g, s⟩ := h.sw01 m hm hL
        have c1 : (cl (swT T m 0 1) m).getD 1 0 = x := by rw [cl_sw _ _ _ _ _ hm, if_pos rfl, getD_set_eq _ _ _ (by rw [List.length_set]; have := hL.1; omega)]; exact e
        have c0 : (cl (swT T m 0 1) m).getD 0 0 = (cl T m).getD 1 0 := by rw [cl_sw _ _ _ _ _ hm, if_pos rfl, getD_set_ne _ _ _ (by omega), getD_set_eq _ _ _ (by have := hL.1; omega)]
        refine ⟨g, s, c1, by rw [show (cl (swT T m 0 1) m).length = (cl T m).length from sw_len T m 0 1 m]; exact hL.1, ?_⟩
        rw [c0, c1, ← e]; exact Ne.symm hL.2
      · have e1 : look1 x m T = T := if_neg e
        rw [e1]
        refine ⟨h, SameCl.refl T, ?_, hL⟩
        rcases ho with ho | ho
        · exact absurd (side_inj (by omega) (by omega) ho).symm e
        · exact (side_inj (by omega) (by omega) ho).symm
    obtain ⟨f1, f2, f3, f4, f5, f6⟩ := look1_rest x T m
    have hx1 : valOf (look1 x m T) x = -1 := by rw [valOf_F f1]; exact hx
    have hm1 : m < (look1 x m T).L.length := by rw [s1.1]; exact hm
    have hj1 : sideN x < (look1 x m T).W.length := by rw [f2]; exact hj
    have E1 : Ext T (look1 x m T) := ⟨s1, f5, f6, by rw [f2], [], by rw [f3]; simp⟩
    have hd1 : ∀ k ∈ kept, ∃ q : Nat, k = (q : Nat) ∧ Done (look1 x m T) x q := fun k hk => by
      obtain ⟨q, rfl, d1, d2⟩ := hd k hk
      refine ⟨q, rfl, ?_⟩
      unfold Done
      rw [cl_look1_ne T x m q (hmk q hk), valOf_F f1, valOf_F f1]
      exact ⟨d1, d2⟩
    refine LookRes.from ?_ E1 f4
    generalize look1 x m T = T1 at *
    clear hd f1 f2 f3 f4 f5 f6 E1 s1 h hx hj hm hL ho hcm m0 m1 nd
    have h2l : 2 ≤ (cl T1 m).length := L1.1
    have ym : (cl T1 m).getD 0 0 ∈ cl T1 m := mem_getD (by omega)
    have hcm : ∀ z ∈ cl T1 m, 1 ≤ z.natAbs ∧ z.natAbs ≤ n := (h1.ok.clause m).2
    have eapp : (kept ++ [(m : Int)]) ++ rest = kept ++ (m : Int) :: rest := by simp
    have n0x : (cl T1 m).getD 0 0 ≠ x := by rw [← c1]; exact L1.2
    unfold lookMid
    show LookRes n x T1 (if valOf T1 ((cl T1 m).getD 0 0) < 1 then (if otherI T1 (cl T1 m) < (cl T1 m).length then lookGo x rest kept (otherT T1 m (otherI T1 (cl T1 m))) else if valOf T1 ((cl T1 m).getD 0 0) = 0 then lookGo x rest (kept ++ [(m : Int)]) (makeT T1 ((cl T1 m).getD 0 0) m) else (m, kept ++ (m : Int) :: rest, T1)) else lookGo x rest (kept ++ [(m : Int)]) T1)
    have h3 := valOf_three h1.ok.small ((cl T1 m).getD 0 0)
    have h3 : valOf T1 ((cl T1 m).getD 0 0) = -1 ∨ valOf T1 ((cl T1 m).getD 0 0) = 0 ∨ valOf T1 ((cl T1 m).getD 0 0) = 1 := h3
    by_cases hv : valOf T1 ((cl T1 m).getD 0 0) < 1
    · rw [if_pos hv]
      obtain ⟨o1, o2, o3, o4⟩ := otherI_spec T1 (cl T1 m) h2l
      by_cases hot : otherI T1 (cl T1 m) < (cl T1 m).length
      · rw [if_pos hot]
        obtain ⟨g2, s2⟩ := h1.other rfl hj1 hx1 hm1 L1 c1 (by omega) o1 hot (o4 hot)
        have wl2 : (otherT T1 m (otherI T1 (cl T1 m))).W.length = T1.W.length := by show (push T1.W _ m).length = _; unfold push; rw [List.length_set]
        refine (lookGo_good hxn rest kept _ g2 (by rw [wl2]; exact hj1) hx1 fun k hk => ?_).from ⟨s2, rfl, rfl, wl2, [], by simp [otherT, pushT, swT]⟩ rfl
        obtain ⟨q, rfl, d1, d2⟩ := hd1 k hk
        refine ⟨q, rfl, ?_⟩
        unfold Done
        rw [cl_other_ne _ _ _ _ (hmk q hk)]
        exact ⟨d1, d2⟩
      · rw [if_neg hot]
        have oe : otherI T1 (cl T1 m) = (cl T1 m).length := by omega
        rw [oe] at o3
        have hz : ∀ z ∈ cl T1 m, z ≠ (cl T1 m).getD 0 0 → valOf T1 z = -1 := fun z hz hzy => by
          obtain ⟨p, hp, e⟩ := List.getElem_of_mem hz
          have e' : (cl T1 m).getD p 0 = z := by rw [List.getD_eq_getElem?_getD, List.getElem?_eq_getElem hp, Option.getD_some, e]
          by_cases p0 : p = 0
          · subst p0; exact absurd e'.symm hzy
          · by_cases p1 : p = 1
            · subst p1; rw [← e', c1]; exact hx1
            · have := o3 p (by omega) hp
              unfold goodI at this
              rw [e', Bool.and_eq_false_iff, decide_eq_false_iff_not, bne_eq_false_iff_eq] at this
              have h4 := valOf_three h1.ok.small z
              have h4 : valOf T1 z = -1 ∨ valOf T1 z = 0 ∨ valOf T1 z = 1 := h4
              rcases this with this | this
              · omega
              · exact absurd this hzy
        by_cases hv0 : valOf T1 ((cl T1 m).getD 0 0) = 0
        · rw [if_pos hv0]
          have yb := hcm _ ym
          have g2 := h1.make_core ((cl T1 m).getD 0 0) (m : Nat) yb hv0 m hm1 rfl ym hz
          rw [makeT_setW] at g2
          have yF : 1 ≤ ((cl T1 m).getD 0 0).natAbs ∧ ((cl T1 m).getD 0 0).natAbs ≤ T1.F.length := by have := h1.ok.fl; rw [show T1.F.length = n from this]; exact yb
          have vm : ∀ z, valOf T1 z = 1 → valOf (makeT T1 ((cl T1 m).getD 0 0) m) z = 1 := fun z hz1 => by
            rw [valOf_make _ _ _ _ yF]
            have e1 : ¬ z = (cl T1 m).getD 0 0 := fun e => by rw [e, hv0] at hz1; omega
            have e2 : ¬ z = -((cl T1 m).getD 0 0) := fun e => by rw [e, valOf_neg, hv0] at hz1; omega
            rw [if_neg e1, if_neg e2]; exact hz1
          have vy : valOf (makeT T1 ((cl T1 m).getD 0 0) m) ((cl T1 m).getD 0 0) = 1 := by rw [valOf_make _ _ _ _ yF, if_pos rfl]
          refine (lookGo_good hxn rest (kept ++ [(m : Int)]) (makeT T1 ((cl T1 m).getD 0 0) m) (by rw [eapp]; exact g2) hj1 ?_ fun k hk => ?_).from ⟨SameCl.refl _, rfl, rfl, rfl, [(cl T1 m).getD 0 0], rfl⟩ rfl
          · rw [valOf_make _ _ _ _ yF]
            have e1 : ¬ x = (cl T1 m).getD 0 0 := Ne.symm n0x
            have e2 : ¬ x = -((cl T1 m).getD 0 0) := fun e => by rw [e, valOf_neg, hv0] at hx1; omega
            rw [if_neg e1, if_neg e2]; exact hx1
          · rcases List.mem_append.1 hk with hk | hk
            · obtain ⟨q, rfl, d1, d2⟩ := hd1 k hk
              exact ⟨q, rfl, fun e => vm _ (d1 e), fun e => vm _ (d2 e)⟩
            · rw [List.mem_singleton] at hk
              exact ⟨m, hk, fun e => absurd e n0x, fun _ => vy⟩
        · rw [if_neg hv0]
          refine ⟨h1, Ext.refl _, rfl, fun e => absurd e (by show ¬ ((m : Nat) : Int) = -1; omega), fun _ => ⟨m, rfl, hm1, fun z hz' => ?_⟩⟩
          by_cases e : z = (cl T1 m).getD 0 0
          · show valOf T1 z = -1
            rw [e]; omega
          · exact hz z hz' e
    · rw [if_neg hv]
      refine lookGo_good hxn rest (kept ++ [(m : Int)]) _ (by rw [eapp]; exact h1) hj1 hx1 fun k hk => ?_
      rcases List.mem_append.1 hk with hk | hk
      · exact hd1 k hk
      · rw [List.mem_singleton] at hk
        exact ⟨m, hk, fun e => absurd e n0x, fun _ => by omega⟩
end Go.Proofs.Ytngegkgmenfelaa

/-
  PLAIN: single, Follow.
-/
namespace Go.Proofs.Ytngegkgmenfelaa
open Go.RowKit Go.Lib
variable {n : Nat} {T : Tr}

def singleGo : List Int → Tr → Int × Tr
  | [], T => (-1, T)
  | k :: rest, T =>
    if (cl T k.toNat).length = 0 ∨ valOf T ((cl T k.toNat).getD 0 0) < 0 then (k, T)
    else if valOf T ((cl T k.toNat).getD 0 0) = 0 then singleGo rest (makeT T ((cl T k.toNat).getD 0 0) k) else singleGo rest T
def singleT (T : Tr) : Int × Tr := singleGo T.short T
def nextT (T : Tr) : Tr := { T with nx := T.nx + 1 }
def followGo : Nat → Tr → (Int × Bool) × Tr
  | 0, T => ((-1, true), T)
  | f + 1, T =>
    if T.nx < T.lits.length then
      if (lookT T (-(T.lits.getD T.nx 0))).1 = -1 then followGo f (nextT (lookT T (-(T.lits.getD T.nx 0))).2)
      else (((lookT T (-(T.lits.getD T.nx 0))).1, false), (lookT T (-(T.lits.getD T.nx 0))).2)
    else ((-1, true), T)
def followT (T : Tr) : (Int × Bool) × Tr := if (singleT T).1 = -1 then followGo (T.F.length + 1) (singleT T).2 else (((singleT T).1, false), (singleT T).2)

/-- A clause's literals are all false. -/
def AllFalse (T : Tr) (k : Int) : Prop := ∃ m : Nat, k = (m : Nat) ∧ m < T.L.length ∧ ∀ z ∈ cl T m, valOf T z = -1
/-- A clause that is not empty, its first literal true. -/
def FirstTrue (T : Tr) (k : Int) : Prop := ∃ m : Nat, k = (m : Nat) ∧ 0 < (cl T m).length ∧ ∃ z ∈ cl T m, valOf T z = 1

theorem Ext.up {T' : Tr} (e : Ext T T') (h : Good n T) (h' : Good n T') {x : Int} (hx : valOf T x = 1) : valOf T' x = 1 := by
  obtain ⟨more, em⟩ := e.lits
  rw [← h'.lit, em]
  exact List.mem_append_left _ ((h.lit x).2 hx)
theorem Ext.down {T' : Tr} (e : Ext T T') (h : Good n T) (h' : Good n T') {x : Int} (hx : valOf T x = -1) : valOf T' x = -1 := by
  have := e.up h h' (x := -x) (by rw [valOf_neg, hx]; rfl)
  rw [valOf_neg] at this; omega
theorem FirstTrue.up {T' : Tr} {k : Int} (f : FirstTrue T k) (e : Ext T T') (h : Good n T) (h' : Good n T') : FirstTrue T' k := by
  obtain ⟨m, rfl, h1, z, hz, hv⟩ := f
  have hz' := (e.same.2 m z).2 hz
  exact ⟨m, rfl, List.length_pos_of_mem hz', z, hz', e.up h h' hv⟩

structure SingleRes (n : Nat) (rest : List Int) (T : Tr) (R : Int × Tr) : Prop where
  good : Good n R.2
  ext : Ext T R.2
  nx : R.2.nx = T.nx
  yes : R.1 = -1 → ∀ k ∈ rest, FirstTrue R.2 k
  no : R.1 ≠ -1 → AllFalse R.2 R.1

theorem singleGo_good : ∀ (rest : List Int) (T : Tr), Good n T → (∀ k ∈ rest, ∃ m : Nat, k = (m : Nat) ∧ m < T.L.length ∧ Alike (cl T m)) → SingleRes n rest T (singleGo rest T)
  | [], T, h, _ => ⟨h, Ext.refl T, rfl, fun _ k hk => absurd hk (by simp), fun hh => absurd rfl hh⟩
  | k :: rest, T, h, hr => by
    obtain ⟨m, rfl, hm, hA⟩ := hr k (List.mem_cons_self ..)
    have hcm : ∀ z ∈ cl T m, 1 ≤ z.natAbs ∧ z.natAbs ≤ n := (h.ok.clause m).2
    unfold singleGo
    rw [Int.toNat_natCast]
    by_cases h0 : (cl T m).length = 0 ∨ valOf T ((cl T m).getD 0 0) < 0
    · rw [if_pos h0]
      refine ⟨h, Ext.refl T, rfl, fun e => absurd e (by show ¬ ((m : Nat) : Int) = -1; omega), fun _ => ⟨m, rfl, hm, fun z hz => ?_⟩⟩
      have hz : z ∈ cl T m := hz
      rcases h0 with h0 | h0
      · exact absurd (List.length_pos_of_mem hz) (by omega)
      · have h3 := valOf_three h.ok.small z
        show valOf T z = -1
        rw [hA z hz] at h3 ⊢; omega
    · rw [if_neg h0]
      have hl : 0 < (cl T m).length := by omega
      have hv : ¬ valOf T ((cl T m).getD 0 0) < 0 := fun e => h0 (.inr e)
      have ym : (cl T m).getD 0 0 ∈ cl T m := mem_getD hl
      by_cases hv0 : valOf T ((cl T m).getD 0 0) = 0
      · rw [if_pos hv0]
        have g2 := h.make_core ((cl T m).getD 0 0) (m : Nat) (hcm _ ym) hv0 m hm rfl ym (fun z hz hzy => absurd (hA z hz) hzy)
        have yF : 1 ≤ ((cl T m).getD 0 0).natAbs ∧ ((cl T m).getD 0 0).natAbs ≤ T.F.length := by rw [h.ok.fl]; exact hcm _ ym
        have r := singleGo_good rest (makeT T ((cl T m).getD 0 0) m) g2 (fun k hk => hr k (List.mem_cons_of_mem _ hk))
        have E : Ext T (makeT T ((cl T m).getD 0 0) m) := ⟨SameCl.refl _, rfl, rfl, rfl, _, rfl⟩
        refine ⟨r.good, E.trans r.ext, r.nx, fun e k hk => ?_, r.no⟩
        rcases List.mem_cons.1 hk with rfl | hk
        · refine FirstTrue.up (T := makeT T ((cl T m).getD 0 0) m) ⟨m, rfl, hl, _, ym, ?_⟩ r.ext g2 r.good
          rw [valOf_make _ _ _ _ yF, if_pos rfl]
        · exact r.yes e k hk
      · rw [if_neg hv0]
        have r := singleGo_good rest T h (fun k hk => hr k (List.mem_cons_of_mem _ hk))
        refine ⟨r.good, r.ext, r.nx, fun e k hk => ?_, r.no⟩
        rcases List.mem_cons.1 hk with rfl | hk
        · have h3 := valOf_three h.ok.small ((cl T m).getD 0 0)
          exact FirstTrue.up ⟨m, rfl, hl, _, ym, by omega⟩ r.ext h r.good
        · exact r.yes e k hk

theorem Good.singleT (h : Good n T) : SingleRes n T.short T (singleT T) := singleGo_good T.short T h h.shIn

/-- One literal is looked at. -/
structure StepRes (n : Nat) (T : Tr) (R : Int × Tr) : Prop where
  good : R.1 ≠ -1 → Good n R.2
  goodN : R.1 = -1 → Good n (nextT R.2)
  ext : Ext T R.2
  nx : R.2.nx = T.nx
  no : R.1 ≠ -1 → AllFalse R.2 R.1

theorem Good.lookT (h : Good n T) (hn : T.nx < T.lits.length) : StepRes n T (lookT T (-(T.lits.getD T.nx 0))) := by
  obtain ⟨x, hx⟩ : ∃ x, -(T.lits.getD T.nx 0) = x := ⟨_, rfl⟩
  have hlm : T.lits.getD T.nx 0 ∈ T.lits := mem_getD hn
  have hxv : valOf T x = -1 := by rw [← hx, valOf_neg, (h.lit _).1 hlm]
  have hxn : 1 ≤ x.natAbs ∧ x.natAbs ≤ n := by have := h.litVar hlm; rw [← hx, Int.natAbs_neg]; exact this
  have hj : sideN x < T.W.length := by rw [h.ok.wl]; exact side_lt hxn
  have e0 : setW T (sideN x) ([] ++ T.W.getD (sideN x) []) = T := by
    unfold setW
    have : T.W.set (sideN x) ([] ++ T.W.getD (sideN x) []) = T.W := by
      rw [List.nil_append, List.getD_eq_getElem?_getD, List.getElem?_eq_getElem hj, Option.getD_some, List.set_getElem_self]
    rw [this]
  have r := lookGo_good hxn (T.W.getD (sideN x) []) [] T (by rw [e0]; exact h) hj hxv (fun k hk => absurd hk (by simp))
  rw [hx]
  unfold Ytngegkgmenfelaa.lookT
  generalize lookGo x (T.W.getD (sideN x) []) [] T = R at r
  have hj2 : sideN x < R.2.2.W.length := by rw [r.ext.wl]; exact hj
  refine ⟨fun _ => r.good, fun e => ?_, ⟨r.ext.same, r.ext.starts, r.ext.short, by show (R.2.2.W.set _ _).length = _; rw [List.length_set]; exact r.ext.wl, r.ext.lits⟩, r.nx, fun e => r.no e⟩
  obtain ⟨more, em⟩ := r.ext.lits
  have hn2 : R.2.2.nx < R.2.2.lits.length := by rw [r.nx, em, List.length_append]; omega
  have ex : -(R.2.2.lits.getD R.2.2.nx 0) = x := by
    rw [r.nx, em, List.getD_eq_getElem?_getD, List.getElem?_append_left hn, ← List.getD_eq_getElem?_getD]; exact hx
  have g := r.good
  refine { g with ok := ⟨g.ok.fl, g.ok.n2, g.ok.wl, g.ok.small, g.ok.cl, g.ok.ll⟩, nxl := hn2, vis := fun p hp m hm hL => ?_ }
  by_cases ep : p < R.2.2.nx
  · exact g.vis p ep m hm hL
  · obtain rfl : p = R.2.2.nx := by have hp : p < R.2.2.nx + 1 := hp; omega
    obtain ⟨w0, w1⟩ := g.wOf m hm hL
    have dn : ((m : Nat) : Int) ∈ R.2.1 → Done R.2.2 x m := fun hk => by
      obtain ⟨q, eq, d⟩ := r.yes e _ hk
      obtain rfl : m = q := by omega
      exact d
    show ((cl R.2.2 m).getD 0 0 = -(R.2.2.lits.getD R.2.2.nx 0) → valOf R.2.2 ((cl R.2.2 m).getD 1 0) = 1) ∧ ((cl R.2.2 m).getD 1 0 = -(R.2.2.lits.getD R.2.2.nx 0) → valOf R.2.2 ((cl R.2.2 m).getD 0 0) = 1)
    rw [ex]
    refine ⟨fun e0 => ?_, fun e1 => ?_⟩
    · rw [show (cl (setW R.2.2 (sideN x) R.2.1) m).getD 0 0 = x from e0, setW_get _ _ _ hj2] at w0
      exact (dn w0).1 e0
    · rw [show (cl (setW R.2.2 (sideN x) R.2.1) m).getD 1 0 = x from e1, setW_get _ _ _ hj2] at w1
      exact (dn w1).2 e1

/-- No clause is false, none is one literal short. -/
def Closed (T : Tr) : Prop := ∀ m, m < T.L.length → (∃ z ∈ cl T m, valOf T z = 1) ∨ ∃ a ∈ cl T m, ∃ b ∈ cl T m, a ≠ b ∧ valOf T a ≠ -1 ∧ valOf T b ≠ -1

theorem Good.closed (h : Good n T) (hn : T.lits.length ≤ T.nx) (hs : ∀ k ∈ T.short, FirstTrue T k) : Closed T := by
  intro m hm
  by_cases hL : Long (cl T m)
  · have c0 : (cl T m).getD 0 0 ∈ cl T m := mem_getD (by have := hL.1; omega)
    have c1 : (cl T m).getD 1 0 ∈ cl T m := mem_getD (by have := hL.1; omega)
    have find : ∀ z, valOf T z = -1 → ∃ p, p < T.nx ∧ z = -(T.lits.getD p 0) := fun z hz => by
      have h1 : -z ∈ T.lits := by rw [h.lit, valOf_neg, hz]; rfl
      obtain ⟨p, hp, e⟩ := List.getElem_of_mem h1
      refine ⟨p, by omega, ?_⟩
      rw [List.getD_eq_getElem?_getD, List.getElem?_eq_getElem hp, Option.getD_some, e, Int.neg_neg]
    by_cases h0 : valOf T ((cl T m).getD 0 0) = -1
    · obtain ⟨p, hp, e⟩ := find _ h0
      exact .inl ⟨_, c1, (h.vis p hp m hm hL).1 e⟩
    · by_cases h1 : valOf T ((cl T m).getD 1 0) = -1
      · obtain ⟨p, hp, e⟩ := find _ h1
        exact .inl ⟨_, c0, (h.vis p hp m hm hL).2 e⟩
      · exact .inr ⟨_, c0, _, c1, hL.2, h0, h1⟩
  · obtain ⟨q, e, _, z, hz, hv⟩ := hs _ (h.shOf m hm hL)
    obtain rfl : m = q := by omega
    exact .inl ⟨z, hz, hv⟩

structure FollowRes (n : Nat) (T : Tr) (R : (Int × Bool) × Tr) : Prop where
  good : Good n R.2
  ext : Ext T R.2
  yes : R.1.2 = true → R.1.1 = -1 ∧ Closed R.2
  no : R.1.2 = false → AllFalse R.2 R.1.1

theorem Ext.next {a b : Tr} (h : Ext a b) : Ext a (nextT b) := ⟨h.same, h.starts, h.short, h.wl, h.lits⟩

theorem followGo_good : ∀ (f : Nat) (T : Tr), Good n T → (∀ k ∈ T.short, FirstTrue T k) → n + 1 ≤ T.nx + f → FollowRes n T (followGo f T)
  | 0, T, h, _, hf => by have := h.nxl; have := h.litsLen; omega
  | f + 1, T, h, hs, hf => by
    unfold followGo
    by_cases hn : T.nx < T.lits.length
    · rw [if_pos hn]
      have r := h.lookT hn
      generalize lookT T (-(T.lits.getD T.nx 0)) = R at r
      by_cases hk : R.1 = -1
      · rw [if_pos hk]
        have g := r.goodN hk
        have E := r.ext.next
        have r2 := followGo_good f (nextT R.2) g (fun k hk => (hs k (by rw [← E.short]; exact hk)).up E h g) (by show n + 1 ≤ (R.2.nx + 1) + f; rw [r.nx]; omega)
        exact ⟨r2.good, E.trans r2.ext, r2.yes, r2.no⟩
      · rw [if_neg hk]
        exact ⟨r.good hk, r.ext, (fun e => by cases e), fun _ => r.no hk⟩
    · rw [if_neg hn]
      exact ⟨h, Ext.refl T, fun _ => ⟨rfl, h.closed (by omega) hs⟩, (fun e => by cases e)⟩

theorem Good.followT (h : Good n T) : FollowRes n T (followT T) := by
  have r := h.singleT
  unfold Ytngegkgmenfelaa.followT
  generalize Ytngegkgmenfelaa.singleT T = R at r
  by_cases hk : R.1 = -1
  · rw [if_pos hk]
    have r2 := followGo_good (T.F.length + 1) R.2 r.good (fun k hk' => r.yes hk k (by rw [← r.ext.short]; exact hk')) (by rw [h.ok.fl]; omega)
    exact ⟨r2.good, r.ext.trans r2.ext, r2.yes, r2.no⟩
  · rw [if_neg hk]
    exact ⟨r.good, r.ext, (fun e => by cases e), fun _ => r.no hk⟩
end Go.Proofs.Ytngegkgmenfelaa
