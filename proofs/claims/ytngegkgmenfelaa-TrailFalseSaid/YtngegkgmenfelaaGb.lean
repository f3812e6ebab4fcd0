/-
  PLAIN: Good behind a change of places, behind another literal to watch, behind a literal that is made true.
-/
import Derived.Test.YtngegkgmenfelaaGa
namespace Go.Proofs.Ytngegkgmenfelaa
open Go.RowKit Go.Lib
variable {n : Nat} {T : Tr}

/-- The same clauses, each in some order. -/
def SameCl (T T' : Tr) : Prop := T'.L.length = T.L.length ∧ ∀ m x, x ∈ cl T' m ↔ x ∈ cl T m
theorem SameCl.refl (T : Tr) : SameCl T T := ⟨rfl, fun _ _ => Iff.rfl⟩
theorem SameCl.trans {a b c : Tr} (h : SameCl a b) (k : SameCl b c) : SameCl a c := ⟨k.1.trans h.1, fun m x => (k.2 m x).trans (h.2 m x)⟩

theorem cl_sw (T : Tr) (k i j m : Nat) (hk : k < T.L.length) : cl (swT T k i j) m = if m = k then ((cl T k).set i ((cl T k).getD j 0)).set j ((cl T k).getD i 0) else cl T m := by
  show (T.L.set k _).getD m [] = _
  by_cases e : m = k
  · subst e; rw [if_pos rfl, getD_set_eq _ _ _ hk]; rfl
  · rw [if_neg e, getD_set_ne _ _ _ (Ne.symm e)]; rfl
theorem set2_iff {c : List Int} {i j : Nat} (hi : i < c.length) (hj : j < c.length) (hij : i ≠ j) (x : Int) : x ∈ (c.set i (c.getD j 0)).set j (c.getD i 0) ↔ x ∈ c := by
  refine ⟨set2_mem hi hj, fun hx => ?_⟩
  obtain ⟨p, hp, rfl⟩ := List.getElem_of_mem hx
  have key : ∀ q, q < c.length → ((c.set i (c.getD j 0)).set j (c.getD i 0)).getD q 0 ∈ (c.set i (c.getD j 0)).set j (c.getD i 0) := fun q hq => mem_getD (by rw [List.length_set, List.length_set]; exact hq)
  have e0 : c[p] = c.getD p 0 := by rw [List.getD_eq_getElem?_getD, List.getElem?_eq_getElem hp, Option.getD_some]
  rw [e0]
  by_cases e : p = i
  · have := key j hj
    rw [getD_set_eq _ _ _ (by rw [List.length_set]; exact hj)] at this
    rw [e]; exact this
  · by_cases e' : p = j
    · have := key i hi
      rw [getD_set_ne _ _ _ (Ne.symm hij), getD_set_eq _ _ _ hi] at this
      rw [e']; exact this
    · have := key p hp
      rw [getD_set_ne _ _ _ (Ne.symm e'), getD_set_ne _ _ _ (Ne.symm e)] at this
      exact this
theorem SameCl.sw (T : Tr) (k i j : Nat) (hk : k < T.L.length) (hi : i < (cl T k).length) (hj : j < (cl T k).length) (hij : i ≠ j) : SameCl T (swT T k i j) := by
  refine ⟨sw_ll _ _ _ _, fun m x => ?_⟩
  rw [cl_sw _ _ _ _ _ hk]
  by_cases e : m = k
  · subst e; rw [if_pos rfl]; exact set2_iff hi hj hij x
  · rw [if_neg e]
theorem alike_iff {c c' : List Int} (h : ∀ x, x ∈ c' ↔ x ∈ c) (ha : Alike c) : Alike c' := by
  intro x hx
  have h1 := ha x ((h x).1 hx)
  have h2 : c'.getD 0 0 ∈ c' := mem_getD (List.length_pos_of_mem hx)
  have h3 := ha _ ((h _).1 h2)
  rw [h1, h3]
theorem long_not_alike {c : List Int} (h : Long c) : ¬ Alike c := fun ha => h.2 (ha _ (mem_getD (by have := h.1; omega))).symm

/-- The first two literals of a clause change places. -/
theorem Good.sw01 (h : Good n T) (k : Nat) (hk : k < T.L.length) (hl : Long (cl T k)) : Good n (swT T k 0 1) ∧ SameCl T (swT T k 0 1) := by
  have hs := SameCl.sw T k 0 1 hk (by have := hl.1; omega) (by have := hl.1; omega) (by omega)
  have e0 : ∀ m, (cl (swT T k 0 1) m).getD 0 0 = if m = k then (cl T m).getD 1 0 else (cl T m).getD 0 0 := fun m => by
    rw [cl_sw _ _ _ _ _ hk]
    by_cases e : m = k
    · subst e
      rw [if_pos rfl, if_pos rfl, getD_set_ne _ _ _ (by omega), getD_set_eq _ _ _ (by have := hl.1; omega)]
    · rw [if_neg e, if_neg e]
  have e1 : ∀ m, (cl (swT T k 0 1) m).getD 1 0 = if m = k then (cl T m).getD 0 0 else (cl T m).getD 1 0 := fun m => by
    rw [cl_sw _ _ _ _ _ hk]
    by_cases e : m = k
    · subst e
      rw [if_pos rfl, if_pos rfl, getD_set_eq _ _ _ (by rw [List.length_set]; have := hl.1; omega)]
    · rw [if_neg e, if_neg e]
  have el : ∀ m, (cl (swT T k 0 1) m).length = (cl T m).length := fun m => sw_len T k 0 1 m
  have lg : ∀ m, Long (cl (swT T k 0 1) m) ↔ Long (cl T m) := fun m => by
    unfold Long
    rw [el, e0, e1]
    by_cases e : m = k
    · rw [if_pos e, if_pos e]; exact ⟨fun h => ⟨h.1, Ne.symm h.2⟩, fun h => ⟨h.1, Ne.symm h.2⟩⟩
    · rw [if_neg e, if_neg e]
  have ak : ∀ m, Alike (cl (swT T k 0 1) m) ↔ Alike (cl T m) := fun m => ⟨alike_iff fun x => (hs.2 m x).symm, alike_iff fun x => hs.2 m x⟩
  refine ⟨{ h with
    ok := h.ok.sw k 0 1 (by have := hl.1; exact (by omega : 0 < (cl T k).length)) (by have := hl.1; exact (by omega : 1 < (cl T k).length))
    part := fun m hm => ?_, wIn := fun j q hq => ?_, wOf := fun m hm hL => ?_, shIn := fun q hq => ?_, shOf := fun m hm hL => ?_, shl := by rw [hs.1]; exact h.shl
    vis := fun p hp m hm hL => ?_, rs := fun i hi => ?_, lit := h.lit, unk := h.unk, lev := h.lev }, hs⟩
  · rw [hs.1] at hm
    rw [ak, lg]; exact h.part m hm
  · obtain ⟨m, rfl, hm, hL, ho⟩ := h.wIn j q hq
    refine ⟨m, rfl, by rw [hs.1]; exact hm, (lg m).2 hL, ?_⟩
    rw [e0, e1]
    by_cases e : m = k
    · rw [if_pos e, if_pos e]; exact ho.symm
    · rw [if_neg e, if_neg e]; exact ho
  · rw [hs.1] at hm
    obtain ⟨a, b⟩ := h.wOf m hm ((lg m).1 hL)
    rw [e0, e1]
    by_cases e : m = k
    · rw [if_pos e, if_pos e]; exact ⟨b, a⟩
    · rw [if_neg e, if_neg e]; exact ⟨a, b⟩
  · obtain ⟨m, rfl, hm, hA⟩ := h.shIn q hq
    exact ⟨m, rfl, by rw [hs.1]; exact hm, (ak m).2 hA⟩
  · rw [hs.1] at hm
    exact h.shOf m hm (fun hh => hL ((lg m).2 hh))
  · rw [hs.1] at hm
    obtain ⟨a, b⟩ := h.vis p hp m hm ((lg m).1 hL)
    rw [e0, e1]
    by_cases e : m = k
    · rw [if_pos e, if_pos e]; exact ⟨b, a⟩
    · rw [if_neg e, if_neg e]; exact ⟨a, b⟩
  · rcases h.rs i hi with h1 | ⟨h1, m, h2, h3, h4, h5⟩
    · exact .inl h1
    · exact .inr ⟨h1, m, by rw [hs.1]; exact h2, h3, (hs.2 m _).2 h4, fun y hy => h5 y ((hs.2 m y).1 hy)⟩

/-- A literal is made true: by a clause, or decided (its level then begins behind all others). -/
theorem Good.make_core (h : Good n T) (y r : Int) (hy : 1 ≤ y.natAbs ∧ y.natAbs ≤ n) (hv : valOf T y = 0) (m : Nat) (hm : m < T.L.length) (hr : r = (m : Nat)) (hym : y ∈ cl T m) (hz : ∀ z ∈ cl T m, z ≠ y → valOf T z = -1) : Good n (makeT T y r) := by
  have hyF : 1 ≤ y.natAbs ∧ y.natAbs ≤ T.F.length := by rw [h.ok.fl]; exact hy
  have hv' : valOf T (-y) = 0 := by rw [valOf_neg, hv]; rfl
  have v1 : ∀ x, valOf T x = 1 → valOf (makeT T y r) x = 1 := fun x hx => by
    rw [valOf_make T y r x hyF]
    have e1 : ¬ x = y := fun e => by rw [e, hv] at hx; omega
    have e2 : ¬ x = -y := fun e => by rw [e, hv'] at hx; omega
    rw [if_neg e1, if_neg e2]; exact hx
  have fo : ∀ x, valOf T x ≠ 0 → factOf (makeT T y r) x = factOf T x := fun x hx => by
    rw [factOf_make T y r x hyF, if_neg]
    intro e
    have : x = y ∨ x = -y := by omega
    rcases this with e | e
    · rw [e, hv] at hx; exact hx rfl
    · rw [e, hv'] at hx; exact hx rfl
  have hyl : y ∉ T.lits := fun hh => by have := (h.lit y).1 hh; omega
  have gl : ∀ i, i < T.lits.length → (T.lits ++ [y]).getD i 0 = T.lits.getD i 0 := fun i hi => by
    rw [List.getD_eq_getElem?_getD, List.getElem?_append_left hi, ← List.getD_eq_getElem?_getD]
  have ge : (T.lits ++ [y]).getD T.lits.length 0 = y := by
    rw [List.getD_eq_getElem?_getD, List.getElem?_append_right (Nat.le_refl _)]; simp
  have vl : ∀ i, i < T.lits.length → valOf T (T.lits.getD i 0) ≠ 0 := fun i hi => by rw [(h.lit _).1 (mem_getD hi)]; omega
  have ll : (makeT T y r).lits.length = T.lits.length + 1 := by show (T.lits ++ [y]).length = _; simp
  have fy : factOf (makeT T y r) y = (sgn y, ((T.starts.length : Nat) : Int), r) := by rw [factOf_make T y r y hyF, if_pos rfl]
  refine { h with
    ok := h.ok.make y r hy, lit := fun x => ?_, nd := ?_, nxl := ?_, vis := fun p hp m hm hL => ?_, stIn := fun a ha => ?_, lev := fun i hi => ?_, rs := fun i hi => ?_, unk := fun x hx => ?_ }
  · show x ∈ T.lits ++ [y] ↔ _
    rw [List.mem_append, List.mem_singleton, h.lit x, valOf_make T y r x hyF]
    by_cases e1 : x = y
    · rw [if_pos e1]; simp [e1]
    · rw [if_neg e1]
      by_cases e2 : x = -y
      · rw [if_pos e2, e2, hv']; have : ¬ -y = y := by omega
        simp [this]
      · rw [if_neg e2]; simp [e1]
  · show (T.lits ++ [y]).Nodup
    rw [List.nodup_append]
    refine ⟨h.nd, by simp, fun a ha b hb => ?_⟩
    rw [List.mem_singleton] at hb
    subst hb
    exact fun e => hyl (e ▸ ha)
  · rw [ll]; have := h.nxl; show T.nx ≤ _; omega
  · have hp' : p < T.lits.length := Nat.lt_of_lt_of_le hp h.nxl
    show ((cl T m).getD 0 0 = -((T.lits ++ [y]).getD p 0) → _) ∧ ((cl T m).getD 1 0 = -((T.lits ++ [y]).getD p 0) → _)
    rw [gl p hp']
    obtain ⟨a, b⟩ := h.vis p hp m hm hL
    exact ⟨fun e => v1 _ (a e), fun e => v1 _ (b e)⟩
  · rw [ll]; have := h.stIn a ha; show 0 ≤ T.starts.getD a 0 ∧ T.starts.getD a 0 < ((T.lits.length + 1 : Nat) : Int); omega
  · rw [ll] at hi
    show (factOf (makeT T y r) ((T.lits ++ [y]).getD i 0)).2.1 = _
    by_cases e : i < T.lits.length
    · rw [gl i e, fo _ (vl i e)]; exact h.lev i e
    · obtain rfl : i = T.lits.length := by omega
      rw [ge, fy]
      show ((T.starts.length : Nat) : Int) = ((T.starts.countP _ : Nat) : Int)
      rw [List.countP_eq_length.2]
      intro s hs
      obtain ⟨a, ha, rfl⟩ := List.getElem_of_mem hs
      have := h.stIn a ha
      rw [List.getD_eq_getElem?_getD, List.getElem?_eq_getElem ha, Option.getD_some] at this
      simpa using (by omega)
  · rw [ll] at hi
    show (((i : Nat) : Int) ∈ T.starts ∧ (factOf (makeT T y r) ((T.lits ++ [y]).getD i 0)).2.2 = -1) ∨ _
    by_cases e : i < T.lits.length
    · have et : (T.lits ++ [y]).take i = T.lits.take i := List.take_append_of_le_length (by omega)
      rcases h.rs i e with h1 | ⟨h1, m', h2, h3, h4, h5⟩
      · rw [gl i e, fo _ (vl i e)]; exact .inl h1
      · refine .inr ⟨h1, m', h2, ?_, ?_, ?_⟩
        · show (factOf (makeT T y r) ((T.lits ++ [y]).getD i 0)).2.2 = _
          rw [gl i e, fo _ (vl i e)]; exact h3
        · show (T.lits ++ [y]).getD i 0 ∈ cl T m'
          rw [gl i e]; exact h4
        · show ∀ z ∈ cl T m', z ≠ (T.lits ++ [y]).getD i 0 → -z ∈ (T.lits ++ [y]).take i
          rw [gl i e, et]; exact h5
    · obtain rfl : i = T.lits.length := by omega
      refine .inr ⟨fun (hh : ((T.lits.length : Nat) : Int) ∈ T.starts) => ?_, m, hm, ?_, ?_, ?_⟩
      · obtain ⟨a, ha, e2⟩ := List.getElem_of_mem hh
        have := h.stIn a ha
        rw [List.getD_eq_getElem?_getD, List.getElem?_eq_getElem ha, Option.getD_some, e2] at this
        omega
      · show (factOf (makeT T y r) ((T.lits ++ [y]).getD T.lits.length 0)).2.2 = _
        rw [ge, fy]; exact hr
      · show (T.lits ++ [y]).getD T.lits.length 0 ∈ cl T m
        rw [ge]; exact hym
      · show ∀ z ∈ cl T m, z ≠ (T.lits ++ [y]).getD T.lits.length 0 → -z ∈ (T.lits ++ [y]).take T.lits.length
        rw [ge, List.take_append_of_le_length (Nat.le_refl _), List.take_length]
        intro z hz1 hz2
        rw [h.lit, valOf_neg, hz z hz1 hz2]; rfl
  · rw [valOf_make T y r x hyF] at hx
    by_cases e1 : x = y
    · rw [if_pos e1] at hx; omega
    · rw [if_neg e1] at hx
      by_cases e2 : x = -y
      · rw [if_pos e2] at hx; omega
      · rw [if_neg e2] at hx
        rw [factOf_make T y r x hyF, if_neg (by omega)]
        exact h.unk x hx
end Go.Proofs.Ytngegkgmenfelaa
