/-
  PLAIN: Decide keeps Good.
-/
import Derived.Test.YtngegkgmenfelaaGf
namespace Go.Proofs.Ytngegkgmenfelaa
open Go.RowKit Go.Lib
variable {n : Nat} {T : Tr}

theorem Good.decided (h : Good n T) (y : Int) (hy : 1 ≤ y.natAbs ∧ y.natAbs ≤ n) (hv : valOf T y = 0) : Good n (decideT T y) := by
  have hyF : 1 ≤ y.natAbs ∧ y.natAbs ≤ (startT T).F.length := by rw [show (startT T).F.length = n from h.ok.fl]; exact hy
  have hv' : valOf T (-y) = 0 := by rw [valOf_neg, hv]; rfl
  have vm : ∀ x, valOf (decideT T y) x = if x = y then 1 else if x = -y then -1 else valOf T x := fun x => valOf_make (startT T) y (-1) x hyF
  have fm : ∀ x, factOf (decideT T y) x = if x.natAbs = y.natAbs then (sgn y, (((startT T).starts.length : Nat) : Int), -1) else factOf T x := fun x => factOf_make (startT T) y (-1) x hyF
  have v1 : ∀ x, valOf T x = 1 → valOf (decideT T y) x = 1 := fun x hx => by
    rw [vm]
    have e1 : ¬ x = y := fun e => by rw [e, hv] at hx; omega
    have e2 : ¬ x = -y := fun e => by rw [e, hv'] at hx; omega
    rw [if_neg e1, if_neg e2]; exact hx
  have fo : ∀ x, valOf T x ≠ 0 → factOf (decideT T y) x = factOf T x := fun x hx => by
    rw [fm, if_neg]
    intro e
    have : x = y ∨ x = -y := by omega
    rcases this with e | e
    · rw [e, hv] at hx; exact hx rfl
    · rw [e, hv'] at hx; exact hx rfl
  have hyl : y ∉ T.lits := fun hh => by have := (h.lit y).1 hh; omega
  have gl : ∀ i, i < T.lits.length → (T.lits ++ [y]).getD i 0 = T.lits.getD i 0 := fun i hi => by
    rw [List.getD_eq_getElem?_getD, List.getElem?_append_left hi, ← List.getD_eq_getElem?_getD]
  have ge : (T.lits ++ [y]).getD T.lits.length 0 = y := by
    rw [List.getD_eq_getElem?_getD, List.getElem?_append_right (Nat.le_refl _)]; simp
  have vl : ∀ i, i < T.lits.length → valOf T (T.lits.getD i 0) ≠ 0 := fun i hi => by rw [(h.lit _).1 (mem_getD hi)]; omega
  have ll : (decideT T y).lits.length = T.lits.length + 1 := by show (T.lits ++ [y]).length = _; simp
  have fy : factOf (decideT T y) y = (sgn y, (((startT T).starts.length : Nat) : Int), -1) := by rw [fm, if_pos rfl]
  have sts : (decideT T y).starts = T.starts ++ [((T.lits.length : Nat) : Int)] := rfl
  have sl : (T.starts ++ [((T.lits.length : Nat) : Int)]).length = T.starts.length + 1 := by simp
  have sg : ∀ a, a < T.starts.length → (T.starts ++ [((T.lits.length : Nat) : Int)]).getD a 0 = T.starts.getD a 0 := fun a ha => by
    rw [List.getD_eq_getElem?_getD, List.getElem?_append_left ha, ← List.getD_eq_getElem?_getD]
  have se : (T.starts ++ [((T.lits.length : Nat) : Int)]).getD T.starts.length 0 = ((T.lits.length : Nat) : Int) := by
    rw [List.getD_eq_getElem?_getD, List.getElem?_append_right (Nat.le_refl _)]; simp
  have sm : ∀ s ∈ T.starts, 0 ≤ s ∧ s < ((T.lits.length : Nat) : Int) := fun s hs => by
    obtain ⟨a, ha, rfl⟩ := List.getElem_of_mem hs
    have := h.stIn a ha
    rw [List.getD_eq_getElem?_getD, List.getElem?_eq_getElem ha, Option.getD_some] at this
    exact this
  refine { h with
    ok := ⟨by show (T.F.set _ _).length = _; rw [List.length_set]; exact h.ok.fl, h.ok.n2, h.ok.wl, fun x => ?_, h.ok.cl, h.ok.ll⟩
    lit := fun x => ?_, nd := ?_, nxl := ?_, vis := fun p hp m hm hL => ?_, stUp := fun a b hab hb => ?_, stIn := fun a ha => ?_, lev := fun i hi => ?_, rs := fun i hi => ?_, unk := fun x hx => ?_ }
  · rw [fm]
    split
    · unfold sgn; split <;> simp
    · exact h.ok.small x
  · show x ∈ T.lits ++ [y] ↔ _
    rw [List.mem_append, List.mem_singleton, h.lit x, vm]
    by_cases e1 : x = y
    · rw [if_pos e1]; simp [e1]
    · rw [if_neg e1]
      by_cases e2 : x = -y
      · rw [if_pos e2, e2, hv']; have : ¬ -y = y := by omega
        simp [this]
      · rw [if_neg e2]; simp [e1]
  · show (T.lits ++ [y]).Nodup
    rw [List.nodup_append]
    refine ⟨h.nd, by simp, fun a ha b hb => ?_⟩
    rw [List.mem_singleton] at hb
    subst hb
    exact fun e => hyl (e ▸ ha)
  · rw [ll]; have := h.nxl; show T.nx ≤ _; omega
  · have hp' : p < T.lits.length := Nat.lt_of_lt_of_le hp h.nxl
    show ((cl T m).getD 0 0 = -((T.lits ++ [y]).getD p 0) → _) ∧ ((cl T m).getD 1 0 = -((T.lits ++ [y]).getD p 0) → _)
    rw [gl p hp']
    obtain ⟨a, b⟩ := h.vis p hp m hm hL
    exact ⟨fun e => v1 _ (a e), fun e => v1 _ (b e)⟩
  · rw [sts, sl] at hb
    rw [sts, sg a (by omega)]
    by_cases e : b < T.starts.length
    · rw [sg b e]; exact h.stUp a b hab e
    · obtain rfl : b = T.starts.length := by omega
      rw [se]; exact (h.stIn a (by omega)).2
  · rw [sts, sl] at ha
    rw [sts, ll]
    by_cases e : a < T.starts.length
    · rw [sg a e]; have := h.stIn a e; omega
    · obtain rfl : a = T.starts.length := by omega
      rw [se]; omega
  · rw [ll] at hi
    rw [sts, List.countP_append]
    show (factOf (decideT T y) ((T.lits ++ [y]).getD i 0)).2.1 = _
    by_cases e : i < T.lits.length
    · rw [gl i e, fo _ (vl i e), h.lev i e]
      have : List.countP (fun s => decide (s ≤ ((i : Nat) : Int))) [((T.lits.length : Nat) : Int)] = 0 := by
        rw [List.countP_eq_zero]; intro s hs; rw [List.mem_singleton] at hs; subst hs; simp; omega
      rw [this, Nat.add_zero]
    · obtain rfl : i = T.lits.length := by omega
      rw [ge, fy]
      show ((((T.starts ++ [((T.lits.length : Nat) : Int)]).length : Nat)) : Int) = _
      rw [sl]
      have c1 : List.countP (fun s => decide (s ≤ ((T.lits.length : Nat) : Int))) T.starts = T.starts.length := by
        rw [List.countP_eq_length]; intro s hs; have := sm s hs; simp; omega
      have c2 : List.countP (fun s => decide (s ≤ ((T.lits.length : Nat) : Int))) [((T.lits.length : Nat) : Int)] = 1 := by
        rw [List.countP_cons, if_pos (by simp), List.countP_nil]
      rw [c1, c2]
  · rw [ll] at hi
    rw [sts]
    show (((i : Nat) : Int) ∈ T.starts ++ [((T.lits.length : Nat) : Int)] ∧ (factOf (decideT T y) ((T.lits ++ [y]).getD i 0)).2.2 = -1) ∨ (((i : Nat) : Int) ∉ T.starts ++ [((T.lits.length : Nat) : Int)] ∧ ∃ m : Nat, m < T.L.length ∧ (factOf (decideT T y) ((T.lits ++ [y]).getD i 0)).2.2 = (m : Nat) ∧ (T.lits ++ [y]).getD i 0 ∈ cl T m ∧ ∀ z ∈ cl T m, z ≠ (T.lits ++ [y]).getD i 0 → -z ∈ (T.lits ++ [y]).take i)
    by_cases e : i < T.lits.length
    · have et : (T.lits ++ [y]).take i = T.lits.take i := List.take_append_of_le_length (by omega)
      rw [gl i e, fo _ (vl i e), et, List.mem_append, List.mem_singleton]
      rcases h.rs i e with ⟨h1, h2⟩ | ⟨h1, h2⟩
      · exact .inl ⟨.inl h1, h2⟩
      · exact .inr ⟨fun hh => hh.elim h1 (fun hh => by omega), h2⟩
    · obtain rfl : i = T.lits.length := by omega
      rw [ge, fy]
      exact .inl ⟨List.mem_append_right _ (List.mem_singleton.2 rfl), rfl⟩
  · rw [vm] at hx
    by_cases e1 : x = y
    · rw [if_pos e1] at hx; omega
    · rw [if_neg e1] at hx
      by_cases e2 : x = -y
      · rw [if_pos e2] at hx; omega
      · rw [if_neg e2] at hx
        rw [fm, if_neg (by omega)]
        exact h.unk x hx
end Go.Proofs.Ytngegkgmenfelaa
