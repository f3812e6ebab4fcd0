/-
  put.
-/
import Derived.Test.YtngegkgmenfelaaWg
import Derived.Deep.DeepCutAuto
namespace Go.Proofs.Ytngegkgmenfelaa
open Go.RowKit Go.Lib
attribute [local go_sem ↓] Go.wp_at_zero Go.wp_at_succ

def sideN (x : Int) : Nat := (sideI x).toNat
def push (W : List (List Int)) (j : Nat) (k : Nat) : List (List Int) := W.set j (W.getD j [] ++ [(k : Int)])
/-- The clause's second literal and its i-th change places. -/
def swC (c : List Int) (i : Nat) : List Int := (c.set 1 (c.getD i 0)).set i (c.getD 1 0)
def putL (T : Tr) (c : List Int) : Tr := { T with L := T.L ++ [c], nx := 0 }
def putT (T : Tr) (c : List Int) : Tr :=
  match unlike c with
  | none => { putL T c with short := T.short ++ [((T.L.length : Nat) : Int)] }
  | some i => { putL T (swC c i) with W := push (push T.W (sideN ((swC c i).getD 0 0)) T.L.length) (sideN ((swC c i).getD 1 0)) T.L.length }

theorem boxOf_cl (val : Sl → Value) (nx : Nat) (v : Value) : ((boxOf val nx).setIfInBounds 0 v).setIfInBounds 5 (.int .i64 0) = boxOf (upS val .cl v) 0 := by simp [boxOf, upS]
theorem boxOf_cl' (val : Sl → Value) (nx : Nat) (v : Value) : ((boxOf val nx).setIfInBounds 5 (.int .i64 0)).setIfInBounds 0 v = boxOf (upS val .cl v) 0 := by simp [boxOf, upS]

theorem boxOf_sh (val : Sl → Value) (nx : Nat) (v : Value) : (boxOf val nx).setIfInBounds 6 v = boxOf (upS val .sh v) nx := by simp [boxOf, upS]
theorem tie_putL {T : Tr} {val : Sl → Value} {ct : Sl → List Value} (h : Tie T val ct) (c : List Int) (v v1 : Value) :
    Tie (putL T c) (upS (upS val (.C T.L.length) v) .cl v1) (upS (upS ct (.C T.L.length) (ints c)) .cl (ct .cl ++ [v])) where
  cl := by
    rw [upS_same, h.cl]
    show _ = (List.range (T.L ++ [c]).length).map _
    rw [List.length_append, List.length_singleton, List.range_succ, List.map_append]
    congr 1
    · refine List.map_congr_left fun k hk => ?_
      have hk' := List.mem_range.1 hk
      rw [upS_other _ _ (by simp), upS_other _ _ (by simp; omega)]
    · rw [List.map_singleton, upS_other _ _ (by simp), upS_same]
  wa := h.wa
  fa := h.fa
  li := h.li
  st := h.st
  sh := h.sh
  C := fun k => by
    rw [upS_other _ _ (by simp)]
    show _ = ints ((T.L ++ [c]).getD k [])
    by_cases e : k = T.L.length
    · subst e
      rw [upS_same, List.getD_eq_getElem?_getD, List.getElem?_append_right (Nat.le_refl _)]; simp
    · rw [upS_other _ _ (by simp; exact e), h.C k]
      by_cases hk : k < T.L.length
      · rw [List.getD_eq_getElem?_getD, List.getD_eq_getElem?_getD, List.getElem?_append_left hk]
      · rw [List.getD_eq_getElem?_getD, List.getD_eq_getElem?_getD, List.getElem?_eq_none (by omega), List.getElem?_eq_none (by simp; omega)]
  W := h.W

/-- A clause's literals have changed places. -/
theorem tie_clause {T : Tr} {val : Sl → Value} {ct : Sl → List Value} {c c2 : List Int} {m : Nat} (hm : T.L.length = m) (h : Tie (putL T c) val ct) : Tie (putL T c2) val (upS ct (.C m) (ints c2)) where
  cl := by
    have := h.cl
    rw [upS_other _ _ (by simp), this]
    show (List.range (T.L ++ [c]).length).map _ = (List.range (T.L ++ [c2]).length).map _
    rw [List.length_append, List.length_append]; rfl
  wa := h.wa
  fa := h.fa
  li := h.li
  st := h.st
  sh := h.sh
  C := fun k => by
    show _ = ints ((T.L ++ [c2]).getD k [])
    by_cases e : k = m
    · subst e
      rw [upS_same, ← hm, List.getD_eq_getElem?_getD, List.getElem?_append_right (Nat.le_refl _)]; simp
    · rw [upS_other _ _ (by simp; exact e), h.C k]
      show ints ((T.L ++ [c]).getD k []) = _
      by_cases hk : k < T.L.length
      · rw [List.getD_eq_getElem?_getD, List.getD_eq_getElem?_getD, List.getElem?_append_left hk, List.getElem?_append_left hk]
      · rw [List.getD_eq_getElem?_getD, List.getD_eq_getElem?_getD, List.getElem?_eq_none (by simp; omega), List.getElem?_eq_none (by simp; omega)]
  W := h.W

/-- A watch list has grown, and the row of the watched is laid anew. -/
theorem tie_push {T : Tr} {val : Sl → Value} {ct : Sl → List Value} (h : Tie T val ct) (j k : Nat) (hj : j < T.W.length) (v : Value) :
    Tie { T with W := push T.W j k } (upS val (.W j) v) (upS (upS ct (.W j) (ct (.W j) ++ [.int .i64 (k : Nat)])) .wa ((ct .wa).set j v)) where
  cl := h.cl
  wa := by
    rw [upS_same, h.wa]
    have e : (push T.W j k).length = T.W.length := by simp [push]
    show _ = (List.range (push T.W j k).length).map _
    rw [e]
    refine List.ext_getElem (by simp) fun q h1 h2 => ?_
    rw [List.getElem_set]
    by_cases eq : j = q
    · subst eq
      rw [if_pos rfl]
      simp [upS]
    · rw [if_neg eq]
      simp [upS, Ne.symm eq]
  fa := h.fa
  li := h.li
  st := h.st
  sh := h.sh
  C := h.C
  W := fun q => by
    rw [upS_other _ _ (by simp)]
    show _ = ints ((push T.W j k).getD q [])
    by_cases e : q = j
    · subst e
      rw [upS_same, h.W q]
      simp [push, ints, hj]
    · rw [upS_other _ _ (by simp; exact e), h.W q]
      simp [push, List.getElem?_set_ne (Ne.symm e)]

/-- The clause k is put with its first ones' watch lists. -/
def pushN (W : List (List Int)) (sw : List Int) (m : Nat) : Nat → List (List Int)
  | 0 => W
  | k + 1 => push (pushN W sw m k) (sideN (sw.getD k 0)) m
theorem pushN_len (W : List (List Int)) (sw : List Int) (m : Nat) : ∀ k, (pushN W sw m k).length = W.length
  | 0 => rfl
  | k + 1 => by show (push (pushN W sw m k) _ m).length = _; simp [push, pushN_len W sw m k]

theorem pushN_row (W : List (List Int)) (sw : List Int) (m j : Nat) : ∀ k, ((pushN W sw m k).getD j []).length ≤ (W.getD j []).length + k
  | 0 => Nat.le_refl _
  | k + 1 => by
    have ih := pushN_row W sw m j k
    have ih2 := pushN_row W sw m (sideN (sw.getD k 0)) k
    show ((push (pushN W sw m k) (sideN (sw.getD k 0)) m).getD j []).length ≤ _
    unfold push
    rw [List.getD_eq_getElem?_getD, List.getElem?_set]
    by_cases e : sideN (sw.getD k 0) = j
    · rw [if_pos e]
      split
      · rw [e] at ih2 ⊢; simp at ih2 ⊢; omega
      · simp
    · rw [if_neg e, ← List.getD_eq_getElem?_getD]; omega

/-- A watch list, as it lies. -/
theorem watch_at {T : Tr} {w : World} {B : Nat → Prop} {b nx : Nat} {val : Sl → Value} {ct : Sl → List Value} (hm : Mem w B b (boxOf val nx) val ct) (ht : Tie T val ct) (j : Nat) (hj : j < T.W.length) :
    ∃ gw cw a n c, val .wa = .slice (some ⟨gw, 0, none⟩) T.W.length cw ∧ w.cell? ⟨b, 1, none⟩ = some (.slice (some ⟨gw, 0, none⟩) T.W.length cw) ∧ val (.W j) = .slice a n c ∧ w.cell? ⟨gw, j, none⟩ = some (.slice a n c) ∧ (T.W.getD j []).length = n ∧ gw < w.heap.size := by
  have h1 := hm.row .wa
  rw [ht.wa] at h1
  obtain ⟨gw, cw, e, _, _, hg, hc, _⟩ := h1.at (by simp; omega)
  rw [List.length_map, List.length_range] at e
  have h2 := hm.row (.W j)
  rw [ht.W j] at h2
  obtain ⟨a, c, e2, _, _⟩ := h2.form
  rw [ints_len] at e2
  refine ⟨gw, cw, a, _, c, e, ?_, e2, ?_, rfl, hg⟩
  · rw [← e]; exact hm.bcell 1
  · rw [← e2]; exact hc j _ (by simp [hj])

theorem Mem.waCell {w : World} {B : Nat → Prop} {b : Nat} {bx : Array Value} {val : Sl → Value} {ct : Sl → List Value} {gw n cw j : Nat} {u : Value} (hm : Mem w B b bx val ct) (hv : val .wa = .slice (some ⟨gw, 0, none⟩) n cw) (hj : (ct .wa)[j]? = some u) : w.cell? ⟨gw, j, none⟩ = some u ∧ w.frozen? ⟨gw, j, none⟩ = false := by
  have hl : j < (ct .wa).length := by
    by_cases h : j < (ct .wa).length
    · exact h
    · rw [List.getElem?_eq_none (by omega)] at hj; cases hj
  obtain ⟨g, c, e, _, _, _, hc, hf⟩ := (hm.row .wa).at (by omega)
  rw [hv] at e
  injection e with e _ _
  injection e with e
  injection e with e _ _
  subst e
  exact ⟨hc j _ hj, hf j⟩

theorem boxOf_W (val : Sl → Value) (nx j : Nat) (v : Value) : boxOf (upS val (.W j) v) nx = boxOf val nx := by simp [boxOf, upS]

/-- What 't.watch[j] = append(t.watch[j], k)' has done, ahead of its store and behind it. -/
theorem push_fact {T : Tr} {w : World} {B : Nat → Prop} {b nx : Nat} {val : Sl → Value} {ct : Sl → List Value} (hm : Mem w B b (boxOf val nx) val ct) (ht : Tie T val ct) {s0 m gw wl cw wn wc : Nat} {wa : Option Addr} (hs : s0 < T.W.length)
    (ew : val .wa = .slice (some ⟨gw, 0, none⟩) wl cw) (ej : val (.W s0) = .slice wa wn wc) (v3 : Value) (w3 : World) (R1 : Row w3 3 1 v3 (ints (T.W.getD s0 []) ++ [.int .i64 (m : Nat)])) (G1 : Grew (w.drew.alloc (.cells #[.int .i64 (m : Nat)] 3)) w3 (.slice wa wn wc) v3) :
    ∃ a1 l1 n1, v3 = .slice a1 l1 n1 ∧ w3.cell? ⟨b, 1, none⟩ = some (.slice (some ⟨gw, 0, none⟩) wl cw) ∧ w3.cell? ⟨gw, s0, none⟩ = some (.slice wa wn wc) ∧ w3.frozen? ⟨gw, s0, none⟩ = false ∧
      Hid (Keep B w (w3.setCell ⟨gw, s0, none⟩ (.slice a1 l1 n1)) ∧ ∃ ct', Mem (w3.setCell ⟨gw, s0, none⟩ (.slice a1 l1 n1)) B b (boxOf (upS val (.W s0) (.slice a1 l1 n1)) nx) (upS val (.W s0) (.slice a1 l1 n1)) ct' ∧ Tie { T with W := push T.W s0 m } (upS val (.W s0) (.slice a1 l1 n1)) ct' ∧ (∀ q, ct' (.C q) = ct (.C q))) := by
  obtain ⟨a1, n1, hv1, _, _⟩ := R1.form
  generalize (ints (T.W.getD s0 []) ++ [Value.int .i64 (m : Nat)]).length = l1 at hv1
  subst hv1
  have hj : (ct .wa)[s0]? = some (.slice wa wn wc) := by rw [ht.wa, List.getElem?_map, List.getElem?_range hs, ← ej]; rfl
  have M3 := (hm.drew.alloc (.cells #[.int .i64 (m : Nat)] 3)).grew (.W s0) (by rw [ej]; exact G1) R1
  have ew3 : upS val (.W s0) (.slice a1 l1 n1) .wa = .slice (some ⟨gw, 0, none⟩) wl cw := by rw [upS_other _ _ (by simp)]; exact ew
  obtain ⟨cu3, fu3⟩ := M3.waCell (j := s0) ew3 (by rw [upS_other _ _ (by simp)]; exact hj)
  have K3 : Keep B w w3 := ((Keep.refl B w).drew.alloc hm.drew.lt _).grown G1.1 (hm.drew.alloc _).lt (fun k hk => hm.nB (.W s0) k (by rw [ej]; exact hk))
  have hgw : ¬ B gw := hm.nB .wa gw (by rw [ew]; rfl)
  suffices hh : ∃ ct', Mem (w3.setCell ⟨gw, s0, none⟩ (.slice a1 l1 n1)) B b (boxOf (upS val (.W s0) (.slice a1 l1 n1)) nx) (upS val (.W s0) (.slice a1 l1 n1)) ct' ∧ Tie { T with W := push T.W s0 m } (upS val (.W s0) (.slice a1 l1 n1)) ct' ∧ (∀ q, ct' (.C q) = ct (.C q)) from
    ⟨a1, l1, n1, rfl, (M3.bcell 1).trans (by rw [← ew]; rfl), cu3, fu3, Lib.hid ⟨K3.setCell hgw _, hh⟩⟩
  refine ⟨upS (upS ct (.W s0) (ints (T.W.getD s0 []) ++ [.int .i64 (m : Nat)])) .wa ((ct .wa).set s0 (.slice a1 l1 n1)), ?_, ?_, ?_⟩
  · have M4 := M3.store .wa ew3 s0 (.slice a1 l1 n1)
    rw [boxOf_W]
    rw [upS_other _ _ (by simp : Sl.wa ≠ Sl.W s0)] at M4
    exact M4
  · have T4 := tie_push ht s0 m hs (.slice a1 l1 n1)
    rw [ht.W s0] at T4
    exact T4
  · intro q
    rw [upS_other _ _ (by simp), upS_other _ _ (by simp)]

theorem swC_mem {c : List Int} {i q : Nat} (hq : c.length = q) (h1 : 1 ≤ i) (h2 : i < q) (j : Nat) (hj : j < q) : (swC c i).getD j 0 ∈ c := by
  have e : (swC c i).getD j 0 = if j = i then c.getD 1 0 else if j = 1 then c.getD i 0 else c.getD j 0 := by
    unfold swC
    rw [List.getD_eq_getElem?_getD, List.getElem?_set]
    by_cases h : i = j
    · rw [if_pos h, if_pos h.symm, if_pos (by rw [List.length_set]; omega)]; rfl
    · rw [if_neg h, if_neg (Ne.symm h), List.getElem?_set]
      by_cases h' : 1 = j
      · rw [if_pos h', if_pos h'.symm, if_pos (by omega)]; rfl
      · rw [if_neg h', if_neg (Ne.symm h')]; simp
  rw [e]
  split
  · exact mem_getD (by omega)
  · split
    · exact mem_getD (by omega)
    · exact mem_getD (by omega)

theorem unlike_some {c : List Int} {i q : Nat} (h : unlike c = some i) (hq : c.length = q) : 1 ≤ i ∧ i < q := by
  unfold unlike at h
  rw [List.findIdx?_eq_some_iff_getElem] at h
  obtain ⟨hi, h1, _⟩ := h
  refine ⟨?_, by omega⟩
  by_cases e : i = 0
  · subst e
    rw [List.getD_eq_getElem?_getD, List.getElem?_eq_getElem hi] at h1
    simp at h1
  · omega
end Go.Proofs.Ytngegkgmenfelaa
