/-
  look: a watch list in memory; the loop's relation.
-/
import Derived.Test.YtngegkgmenfelaaWk
import Derived.Laws.IdiomCopy
namespace Go.Proofs.Ytngegkgmenfelaa
open Go.RowKit Go.Lib

theorem tie_setW {T : Tr} {val : Sl → Value} {ct : Sl → List Value} (h : Tie T val ct) (j : Nat) (hj : j < T.W.length) (r : List Int) : Tie (setW T j r) val (upS ct (.W j) (ints r)) where
  cl := h.cl
  wa := by
    rw [upS_other _ _ (by simp), h.wa]
    show _ = (List.range (T.W.set j r).length).map _
    rw [List.length_set]
  fa := h.fa
  li := h.li
  st := h.st
  sh := h.sh
  C := h.C
  W := fun q => by
    show _ = ints ((T.W.set j r).getD q [])
    by_cases e : q = j
    · subst e; rw [upS_same, getD_set_eq _ _ _ hj]
    · rw [upS_other _ _ (by simp; exact e), h.W q, getD_set_ne _ _ _ (Ne.symm e)]

variable {w : World} {B : Nat → Prop} {b : Nat} {T : Tr} {val : Sl → Value}

theorem TrailV.rowW (h : TrailV w B b T val) {j g n c : Nat} (hv : val (.W j) = .slice (some ⟨g, 0, none⟩) n c) :
    (T.W.getD j []).length = n ∧ n ≤ c ∧ (0 < n → g < w.heap.size) ∧ (∀ i, i < n → w.cell? ⟨g, i, none⟩ = some (.int .i64 ((T.W.getD j []).getD i 0)) ∧ w.frozen? ⟨g, i, none⟩ = false) := by
  obtain ⟨ct, hm, ht⟩ := h
  have h2 := hm.row (.W j)
  rw [ht.W j] at h2
  obtain ⟨a, c', e, hle, _⟩ := h2.form
  rw [hv, ints_len] at e
  injection e with _ e2 e3
  subst e2 e3
  rw [ints_len] at hle
  refine ⟨rfl, hle, fun hn => ?_, fun i hi => ?_⟩
  · obtain ⟨g', c', e, _, _, hg, hc, hf⟩ := h2.at (by rw [ints_len]; exact hn)
    rw [hv] at e
    injection e with e _ _
    injection e with e
    injection e with e _ _
    subst e
    exact hg
  · obtain ⟨g', c', e, _, _, hg, hc, hf⟩ := h2.at (by rw [ints_len]; omega)
    rw [hv] at e
    injection e with e _ _
    injection e with e
    injection e with e _ _
    subst e
    exact ⟨hc i _ (ints_at hi), hf i⟩

theorem TrailV.storeW (h : TrailV w B b T val) {j g n c : Nat} (hj : j < T.W.length) (hv : val (.W j) = .slice (some ⟨g, 0, none⟩) n c) (i : Nat) (k : Int) :
    TrailV (w.setCell ⟨g, i, none⟩ (.int .i64 k)) B b (setW T j ((T.W.getD j []).set i k)) val ∧ Keep B w (w.setCell ⟨g, i, none⟩ (.int .i64 k)) := by
  obtain ⟨ct, hm, ht⟩ := h
  have M := hm.store (.W j) hv i (.int .i64 k)
  rw [ht.W j, ints_set] at M
  exact ⟨⟨_, M, tie_setW ht j hj _⟩, (Keep.refl B w).setCell (hm.nB (.W j) g (by rw [hv]; rfl)) _⟩

/-- Cells laid one behind the other. -/
def over (r : List Int) : Nat → List Int → List Int
  | _, [] => r
  | o, a :: ys => over (r.set o a) (o + 1) ys
theorem over_len (r : List Int) (o : Nat) (ys : List Int) : (over r o ys).length = r.length := by
  induction ys generalizing r o with
  | nil => rfl
  | cons a ys ih => show (over (r.set o a) (o + 1) ys).length = _; rw [ih, List.length_set]
theorem over_take (r : List Int) (o : Nat) (ys : List Int) (h : o + ys.length ≤ r.length) : (over r o ys).take (o + ys.length) = r.take o ++ ys := by
  induction ys generalizing r o with
  | nil => simp [over]
  | cons a ys ih =>
    have h' : o + (ys.length + 1) ≤ r.length := h
    show (over (r.set o a) (o + 1) ys).take (o + (ys.length + 1)) = _
    rw [show o + (ys.length + 1) = (o + 1) + ys.length from by omega, ih _ _ (by rw [List.length_set]; omega)]
    rw [List.take_succ_eq_append_getElem (by rw [List.length_set]; omega)]
    rw [List.getElem_set_self, List.take_set_of_le (by omega)]
    simp
theorem TrailV.storesW {j g n c : Nat} (hv : val (.W j) = .slice (some ⟨g, 0, none⟩) n c) : ∀ (ys : List Int) (o : Nat) (w : World) (T : Tr), TrailV w B b T val → j < T.W.length →
    TrailV (w.setCells g o (ints ys)) B b (setW T j (over (T.W.getD j []) o ys)) val ∧ Keep B w (w.setCells g o (ints ys))
  | [], o, w, T, h, hj => by
    refine ⟨?_, Keep.refl B w⟩
    have : setW T j (over (T.W.getD j []) o []) = T := by
      unfold setW over
      have : T.W.set j (T.W.getD j []) = T.W := by
        rw [List.getD_eq_getElem?_getD, List.getElem?_eq_getElem hj, Option.getD_some, List.set_getElem_self]
      rw [this]
    rw [this]; exact h
  | a :: ys, o, w, T, h, hj => by
    obtain ⟨h1, k1⟩ := h.storeW hj hv o a
    obtain ⟨h2, k2⟩ := TrailV.storesW hv ys (o + 1) _ _ h1 (by show j < (T.W.set _ _).length; rw [List.length_set]; exact hj)
    rw [setW_setW, show (setW T j ((T.W.getD j []).set o a)).W.getD j [] = (T.W.getD j []).set o a from getD_set_eq _ _ _ hj] at h2
    exact ⟨h2, k1.trans k2⟩

/-- The box's row of the watched. -/
theorem TrailV.boxW (h : TrailV w B b T val) : w.cell? ⟨b, 1, none⟩ = some (val .wa) ∧ b < w.heap.size := by
  obtain ⟨ct, M, _⟩ := h
  exact ⟨M.bcell 1, lt_of_block M.box⟩
/-- The watch list is cut. -/
theorem TrailV.cutW (h : TrailV w B b T val) {j g n c m : Nat} (hj : j < T.W.length) (hv : val (.W j) = .slice (some ⟨g, 0, none⟩) n c) (hm : m ≤ (T.W.getD j []).length) :
    ∃ gw cw, w.cell? ⟨b, 1, none⟩ = some (.slice (some ⟨gw, 0, none⟩) T.W.length cw) ∧ w.frozen? ⟨gw, j, none⟩ = false ∧ w.cell? ⟨gw, j, none⟩ = some (.slice (some ⟨g, 0, none⟩) n c) ∧ gw < w.heap.size ∧ b < w.heap.size ∧
      Hid (TrailV (w.setCell ⟨gw, j, none⟩ (.slice (some ⟨g, 0, none⟩) m c)) B b (setW T j ((T.W.getD j []).take m)) (upS val (.W j) (.slice (some ⟨g, 0, none⟩) m c)) ∧ Keep B w (w.setCell ⟨gw, j, none⟩ (.slice (some ⟨g, 0, none⟩) m c))) ∧
      Hid (∀ w', Below w.heap.size w w' → w'.cell? ⟨b, 1, none⟩ = some (.slice (some ⟨gw, 0, none⟩) T.W.length cw)) ∧ Hid ((w.setCell ⟨gw, j, none⟩ (.slice (some ⟨g, 0, none⟩) m c)).cell? ⟨b, 1, none⟩ = some (.slice (some ⟨gw, 0, none⟩) T.W.length cw)) ∧ Hid (val .wa = .slice (some ⟨gw, 0, none⟩) T.W.length cw) := by
  obtain ⟨ct, M, ht⟩ := h
  obtain ⟨gw, cw, wa, wn, wc, ew, cw1, ewj, cwj, ewl, hgw⟩ := watch_at M ht j hj
  have hw : (ct .wa)[j]? = some (val (.W j)) := by rw [ht.wa, List.getElem?_map, List.getElem?_range hj]; rfl
  obtain ⟨c1, f1⟩ := M.waCell ew hw
  have hB : ¬ B gw := M.nB .wa gw (by rw [ew]; rfl)
  have M2 := (M.cut (.W j) rfl hv (k := m) (by rw [ht.W j, ints_len]; exact hm)).store .wa (by rw [upS_other _ _ (by simp)]; exact ew) j (.slice (some ⟨g, 0, none⟩) m c)
  rw [← boxOf_W val T.nx j (.slice (some ⟨g, 0, none⟩) m c)] at M2
  refine ⟨gw, cw, cw1, f1, by rw [c1, hv], hgw, lt_of_block M.box, Lib.hid ⟨⟨_, M2, ?_⟩, (Keep.refl B w).setCell hB _⟩, Lib.hid (fun w' hb => ((M.below hb (Nat.le_refl _)).bcell 1).trans (by rw [← ew]; rfl)), Lib.hid ((M2.bcell 1).trans (by rw [← ew]; simp [boxOf, upS])), Lib.hid ew⟩
  exact {
    cl := by
      rw [upS_other _ _ (by simp), upS_other _ _ (by simp), ht.cl]
      refine List.map_congr_left fun q _ => ?_
      rw [upS_other _ _ (by simp)]
    wa := by
      rw [upS_same, upS_other _ _ (by simp), ht.wa]
      show _ = (List.range (T.W.set j _).length).map _
      rw [List.length_set]
      refine List.ext_getElem (by simp) fun q h1 h2 => ?_
      rw [List.getElem_set]
      by_cases eq : j = q
      · subst eq; rw [if_pos rfl]; simp [upS]
      · rw [if_neg eq]; simp [upS, Ne.symm eq]
    fa := ht.fa
    li := ht.li
    st := ht.st
    sh := ht.sh
    C := ht.C
    W := fun q => by
      rw [upS_other _ _ (by simp)]
      show _ = ints ((T.W.set j _).getD q [])
      by_cases e : q = j
      · subst e; rw [upS_same, getD_set_eq _ _ _ hj, ht.W q]; simp [ints]
      · rw [upS_other _ _ (by simp; exact e), ht.W q, getD_set_ne _ _ _ (Ne.symm e)] }

/-- What look's loop knows: i clauses are done, those in 'kept' are kept. -/
structure LookInv (n M N : Nat) (x : Int) (l : List Int) (i : Nat) (kept : List Int) (T : Tr) : Prop where
  ok : Ok n T
  neg : valOf T x = -1
  xok : 1 ≤ x.natAbs ∧ x.natAbs ≤ n
  kl : kept.length ≤ i
  il : i ≤ l.length
  rows : ∀ q, (T.W.getD q []).length ≤ M + i
  lits : T.lits.length ≤ N + i
  rest : ∀ q, i ≤ q → q < l.length → ∃ k : Nat, l.getD q 0 = (k : Nat) ∧ k < T.L.length ∧ 2 ≤ (T.L.getD k []).length
def LookRel (w0 : World) (B : Nat → Prop) (b n M N : Nat) (x : Int) (l : List Int) (g c : Nat) (R : Int × List Int × Tr) (i cnt : Nat) (wr : World) : Prop :=
  ∃ kept T val, kept.length = cnt ∧ lookGo x (l.drop i) kept T = R ∧ LookInv n M N x l i kept T ∧ TrailV wr B b (setW T (sideN x) (kept ++ l.drop kept.length)) val ∧ val (.W (sideN x)) = .slice (some ⟨g, 0, none⟩) l.length c ∧ Keep B w0 wr

theorem keep_step {kept l : List Int} {k : Int} (h : kept.length < l.length) : (kept ++ l.drop kept.length).set kept.length k = (kept ++ [k]) ++ l.drop (kept ++ [k]).length := by
  rw [List.set_append_right _ _ (Nat.le_refl _), Nat.sub_self, List.drop_eq_getElem_cons h, List.set_cons_zero]
  simp

theorem LookInv.look1 {n M N : Nat} {x : Int} {l : List Int} {i k : Nat} {kept : List Int} {T : Tr} (h : LookInv n M N x l i kept T) (h2 : 2 ≤ (T.L.getD k []).length) : LookInv n M N x l i kept (look1 x k T) := by
  obtain ⟨e1, e2, e3, e4, _⟩ := look1_rest x T k
  exact { h with
    ok := h.ok.look1 x k h2
    neg := by rw [valOf_F e1]; exact h.neg
    rows := fun q => by rw [e2]; exact h.rows q
    lits := by rw [e3]; exact h.lits
    rest := fun q h1 h2 => by
      obtain ⟨m, a, b, c⟩ := h.rest q h1 h2
      exact ⟨m, a, by rw [look1_ll]; exact b, by rw [look1_len]; exact c⟩ }
theorem LookInv.keep {n M N : Nat} {x : Int} {l : List Int} {i : Nat} {kept : List Int} {T : Tr} (h : LookInv n M N x l i kept T) (hi : i < l.length) (k : Int) : LookInv n M N x l (i + 1) (kept ++ [k]) T :=
  { h with
    kl := by rw [List.length_append, List.length_singleton]; have := h.kl; omega
    il := hi
    rows := fun q => by have := h.rows q; omega
    lits := by have := h.lits; omega
    rest := fun q h1 h2 => h.rest q (by omega) h2 }
theorem LookInv.next {n M N : Nat} {x : Int} {l : List Int} {i k m : Nat} {kept : List Int} {T : Tr} (h : LookInv n M N x l i kept T) (hi : i < l.length) (h2 : 2 ≤ m) (hm : m < (T.L.getD k []).length) : LookInv n M N x l (i + 1) kept (otherT T k m) :=
  { h with
    ok := (h.ok.sw k 1 m (by omega) hm).push _ _
    neg := h.neg
    kl := by have := h.kl; omega
    il := hi
    rows := fun q => by
      have h1 := h.rows q
      have h2 := push_row T.W (sideN ((T.L.getD k []).getD m 0)) k q
      show ((push T.W _ k).getD q []).length ≤ _
      omega
    lits := by have := h.lits; show T.lits.length ≤ _; omega
    rest := fun q h1 h2 => by
      obtain ⟨p, a, b, c⟩ := h.rest q (by omega) h2
      exact ⟨p, a, by show p < (swT T k 1 m).L.length; rw [sw_ll]; exact b, by show 2 ≤ ((swT T k 1 m).L.getD p []).length; rw [sw_len]; exact c⟩ }
theorem LookInv.make {n M N : Nat} {x : Int} {l : List Int} {i : Nat} {kept : List Int} {T : Tr} (h : LookInv n M N x l i kept T) (hi : i < l.length) (y k : Int) (hy : 1 ≤ y.natAbs ∧ y.natAbs ≤ n) (hv : valOf T y = 0) : LookInv n M N x l (i + 1) (kept ++ [k]) (makeT T y k) :=
  { h with
    ok := h.ok.make y k hy
    neg := by
      rw [valOf_make T y k x (by rw [h.ok.fl]; exact hy)]
      have hx := h.neg
      have e1 : ¬ x = y := fun e => by rw [e, hv] at hx; omega
      have e2 : ¬ x = -y := fun e => by rw [e, valOf_neg, hv] at hx; omega
      rw [if_neg e1, if_neg e2]; exact hx
    kl := by rw [List.length_append, List.length_singleton]; have := h.kl; omega
    il := hi
    rows := fun q => by have := h.rows q; show (T.W.getD q []).length ≤ _; omega
    lits := by have := h.lits; show (T.lits ++ [y]).length ≤ _; rw [List.length_append, List.length_singleton]; omega
    rest := fun q h1 h2 => h.rest q (by omega) h2 }
end Go.Proofs.Ytngegkgmenfelaa
