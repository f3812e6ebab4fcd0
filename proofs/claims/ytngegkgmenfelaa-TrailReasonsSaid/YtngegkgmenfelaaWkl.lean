/-
  look: its words.
-/
import Derived.Test.YtngegkgmenfelaaWj
import Derived.Laws.IdiomCopy
namespace Go.Proofs.Ytngegkgmenfelaa
open Go.RowKit Go.Lib

/-- The first literal of a clause, from the third on, that may be watched; the clause's length: there is none. -/
def otherI (T : Tr) (c : List Int) : Nat := (((List.range c.length).find? fun i => decide (2 ≤ i) && goodI T c i)).getD c.length

theorem otherI_spec (T : Tr) (c : List Int) (h2 : 2 ≤ c.length) : 2 ≤ otherI T c ∧ otherI T c ≤ c.length ∧ (∀ j, 2 ≤ j → j < otherI T c → goodI T c j = false) ∧ (otherI T c < c.length → goodI T c (otherI T c) = true) := by
  unfold otherI
  cases hf : (List.range c.length).find? fun i => decide (2 ≤ i) && goodI T c i with
  | none =>
    rw [List.find?_eq_none] at hf
    refine ⟨h2, Nat.le_refl _, fun j hj hl => ?_, fun h => absurd h (by simp)⟩
    have := hf j (List.mem_range.2 hl)
    simp only [hj, decide_true, Bool.true_and, Bool.not_eq_true] at this
    exact this
  | some i =>
    rw [List.find?_range_eq_some] at hf
    obtain ⟨h1, h3, h4⟩ := hf
    simp only [Bool.and_eq_true, decide_eq_true_eq] at h1
    have hi := List.mem_range.1 h3
    refine ⟨h1.1, by show i ≤ _; omega, fun j hj hl => ?_, fun _ => h1.2⟩
    have := h4 j hl
    simp only [hj, decide_true, Bool.true_and, Bool.not_eq_eq_eq_not, Bool.not_true] at this
    exact this

/-- The false literal stands second. -/
def look1 (x : Int) (k : Nat) (T : Tr) : Tr := if (T.L.getD k []).getD 0 0 = x then swT T k 0 1 else T

/-- The clauses that watch x are looked at: what is told (-1: no clause is false), the row that is left, the trail. -/
def lookGo (x : Int) : List Int → List Int → Tr → Int × List Int × Tr
  | [], kept, T => (-1, kept, T)
  | k :: rest, kept, T =>
    let T1 := look1 x k.toNat T
    let c := T1.L.getD k.toNat []
    if valOf T1 (c.getD 0 0) < 1 then
      if otherI T1 c < c.length then lookGo x rest kept (otherT T1 k.toNat (otherI T1 c))
      else if valOf T1 (c.getD 0 0) = 0 then lookGo x rest (kept ++ [k]) (makeT T1 (c.getD 0 0) k)
      else (k, kept ++ k :: rest, T1)
    else lookGo x rest (kept ++ [k]) T1

def setW (T : Tr) (j : Nat) (r : List Int) : Tr := { T with W := T.W.set j r }
def lookT (T : Tr) (x : Int) : Int × Tr :=
  let R := lookGo x (T.W.getD (sideN x) []) [] T
  (R.1, setW R.2.2 (sideN x) R.2.1)

theorem setW_get (T : Tr) (j : Nat) (r : List Int) (hj : j < T.W.length) : (setW T j r).W.getD j [] = r := getD_set_eq _ _ _ hj

/-- What the walks ask of a trail. -/
structure Ok (n : Nat) (T : Tr) : Prop where
  fl : T.F.length = n
  n2 : n ≤ 20000
  wl : T.W.length = 2 * n
  small : Small T
  cl : ∀ c ∈ T.L, c.length ≤ 20000 ∧ ∀ x ∈ c, 1 ≤ x.natAbs ∧ x.natAbs ≤ n
  ll : T.L.length ≤ 300000

theorem Ok.clause {n : Nat} {T : Tr} (h : Ok n T) (k : Nat) : (T.L.getD k []).length ≤ 20000 ∧ ∀ x ∈ T.L.getD k [], 1 ≤ x.natAbs ∧ x.natAbs ≤ n := by
  by_cases hk : k < T.L.length
  · exact h.cl _ (mem_getD hk)
  · rw [List.getD_eq_getElem?_getD, List.getElem?_eq_none (by omega)]; simp
theorem side_lt {n : Nat} {x : Int} (h : 1 ≤ x.natAbs ∧ x.natAbs ≤ n) : sideN x < 2 * n := by unfold sideN sideI; split <;> omega
theorem side_inj {x y : Int} (hx : x ≠ 0) (hy : y ≠ 0) (h : sideN x = sideN y) : x = y := by
  unfold sideN sideI at h
  split at h <;> split at h <;> omega

theorem set2_mem {c : List Int} {i j : Nat} (hi : i < c.length) (hj : j < c.length) {x : Int} (h : x ∈ (c.set i (c.getD j 0)).set j (c.getD i 0)) : x ∈ c := by
  rcases List.mem_or_eq_of_mem_set h with h | h
  · rcases List.mem_or_eq_of_mem_set h with h | h
    · exact h
    · rw [h]; exact mem_getD hj
  · rw [h]; exact mem_getD hi

theorem Ok.sw {n : Nat} {T : Tr} (h : Ok n T) (k i j : Nat) (hi : i < (T.L.getD k []).length) (hj : j < (T.L.getD k []).length) : Ok n (swT T k i j) where
  fl := h.fl
  n2 := h.n2
  wl := h.wl
  small := h.small
  cl := fun c hc => by
    rcases List.mem_or_eq_of_mem_set hc with hc | hc
    · exact h.cl c hc
    · subst hc
      have := h.clause k
      rw [List.length_set, List.length_set]
      exact ⟨this.1, fun x hx => this.2 x (set2_mem hi hj hx)⟩
  ll := by show (T.L.set k _).length ≤ _; rw [List.length_set]; exact h.ll
theorem Ok.push {n : Nat} {T : Tr} (h : Ok n T) (j k : Nat) : Ok n (pushT T j k) :=
  { h with wl := by show (Ytngegkgmenfelaa.push T.W j k).length = _; unfold Ytngegkgmenfelaa.push; rw [List.length_set]; exact h.wl, small := h.small }
theorem Ok.setW {n : Nat} {T : Tr} (h : Ok n T) (j : Nat) (r : List Int) : Ok n (setW T j r) :=
  { h with wl := by show (T.W.set j r).length = _; rw [List.length_set]; exact h.wl, small := h.small }

theorem isVar_iff (T : Tr) (x : Int) : isVar T x = true ↔ 1 ≤ x.natAbs ∧ x.natAbs ≤ T.F.length := decide_eq_true_iff
theorem factOf_in {T : Tr} {x : Int} (h : 1 ≤ x.natAbs ∧ x.natAbs ≤ T.F.length) : factOf T x = T.F.getD (x.natAbs - 1) (0, 0, 0) := if_pos ((isVar_iff T x).2 h)
theorem factOf_out {T : Tr} {x : Int} (h : ¬ (1 ≤ x.natAbs ∧ x.natAbs ≤ T.F.length)) : factOf T x = (0, -1, -1) := if_neg (by rw [isVar_iff]; exact h)
theorem factOf_make (T : Tr) (y r x : Int) (hy : 1 ≤ y.natAbs ∧ y.natAbs ≤ T.F.length) :
    factOf (makeT T y r) x = if x.natAbs = y.natAbs then (sgn y, ((T.starts.length : Nat) : Int), r) else factOf T x := by
  have hl : (makeT T y r).F.length = T.F.length := by show (T.F.set _ _).length = _; rw [List.length_set]
  by_cases hv : 1 ≤ x.natAbs ∧ x.natAbs ≤ T.F.length
  · rw [factOf_in (by rw [hl]; exact hv), factOf_in hv]
    show (T.F.set (y.natAbs - 1) _).getD (x.natAbs - 1) _ = _
    by_cases e : x.natAbs = y.natAbs
    · rw [if_pos e, e, getD_set_eq _ _ _ (by omega)]
    · rw [if_neg e, getD_set_ne _ _ _ (by omega)]
  · rw [factOf_out (by rw [hl]; exact hv), factOf_out hv, if_neg (by omega)]
theorem valOf_make (T : Tr) (y r x : Int) (hy : 1 ≤ y.natAbs ∧ y.natAbs ≤ T.F.length) :
    valOf (makeT T y r) x = if x = y then 1 else if x = -y then -1 else valOf T x := by
  unfold valOf
  rw [factOf_make T y r x hy]
  by_cases e : x.natAbs = y.natAbs
  · rw [if_pos e]
    have : x = y ∨ x = -y := by omega
    unfold sgn
    by_cases e1 : x = y
    · rw [if_pos e1]; subst e1; split <;> simp_all
    · have e2 : x = -y := by omega
      rw [if_neg e1, if_pos e2]
      subst e2
      by_cases hy0 : y < 0
      · rw [if_neg (by omega), if_pos hy0]
      · rw [if_pos (by omega), if_neg hy0]
  · have e1 : ¬ x = y := fun h => e (by rw [h])
    have e2 : ¬ x = -y := fun h => e (by rw [h, Int.natAbs_neg])
    rw [if_neg e, if_neg e1, if_neg e2]
theorem valOf_neg (T : Tr) (x : Int) : valOf T (-x) = - valOf T x := by
  unfold valOf
  have e : factOf T (-x) = factOf T x := by unfold factOf isVar; rw [Int.natAbs_neg]
  rw [e]
  by_cases h : x < 0
  · rw [if_neg (by omega), if_pos h]; simp
  · by_cases h0 : x = 0
    · subst h0
      have : factOf T 0 = (0, -1, -1) := factOf_out (by simp)
      rw [this]; rfl
    · rw [if_pos (by omega), if_neg h]
theorem valOf_three {T : Tr} (h : Small T) (x : Int) : valOf T x = -1 ∨ valOf T x = 0 ∨ valOf T x = 1 := by
  have := h x
  unfold valOf
  split <;> omega
theorem Ok.make {n : Nat} {T : Tr} (h : Ok n T) (y r : Int) (hy : 1 ≤ y.natAbs ∧ y.natAbs ≤ n) : Ok n (makeT T y r) :=
  { h with
    fl := by show (T.F.set _ _).length = _; rw [List.length_set]; exact h.fl
    small := fun x => by
      rw [factOf_make T y r x (by rw [h.fl]; exact hy)]
      split
      · unfold sgn; split <;> simp
      · exact h.small x }

theorem push_set (W : List (List Int)) (j s k : Nat) (ms : List Int) (h : s ≠ j) : push (W.set j ms) s k = (push W s k).set j ms := by
  unfold push
  rw [getD_set_ne _ _ _ (Ne.symm h), List.set_comm _ _ (Ne.symm h)]
theorem otherT_setW (T : Tr) (k i j : Nat) (ms : List Int) (h : sideN ((T.L.getD k []).getD i 0) ≠ j) : otherT (setW T j ms) k i = setW (otherT T k i) j ms := by
  have e := push_set T.W j _ k ms h
  unfold otherT pushT setW swT
  rw [← e]
theorem makeT_setW (T : Tr) (y r : Int) (j : Nat) (ms : List Int) : makeT (setW T j ms) y r = setW (makeT T y r) j ms := rfl
theorem swT_setW (T : Tr) (k a b j : Nat) (ms : List Int) : swT (setW T j ms) k a b = setW (swT T k a b) j ms := rfl
theorem look1_setW (T : Tr) (x : Int) (k j : Nat) (ms : List Int) : look1 x k (setW T j ms) = setW (look1 x k T) j ms := by
  unfold look1
  show (if (T.L.getD k []).getD 0 0 = x then _ else _) = _
  split <;> rfl
theorem setW_setW (T : Tr) (j : Nat) (a b : List Int) : setW (setW T j a) j b = setW T j b := by
  unfold setW; simp [List.set_set]

theorem sw_len (T : Tr) (k i j q : Nat) : ((swT T k i j).L.getD q []).length = (T.L.getD q []).length := by
  show ((T.L.set k _).getD q []).length = _
  by_cases e : k = q
  · subst e
    by_cases hk : k < T.L.length
    · rw [getD_set_eq _ _ _ hk, List.length_set, List.length_set]
    · rw [List.set_eq_of_length_le (by omega)]
  · rw [getD_set_ne _ _ _ e]
theorem look1_len (x : Int) (T : Tr) (k q : Nat) : ((look1 x k T).L.getD q []).length = (T.L.getD q []).length := by
  unfold look1; split
  · exact sw_len _ _ _ _ _
  · rfl
theorem sw_ll (T : Tr) (k i j : Nat) : (swT T k i j).L.length = T.L.length := by show (T.L.set k _).length = _; rw [List.length_set]
theorem look1_ll (x : Int) (T : Tr) (k : Nat) : (look1 x k T).L.length = T.L.length := by
  unfold look1; split
  · exact sw_ll _ _ _ _
  · rfl
theorem look1_rest (x : Int) (T : Tr) (k : Nat) : (look1 x k T).F = T.F ∧ (look1 x k T).W = T.W ∧ (look1 x k T).lits = T.lits ∧ (look1 x k T).nx = T.nx ∧ (look1 x k T).starts = T.starts ∧ (look1 x k T).short = T.short := by
  unfold look1; split <;> exact ⟨rfl, rfl, rfl, rfl, rfl, rfl⟩
theorem Ok.look1 {n : Nat} {T : Tr} (h : Ok n T) (x : Int) (k : Nat) (h2 : 2 ≤ (T.L.getD k []).length) : Ok n (look1 x k T) := by
  unfold Ytngegkgmenfelaa.look1; split
  · exact h.sw k 0 1 (by omega) (by omega)
  · exact h
theorem valOf_F {T T' : Tr} (h : T'.F = T.F) (x : Int) : valOf T' x = valOf T x := by unfold valOf factOf isVar; rw [h]
theorem goodI_F {T T' : Tr} (h : T'.F = T.F) (c : List Int) (i : Nat) : goodI T' c i = goodI T c i := by unfold goodI; rw [valOf_F h]
theorem otherI_F {T T' : Tr} (h : T'.F = T.F) (c : List Int) : otherI T' c = otherI T c := by unfold otherI; simp only [goodI_F h]
theorem push_row (W : List (List Int)) (s k q : Nat) : ((push W s k).getD q []).length ≤ (W.getD q []).length + 1 := by
  unfold push
  by_cases e : s = q
  · subst e
    by_cases hs : s < W.length
    · rw [getD_set_eq _ _ _ hs]; simp
    · rw [List.set_eq_of_length_le (by omega)]; omega
  · rw [getD_set_ne _ _ _ e]; omega
end Go.Proofs.Ytngegkgmenfelaa

/-
  look: a watch list in memory; the loop's relation.
-/
namespace Go.Proofs.Ytngegkgmenfelaa
open Go.RowKit Go.Lib

theorem tie_setW {T : Tr} {val : Sl → Value} {ct : Sl → List Value} (h : Tie T val ct) (j : Nat) (hj : j < T.W.length) (r : List Int) : Tie (setW T j r) val (upS ct (.W j) (ints r)) where
  cl := h.cl
  wa := by
    rw [upS_other _ _ (by simp), h.wa]
    show _ = (List.range (T.W.set j r).length).map _
    rw [List.length_set]
  fa := h.fa
  li := h.li
  st := h.st
  sh := h.sh
  C := h.C
  W := fun q => by
    show _ = ints ((T.W.set j r).getD q [])
    by_cases e : q = j
    · subst e; rw [upS_same, getD_set_eq _ _ _ hj]
    · rw [upS_other _ _ (by simp; exact e), h.W q, getD_set_ne _ _ _ (Ne.symm e)]

variable {w : World} {B : Nat → Prop} {b : Nat} {T : Tr} {val : Sl → Value}

theorem TrailV.rowW (h : TrailV w B b T val) {j g n c : Nat} (hv : val (.W j) = .slice (some ⟨g, 0, none⟩) n c) :
    (T.W.getD j []).length = n ∧ n ≤ c ∧ (0 < n → g < w.heap.size) ∧ (∀ i, i < n → w.cell? ⟨g, i, none⟩ = some (.int .i64 ((T.W.getD j []).getD i 0)) ∧ w.frozen? ⟨g, i, none⟩ = false) := by
  obtain ⟨ct, hm, ht⟩ := h
  have h2 := hm.row (.W j)
  rw [ht.W j] at h2
  obtain ⟨a, c', e, hle, _⟩ := h2.form
  rw [hv, ints_len] at e
  injection e with _ e2 e3
  subst e2 e3
  rw [ints_len] at hle
  refine ⟨rfl, hle, fun hn => ?_, fun i hi => ?_⟩
  · obtain ⟨g', c', e, _, _, hg, hc, hf⟩ := h2.at (by rw [ints_len]; exact hn)
    rw [hv] at e
    injection e with e _ _
    injection e with e
    injection e with e _ _
    subst e
    exact hg
  · obtain ⟨g', c', e, _, _, hg, hc, hf⟩ := h2.at (by rw [ints_len]; omega)
    rw [hv] at e
    injection e with e _ _
    injection e with e
    injection e with e _ _
    subst e
    exact ⟨hc i _ (ints_at hi), hf i⟩

theorem TrailV.storeW (h : TrailV w B b T val) {j g n c : Nat} (hj : j < T.W.length) (hv : val (.W j) = .slice (some ⟨g, 0, none⟩) n c) (i : Nat) (k : Int) :
    TrailV (w.setCell ⟨g, i, none⟩ (.int .i64 k)) B b (setW T j ((T.W.getD j []).set i k)) val ∧ Keep B w (w.setCell ⟨g, i, none⟩ (.int .i64 k)) := by
  obtain ⟨ct, hm, ht⟩ := h
  have M := hm.store (.W j) hv i (.int .i64 k)
  rw [ht.W j, ints_set] at M
  exact ⟨⟨_, M, tie_setW ht j hj _⟩, (Keep.refl B w).setCell (hm.nB (.W j) g (by rw [hv]; rfl)) _⟩

/-- Cells laid one behind the other. -/
def over (r : List Int) : Nat → List Int → List Int
  | _, [] => r
  | o, a :: ys => over (r.set o a) (o + 1) ys
theorem over_len (r : List Int) (o : Nat) (ys : List Int) : (over r o ys).length = r.length := by
  induction ys generalizing r o with
  | nil => rfl
  | cons a ys ih => show (over (r.set o a) (o + 1) ys).length = _; rw [ih, List.length_set]
theorem over_take (r : List Int) (o : Nat) (ys : List Int) (h : o + ys.length ≤ r.length) : (over r o ys).take (o + ys.length) = r.take o ++ ys := by
  induction ys generalizing r o with
  | nil => simp [over]
  | cons a ys ih =>
    have h' : o + (ys.length + 1) ≤ r.length := h
    show (over (r.set o a) (o + 1) ys).take (o + (ys.length + 1)) = _
    rw [show o + (ys.length + 1) = (o + 1) + ys.length from by omega, ih _ _ (by rw [List.length_set]; omega)]
    rw [List.take_succ_eq_append_getElem (by rw [List.length_set]; omega)]
    rw [List.getElem_set_self, List.take_set_of_le (by omega)]
    simp
theorem TrailV.storesW {j g n c : Nat} (hv : val (.W j) = .slice (some ⟨g, 0, none⟩) n c) : ∀ (ys : List Int) (o : Nat) (w : World) (T : Tr), TrailV w B b T val → j < T.W.length →
    TrailV (w.setCells g o (ints ys)) B b (setW T j (over (T.W.getD j []) o ys)) val ∧ Keep B w (w.setCells g o (ints ys))
  | [], o, w, T, h, hj => by
    refine ⟨?_, Keep.refl B w⟩
    have : setW T j (over (T.W.getD j []) o []) = T := by
      unfold setW over
      have : T.W.set j (T.W.getD j []) = T.W := by
        rw [List.getD_eq_getElem?_getD, List.getElem?_eq_getElem hj, Option.getD_some, List.set_getElem_self]
      rw [this]
    rw [this]; exact h
  | a :: ys, o, w, T, h, hj => by
    obtain ⟨h1, k1⟩ := h.storeW hj hv o a
    obtain ⟨h2, k2⟩ := TrailV.storesW hv ys (o + 1) _ _ h1 (by show j < (T.W.set _ _).length; rw [List.length_set]; exact hj)
    rw [setW_setW, show (setW T j ((T.W.getD j []).set o a)).W.getD j [] = (T.W.getD j []).set o a from getD_set_eq _ _ _ hj] at h2
    exact ⟨h2, k1.trans k2⟩

/-- The box's row of the watched. -/
theorem TrailV.boxW (h : TrailV w B b T val) : w.cell? ⟨b, 1, none⟩ = some (val .wa) ∧ b < w.heap.size := by
  obtain ⟨ct, M, _⟩ := h
  exact ⟨M.bcell 1, lt_of_block M.box⟩
/-- The watch list is cut. -/
theorem TrailV.cutW (h : TrailV w B b T val) {j g n c m : Nat} (hj : j < T.W.length) (hv : val (.W j) = .slice (some ⟨g, 0, none⟩) n c) (hm : m ≤ (T.W.getD j []).length) :
    ∃ gw cw, w.cell? ⟨b, 1, none⟩ = some (.slice (some ⟨gw, 0, none⟩) T.W.length cw) ∧ w.frozen? ⟨gw, j, none⟩ = false ∧ w.cell? ⟨gw, j, none⟩ = some (.slice (some ⟨g, 0, none⟩) n c) ∧ gw < w.heap.size ∧ b < w.heap.size ∧
      Hid (TrailV (w.setCell ⟨gw, j, none⟩ (.slice (some ⟨g, 0, none⟩) m c)) B b (setW T j ((T.W.getD j []).take m)) (upS val (.W j) (.slice (some ⟨g, 0, none⟩) m c)) ∧ Keep B w (w.setCell ⟨gw, j, none⟩ (.slice (some ⟨g, 0, none⟩) m c))) ∧
      Hid (∀ w', Below w.heap.size w w' → w'.cell? ⟨b, 1, none⟩ = some (.slice (some ⟨gw, 0, none⟩) T.W.length cw)) ∧ Hid ((w.setCell ⟨gw, j, none⟩ (.slice (some ⟨g, 0, none⟩) m c)).cell? ⟨b, 1, none⟩ = some (.slice (some ⟨gw, 0, none⟩) T.W.length cw)) ∧ Hid (val .wa = .slice (some ⟨gw, 0, none⟩) T.W.length cw) := by
  obtain ⟨ct, M, ht⟩ := h
  obtain ⟨gw, cw, wa, wn, wc, ew, cw1, ewj, cwj, ewl, hgw⟩ := watch_at M ht j hj
  have hw : (ct .wa)[j]? = some (val (.W j)) := by rw [ht.wa, List.getElem?_map, List.getElem?_range hj]; rfl
  obtain ⟨c1, f1⟩ := M.waCell ew hw
  have hB : ¬ B gw := M.nB .wa gw (by rw [ew]; rfl)
  have M2 := (M.cut (.W j) rfl hv (k := m) (by rw [ht.W j, ints_len]; exact hm)).store .wa (by rw [upS_other _ _ (by simp)]; exact ew) j (.slice (some ⟨g, 0, none⟩) m c)
  rw [← boxOf_W val T.nx j (.slice (some ⟨g, 0, none⟩) m c)] at M2
  refine ⟨gw, cw, cw1, f1, by rw [c1, hv], hgw, lt_of_block M.box, Lib.hid ⟨⟨_, M2, ?_⟩, (Keep.refl B w).setCell hB _⟩, Lib.hid (fun w' hb => ((M.below hb (Nat.le_refl _)).bcell 1).trans (by rw [← ew]; rfl)), Lib.hid ((M2.bcell 1).trans (by rw [← ew]; simp [boxOf, upS])), Lib.hid ew⟩
  exact {
    cl := by
      rw [upS_other _ _ (by simp), upS_other _ _ (by simp), ht.cl]
      refine List.map_congr_left fun q _ => ?_
      rw [upS_other _ _ (by simp)]
    wa := by
      rw [upS_same, upS_other _ _ (by simp), ht.wa]
      show _ = (List.range (T.W.set j _).length).map _
      rw [List.length_set]
      refine List.ext_getElem (by simp) fun q h1 h2 => ?_
      rw [List.getElem_set]
      by_cases eq : j = q
      · subst eq; rw [if_pos rfl]; simp [upS]
      · rw [if_neg eq]; simp [upS, Ne.symm eq]
    fa := ht.fa
    li := ht.li
    st := ht.st
    sh := ht.sh
    C := ht.C
    W := fun q => by
      rw [upS_other _ _ (by simp)]
      show _ = ints ((T.W.set j _).getD q [])
      by_cases e : q = j
      · subst e; rw [upS_same, getD_set_eq _ _ _ hj, ht.W q]; simp [ints]
      · rw [upS_other _ _ (by simp; exact e), ht.W q, getD_set_ne _ _ _ (Ne.symm e)] }

/-- What look's loop knows: i clauses are done, those in 'kept' are kept. -/
structure LookInv (n M N : Nat) (x : Int) (l : List Int) (i : Nat) (kept : List Int) (T : Tr) : Prop where
  ok : Ok n T
  neg : valOf T x = -1
  xok : 1 ≤ x.natAbs ∧ x.natAbs ≤ n
  kl : kept.length ≤ i
  il : i ≤ l.length
  rows : ∀ q, (T.W.getD q []).length ≤ M + i
  lits : T.lits.length ≤ N + i
  rest : ∀ q, i ≤ q → q < l.length → ∃ k : Nat, l.getD q 0 = (k : Nat) ∧ k < T.L.length ∧ 2 ≤ (T.L.getD k []).length
def LookRel (w0 : World) (B : Nat → Prop) (b n M N : Nat) (x : Int) (l : List Int) (g c : Nat) (R : Int × List Int × Tr) (i cnt : Nat) (wr : World) : Prop :=
  ∃ kept T val, kept.length = cnt ∧ lookGo x (l.drop i) kept T = R ∧ LookInv n M N x l i kept T ∧ TrailV wr B b (setW T (sideN x) (kept ++ l.drop kept.length)) val ∧ val (.W (sideN x)) = .slice (some ⟨g, 0, none⟩) l.length c ∧ Keep B w0 wr

theorem keep_step {kept l : List Int} {k : Int} (h : kept.length < l.length) : (kept ++ l.drop kept.length).set kept.length k = (kept ++ [k]) ++ l.drop (kept ++ [k]).length := by
  rw [List.set_append_right _ _ (Nat.le_refl _), Nat.sub_self, List.drop_eq_getElem_cons h, List.set_cons_zero]
  simp

theorem LookInv.look1 {n M N : Nat} {x : Int} {l : List Int} {i k : Nat} {kept : List Int} {T : Tr} (h : LookInv n M N x l i kept T) (h2 : 2 ≤ (T.L.getD k []).length) : LookInv n M N x l i kept (look1 x k T) := by
  obtain ⟨e1, e2, e3, e4, _⟩ := look1_rest x T k
  exact { h with
    ok := h.ok.look1 x k h2
    neg := by rw [valOf_F e1]; exact h.neg
    rows := fun q => by rw [e2]; exact h.rows q
    lits := by rw [e3]; exact h.lits
    rest := fun q h1 h2 => by
      obtain ⟨m, a, b, c⟩ := h.rest q h1 h2
      exact ⟨m, a, by rw [look1_ll]; exact b, by rw [look1_len]; exact c⟩ }
theorem LookInv.keep {n M N : Nat} {x : Int} {l : List Int} {i : Nat} {kept : List Int} {T : Tr} (h : LookInv n M N x l i kept T) (hi : i < l.length) (k : Int) : LookInv n M N x l (i + 1) (kept ++ [k]) T :=
  { h with
    kl := by rw [List.length_append, List.length_singleton]; have := h.kl; omega
    il := hi
    rows := fun q => by have := h.rows q; omega
    lits := by have := h.lits; omega
    rest := fun q h1 h2 => h.rest q (by omega) h2 }
theorem LookInv.next {n M N : Nat} {x : Int} {l : List Int} {i k m : Nat} {kept : List Int} {T : Tr} (h : LookInv n M N x l i kept T) (hi : i < l.length) (h2 : 2 ≤ m) (hm : m < (T.L.getD k []).length) : LookInv n M N x l (i + 1) kept (otherT T k m) :=
  { h with
    ok := (h.ok.sw k 1 m (by omega) hm).push _ _
    neg := h.neg
    kl := by have := h.kl; omega
    il := hi
    rows := fun q => by
      have h1 := h.rows q
      have h2 := push_row T.W (sideN ((T.L.getD k []).getD m 0)) k q
      show ((push T.W _ k).getD q []).length ≤ _
      omega
    lits := by have := h.lits; show T.lits.length ≤ _; omega
    rest := fun q h1 h2 => by
      obtain ⟨p, a, b, c⟩ := h.rest q (by omega) h2
      exact ⟨p, a, by show p < (swT T k 1 m).L.length; rw [sw_ll]; exact b, by show 2 ≤ ((swT T k 1 m).L.getD p []).length; rw [sw_len]; exact c⟩ }
theorem LookInv.make {n M N : Nat} {x : Int} {l : List Int} {i : Nat} {kept : List Int} {T : Tr} (h : LookInv n M N x l i kept T) (hi : i < l.length) (y k : Int) (hy : 1 ≤ y.natAbs ∧ y.natAbs ≤ n) (hv : valOf T y = 0) : LookInv n M N x l (i + 1) (kept ++ [k]) (makeT T y k) :=
  { h with
    ok := h.ok.make y k hy
    neg := by
      rw [valOf_make T y k x (by rw [h.ok.fl]; exact hy)]
      have hx := h.neg
      have e1 : ¬ x = y := fun e => by rw [e, hv] at hx; omega
      have e2 : ¬ x = -y := fun e => by rw [e, valOf_neg, hv] at hx; omega
      rw [if_neg e1, if_neg e2]; exact hx
    kl := by rw [List.length_append, List.length_singleton]; have := h.kl; omega
    il := hi
    rows := fun q => by have := h.rows q; show (T.W.getD q []).length ≤ _; omega
    lits := by have := h.lits; show (T.lits ++ [y]).length ≤ _; rw [List.length_append, List.length_singleton]; omega
    rest := fun q h1 h2 => h.rest q (by omega) h2 }
end Go.Proofs.Ytngegkgmenfelaa
