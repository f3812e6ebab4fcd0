/-
  other: another literal to watch.
-/
import Derived.Test.YtngegkgmenfelaaWi
namespace Go.Proofs.Ytngegkgmenfelaa
open Go.RowKit Go.Lib
attribute [local go_sem ↓] Go.wp_at_zero Go.wp_at_succ

/-- May the i-th literal of a clause be watched? -/
def goodI (T : Tr) (c : List Int) (i : Nat) : Bool := decide (0 ≤ valOf T (c.getD i 0)) && (c.getD i 0 != c.getD 0 0)
/-- The clause k's second literal and its i-th have changed places. -/
def swT (T : Tr) (k i j : Nat) : Tr := { T with L := T.L.set k (((T.L.getD k []).set i ((T.L.getD k []).getD j 0)).set j ((T.L.getD k []).getD i 0)) }
def pushT (T : Tr) (j k : Nat) : Tr := { T with W := push T.W j k }
def otherT (T : Tr) (k i : Nat) : Tr := pushT (swT T k 1 i) (sideN ((T.L.getD k []).getD i 0)) k

theorem getD_set_ne {α : Type} (xs : List α) {i j : Nat} (d a : α) (h : i ≠ j) : (xs.set i a).getD j d = xs.getD j d := by
  rw [List.getD_eq_getElem?_getD, List.getElem?_set_ne h, ← List.getD_eq_getElem?_getD]
theorem getD_set_eq {α : Type} (xs : List α) {i : Nat} (d a : α) (h : i < xs.length) : (xs.set i a).getD i d = a := by
  rw [List.getD_eq_getElem?_getD, List.getElem?_set_self h, Option.getD_some]

theorem tie_sw {T : Tr} {val : Sl → Value} {ct : Sl → List Value} (h : Tie T val ct) (k : Nat) (hk : k < T.L.length) (c2 : List Int) : Tie { T with L := T.L.set k c2 } val (upS ct (.C k) (ints c2)) where
  cl := by
    rw [upS_other _ _ (by simp), h.cl]
    show _ = (List.range (T.L.set k c2).length).map _
    rw [List.length_set]
  wa := h.wa
  fa := h.fa
  li := h.li
  st := h.st
  sh := h.sh
  C := fun q => by
    show _ = ints ((T.L.set k c2).getD q [])
    by_cases e : q = k
    · subst e; rw [upS_same, getD_set_eq _ _ _ hk]
    · rw [upS_other _ _ (by simp; exact e), h.C q, getD_set_ne _ _ _ (Ne.symm e)]
  W := h.W

theorem ints_set (c : List Int) (i : Nat) (x : Int) : (ints c).set i (.int .i64 x) = ints (c.set i x) := by simp [ints]

/-- A clause's row: where it lies. -/
theorem TrailV.clause {w : World} {B : Nat → Prop} {b : Nat} {T : Tr} {val : Sl → Value} (h : TrailV w B b T val) {k : Nat} {c : List Int} (hk : k < T.L.length) (hc : T.L.getD k [] = c) (h1 : 1 ≤ c.length) :
    ∃ gl cl g oc, w.cell? ⟨b, 0, none⟩ = some (.slice (some ⟨gl, 0, none⟩) T.L.length cl) ∧ w.cell? ⟨gl, k, none⟩ = some (.slice (some ⟨g, 0, none⟩) c.length oc) ∧ val (.C k) = .slice (some ⟨g, 0, none⟩) c.length oc ∧ c.length ≤ oc := by
  obtain ⟨ct, hm, ht⟩ := h
  have hr := hm.row .cl
  obtain ⟨gl, cl, e, _, _, _, hcl, _⟩ := hr.at (by rw [ht.cl]; simp; omega)
  have c4 : w.cell? ⟨b, 0, none⟩ = some (val .cl) := hm.bcell 0
  have ck : w.cell? ⟨gl, k, none⟩ = some (val (.C k)) := hcl k _ (by rw [ht.cl]; simp [hk])
  rw [e, ht.cl, List.length_map, List.length_range] at c4
  have h2 := hm.row (.C k)
  rw [ht.C k, hc] at h2
  obtain ⟨g, oc, e2, ho, _⟩ := h2.at (by rw [ints_len]; omega)
  rw [ints_len] at e2 ho
  exact ⟨gl, cl, g, oc, c4, by rw [← e2]; exact ck, e2, ho⟩
theorem TrailV.lit {w : World} {B : Nat → Prop} {b : Nat} {T : Tr} {val : Sl → Value} (h : TrailV w B b T val) {k g n oc : Nat} {c : List Int} (hc : T.L.getD k [] = c) (hv : val (.C k) = .slice (some ⟨g, 0, none⟩) n oc) (j : Nat) (hj : j < c.length) :
    w.cell? ⟨g, j, none⟩ = some (.int .i64 (c.getD j 0)) ∧ w.frozen? ⟨g, j, none⟩ = false ∧ g < w.heap.size := by
  obtain ⟨ct, hm, ht⟩ := h
  have h2 := hm.row (.C k)
  rw [ht.C k, hc] at h2
  obtain ⟨g', oc', e2, _, _, hg, hcl, hf⟩ := h2.at (by rw [ints_len]; omega)
  rw [hv] at e2
  injection e2 with e2 _ _
  injection e2 with e2
  injection e2 with e2 _ _
  subst e2
  exact ⟨hcl j _ (ints_at hj), hf j, hg⟩

/-- Two literals of a clause have changed places. -/
theorem TrailV.swap {w : World} {B : Nat → Prop} {b : Nat} {T : Tr} {val : Sl → Value} (h : TrailV w B b T val) {k g n oc : Nat} {c : List Int} (hk : k < T.L.length) (hc : T.L.getD k [] = c) (hv : val (.C k) = .slice (some ⟨g, 0, none⟩) n oc) (i j : Nat) :
    TrailV ((w.setCell ⟨g, i, none⟩ (.int .i64 (c.getD j 0))).setCell ⟨g, j, none⟩ (.int .i64 (c.getD i 0))).drew B b (swT T k i j) val ∧ Keep B w ((w.setCell ⟨g, i, none⟩ (.int .i64 (c.getD j 0))).setCell ⟨g, j, none⟩ (.int .i64 (c.getD i 0))).drew := by
  subst hc
  obtain ⟨ct, hm, ht⟩ := h
  have M := ((hm.store (.C k) hv i (.int .i64 ((T.L.getD k []).getD j 0))).store (.C k) hv j (.int .i64 ((T.L.getD k []).getD i 0))).drew
  rw [upS_upS, upS_same, ht.C k, ints_set, ints_set] at M
  have hg : ¬ B g := hm.nB (.C k) g (by rw [hv]; rfl)
  exact ⟨⟨_, M, tie_sw ht k hk _⟩, (((Keep.refl B w).setCell (p := ⟨g, i, none⟩) hg _).setCell (p := ⟨g, j, none⟩) hg _).drew⟩

/-- What 't.watch[side(c[i])] = append(t.watch[side(c[i])], k)' meets. -/
theorem push_facts {w : World} {B : Nat → Prop} {b : Nat} {T : Tr} {val : Sl → Value} (h : TrailV w B b T val) {k g n oc : Nat} {c : List Int} (hc : T.L.getD k [] = c) (hv : val (.C k) = .slice (some ⟨g, 0, none⟩) n oc) (i : Nat) (hi : i < c.length)
    (hz : c.getD i 0 ≠ 0 ∧ -20000 ≤ c.getD i 0 ∧ c.getD i 0 ≤ 20000) (hs : sideN (c.getD i 0) < T.W.length) (hWL : (T.W.getD (sideN (c.getD i 0)) []).length ≤ 900000) :
    ∃ (s0 gw cw wl wn wc : Nat) (wa : Option Addr) (xs : List Value), w.cell? ⟨g, i, none⟩ = some (.int .i64 (c.getD i 0)) ∧ g < w.heap.size ∧ b < w.heap.size ∧ gw < w.heap.size ∧
      w.cell? ⟨b, 1, none⟩ = some (.slice (some ⟨gw, 0, none⟩) wl cw) ∧ w.cell? ⟨gw, s0, none⟩ = some (.slice wa wn wc) ∧ w.frozen? ⟨gw, s0, none⟩ = false ∧ (0 : Int) ≤ (s0 : Int) ∧ (s0 : Int) < (wl : Int) ∧
      Hid (Row (w.drew.alloc (.cells #[.int .i64 k] 3)) 3 1 (.slice wa wn wc) xs) ∧ Hid (xs.length + 1 ≤ 1000000) ∧
      Hid (∀ w', Below w.heap.size w w' → w'.cell? ⟨b, 1, none⟩ = some (.slice (some ⟨gw, 0, none⟩) wl cw) ∧ w'.cell? ⟨g, i, none⟩ = some (.int .i64 (c.getD i 0))) ∧
      Hid (∀ w, Calls Try.prog 59 #[.int .i64 (c.getD i 0)] w fun e w' => e = .returned (.int .i64 (s0 : Nat)) ∧ w' = w) ∧
      Hid (∀ v3 w3, Row w3 3 1 v3 (xs ++ [.int .i64 (k : Nat)]) → Grew (w.drew.alloc (.cells #[.int .i64 (k : Nat)] 3)) w3 (.slice wa wn wc) v3 →
              ∃ a1 l1 n1, v3 = .slice a1 l1 n1 ∧ (w3.cell? ⟨b, 1, none⟩ = some (.slice (some ⟨gw, 0, none⟩) wl cw) ∧ w3.cell? ⟨g, i, none⟩ = some (.int .i64 (c.getD i 0))) ∧ w3.cell? ⟨gw, s0, none⟩ = some (.slice wa wn wc) ∧ w3.frozen? ⟨gw, s0, none⟩ = false ∧
              Hid (Keep B w (w3.setCell ⟨gw, s0, none⟩ (.slice a1 l1 n1)) ∧ ∃ v, TrailV (w3.setCell ⟨gw, s0, none⟩ (.slice a1 l1 n1)) B b (pushT T (sideN (c.getD i 0)) k) (upS val (.W (sideN (c.getD i 0))) v)) ∧
              Hid ((w3.setCell ⟨gw, s0, none⟩ (.slice a1 l1 n1)).cell? ⟨b, 1, none⟩ = some (.slice (some ⟨gw, 0, none⟩) wl cw) ∧ (w3.setCell ⟨gw, s0, none⟩ (.slice a1 l1 n1)).cell? ⟨g, i, none⟩ = some (.int .i64 (c.getD i 0)))) := by
  obtain ⟨s0, hs0⟩ : ∃ s0, sideI (c.getD i 0) = ((s0 : Nat) : Int) := ⟨(sideI (c.getD i 0)).toNat, by unfold sideI; split <;> omega⟩
  have hs1 : sideN (c.getD i 0) = s0 := by unfold sideN; rw [hs0]; rfl
  rw [hs1] at hs hWL ⊢
  have hl := h.lit hc hv i hi
  have hlit : ∀ w', TrailV w' B b T val → w'.cell? ⟨g, i, none⟩ = some (.int .i64 (c.getD i 0)) := fun w' h => (h.lit hc hv i hi).1
  have H0 := h
  obtain ⟨ct, hm, ht⟩ := h
  obtain ⟨gw, cw, wa, wn, wc, ew, cw1, ewj, cwj, ewl, hgw⟩ := watch_at hm ht s0 hs
  have fw := (hm.waCell ew (show (ct .wa)[s0]? = some (.slice wa wn wc) from by rw [ht.wa, List.getElem?_map, List.getElem?_range hs, ← ewj]; rfl)).2
  have RR : Row (w.drew.alloc (.cells #[.int .i64 k] 3)) 3 1 (.slice wa wn wc) (ints (T.W.getD s0 [])) := by
    have R0 := (hm.drew.alloc (.cells #[.int .i64 k] 3)).row (.W s0)
    rw [ewj, ht.W s0] at R0
    exact R0
  refine ⟨s0, gw, cw, T.W.length, wn, wc, wa, _, hl.1, hl.2.2, lt_of_block hm.box, hgw, cw1, cwj, fw, by omega, by omega, Lib.hid RR, Lib.hid (by rw [ints_len]; omega), Lib.hid (fun w' hb => ⟨((hm.below hb (Nat.le_refl _)).bcell 1).trans (by rw [← ew]; rfl), hlit w' (H0.below hb (Nat.le_refl _))⟩), Lib.hid (fun w => by rw [← hs0]; exact side_any _ w (by omega)), Lib.hid ?_⟩
  intro v3 w3 R1 G1
  have M3 := (hm.drew.alloc (.cells #[.int .i64 (k : Nat)] 3)).grew (.W s0) (by rw [ewj]; exact G1) R1
  have c3 : w3.cell? ⟨g, i, none⟩ = some (.int .i64 (c.getD i 0)) := by
    have h2 := M3.row (.C k)
    rw [upS_other _ _ (by simp), upS_other _ _ (by simp), ht.C k, hc, hv] at h2
    obtain ⟨g', oc', e2, _, _, hg, hcl, hf⟩ := h2.at (by rw [ints_len]; omega)
    injection e2 with e2 _ _
    injection e2 with e2
    injection e2 with e2 _ _
    subst e2
    exact hcl i _ (ints_at hi)
  obtain ⟨a1, l1, n1, e1, e2, e3, e4, hh⟩ := push_fact hm ht hs ew ewj v3 w3 R1 G1
  obtain ⟨k1, ct3, m1, t1, q1⟩ := hh.out
  have V3 : TrailV (w3.setCell ⟨gw, s0, none⟩ (.slice a1 l1 n1)) B b (pushT T s0 k) (upS val (.W s0) (.slice a1 l1 n1)) := ⟨ct3, m1, t1⟩
  exact ⟨a1, l1, n1, e1, ⟨e2, c3⟩, e3, e4, Lib.hid ⟨k1, _, V3⟩, Lib.hid ⟨(m1.bcell 1).trans (by rw [← ew]; simp [boxOf, upS]), (V3.lit hc (by rw [upS_other _ _ (by simp)]; exact hv) i hi).1⟩⟩

set_option maxRecDepth 100000 in
set_option maxHeartbeats 4000000 in
theorem other_test_no {w : World} {b g q oc i : Nat} {x y v : Int} (u1 u2 u3 u4 u7 u8 u9 u10 u11 u12 u13 u14 u15 u16 u17 u18 u19 u20 u21 u22 u23 u24 u25 u26 u27 u28 u29 u30 u31 u32 u33 u34 u35 u36 u37 u38 u39 u40 u41 u42 u43 u44 u45 u46 u47 u48 u49 u50 u51 u52 u53 u54 u55 u56 u57 u58 u59 u60 u61 u62 u63 u64 u65 u66 u67 u68 u69 u70 : Value) (Q : Exit → Act → World → Prop) (hi0 : (0 : Int) ≤ (i : Int)) (hi1 : (i : Int) < (q : Int)) (hq : 0 < q) (hx : w.cell? ⟨g, i, none⟩ = some (.int .i64 x)) (hy : w.cell? ⟨g, 0, none⟩ = some (.int .i64 y))
    (HS : Hid (∀ w', Below w.heap.size w w' → w'.cell? ⟨g, i, none⟩ = some (.int .i64 x) ∧ w'.cell? ⟨g, 0, none⟩ = some (.int .i64 y)))
    (HV : Hid (∀ w1, Below w.heap.size w w1 → Calls Try.prog 24 #[.pointer (some ⟨b, 0, none⟩), .int .i64 x] w1 fun e w' => e = .returned (.int .i64 v) ∧ Below w.heap.size w w')) (hd : decide (0 ≤ v) = false)
    (hQ : ∀ (v20 v21 v22 v23 v24 v25 v26 v27 v28 v29 v30 v31 v32 v33 v34 v35 : Value) (w' : World), Below w.heap.size w w' → Q .normal ⟨#[.pointer (some ⟨b, 0, none⟩), u1, u2, u3, u4, .slice (some ⟨g, 0, none⟩) q oc, .int .i64 (i : Nat), u7, u8, u9, u10, u11, u12, u13, u14, u15, u16, u17, u18, u19, v20, v21, v22, v23, v24, v25, v26, v27, v28, v29, v30, v31, v32, v33, v34, v35, .bool false, u37, u38, u39, u40, u41, u42, u43, u44, u45, u46, u47, u48, u49, u50, u51, u52, u53, u54, u55, u56, u57, u58, u59, u60, u61, u62, u63, u64, u65, u66, u67, u68, u69, u70], []⟩ w') :
    (Code.region 5 #[{ dst := some 20, op := Op.move (Operand.tmp 0), type := 26, pos := "trail.go:103", after := #[], guard := none }, { dst := some 21, op := Op.move (Operand.tmp 5), type := 23, pos := "trail.go:103", after := #[], guard := none }, { dst := some 22, op := Op.move (Operand.tmp 6), type := 3, pos := "trail.go:103", after := #[], guard := none }, { dst := some 23, op := Op.indexAddr 23 (Operand.tmp 21) (Operand.tmp 22), type := 0, pos := "trail.go:103", after := #[{ on := 1, ground := Ground.data }, { on := 2, ground := Ground.data }], guard := none }, { dst := some 24, op := Op.load 3 (Operand.tmp 23), type := 3, pos := "trail.go:103", after := #[{ on := 3, ground := Ground.data }], guard := none }, { dst := some 25, op := Op.call { callee := Callee.value (Operand.func 24), args := #[Operand.tmp 20, Operand.tmp 24], argTypes := #[26, 3] }, type := 3, pos := "trail.go:103", after := #[{ on := 0, ground := Ground.data }, { on := 4, ground := Ground.data }], guard := none }, { dst := some 26, op := Op.binOp BinOp.geq 3 (Operand.tmp 25) (Operand.const (Value.int IntKind.i64 0)) 3, type := 4, pos := "trail.go:103", after := #[{ on := 5, ground := Ground.data }], guard := none }, { dst := some 27, op := Op.move (Operand.tmp 26), type := 4, pos := "trail.go:103", after := #[{ on := 6, ground := Ground.data }, { on := 5, ground := Ground.chain }], guard := none }, { dst := some 28, op := Op.move (Operand.tmp 5), type := 23, pos := "trail.go:103", after := #[{ on := 7, ground := Ground.guard }], guard := some (7, true) }, { dst := some 29, op := Op.move (Operand.tmp 6), type := 3, pos := "trail.go:103", after := #[{ on := 7, ground := Ground.guard }], guard := some (7, true) }, { dst := some 30, op := Op.indexAddr 23 (Operand.tmp 28) (Operand.tmp 29), type := 0, pos := "trail.go:103", after := #[{ on := 8, ground := Ground.data }, { on := 9, ground := Ground.data }, { on := 7, ground := Ground.guard }], guard := some (7, true) }, { dst := some 31, op := Op.load 3 (Operand.tmp 30), type := 3, pos := "trail.go:103", after := #[{ on := 10, ground := Ground.data }, { on := 7, ground := Ground.guard }], guard := some (7, true) }, { dst := some 32, op := Op.move (Operand.tmp 5), type := 23, pos := "trail.go:103", after := #[{ on := 7, ground := Ground.guard }], guard := some (7, true) }, { dst := some 33, op := Op.indexAddr 23 (Operand.tmp 32) (Operand.const (Value.int IntKind.i64 0)), type := 0, pos := "trail.go:103", after := #[{ on := 12, ground := Ground.data }, { on := 7, ground := Ground.guard }], guard := some (7, true) }, { dst := some 34, op := Op.load 3 (Operand.tmp 33), type := 3, pos := "trail.go:103", after := #[{ on := 13, ground := Ground.data }, { on := 7, ground := Ground.guard }], guard := some (7, true) }, { dst := some 35, op := Op.binOp BinOp.neq 3 (Operand.tmp 31) (Operand.tmp 34) 3, type := 4, pos := "trail.go:103", after := #[{ on := 11, ground := Ground.data }, { on := 14, ground := Ground.data }, { on := 7, ground := Ground.guard }], guard := some (7, true) }, { dst := some 36, op := Op.pick (Operand.tmp 27) (Operand.tmp 35) (Operand.const (Value.bool false)), type := 4, pos := "trail.go:103", after := #[{ on := 7, ground := Ground.data }, { on := 15, ground := Ground.data }], guard := none }] true).wp Try.prog Q ⟨#[.pointer (some ⟨b, 0, none⟩), u1, u2, u3, u4, .slice (some ⟨g, 0, none⟩) q oc, .int .i64 (i : Nat), u7, u8, u9, u10, u11, u12, u13, u14, u15, u16, u17, u18, u19, u20, u21, u22, u23, u24, u25, u26, u27, u28, u29, u30, u31, u32, u33, u34, u35, u36, u37, u38, u39, u40, u41, u42, u43, u44, u45, u46, u47, u48, u49, u50, u51, u52, u53, u54, u55, u56, u57, u58, u59, u60, u61, u62, u63, u64, u65, u66, u67, u68, u69, u70], []⟩ w := by
  refine wp_region_noPanic ?_
  refine wp_region_held_drew (S := (fun w' => w'.cell? ⟨g, i, none⟩ = some (.int .i64 x) ∧ w'.cell? ⟨g, 0, none⟩ = some (.int .i64 y))) (by kernel_rfl) ?_ (fun hHeld => ?_)
  · (try dsimp only)
    first | (with_reducible exact HS.out _ ((Below.refl _ _).drew)) | (with_reducible exact HS.out _ hb)
  refine wpAnyH_take (i := 0) (v := ?_) rfl (by kernel_rfl) (by kernel_rfl) (by kernel_rfl) (fun _ _ _ h => h) (Or.inl ⟨by kernel_rfl, ?_⟩) (by assumption) ?_
  rotate_left
  · intro w hSw
    (try dsimp only at hSw)
    go_simp
    (try with_reducible rfl)
  (try simp only [Act.put, List.getElem_toArray, List.getElem_cons_zero, List.getElem_cons_succ, List.setIfInBounds_toArray, List.set_cons_zero, List.set_cons_succ])
  refine wpAnyH_take (i := 1) (v := ?_) rfl (by kernel_rfl) (by kernel_rfl) (by kernel_rfl) (fun _ _ _ h => h) (Or.inl ⟨by kernel_rfl, ?_⟩) (by assumption) ?_
  rotate_left
  · intro w hSw
    (try dsimp only at hSw)
    go_simp
    (try with_reducible rfl)
  (try simp only [Act.put, List.getElem_toArray, List.getElem_cons_zero, List.getElem_cons_succ, List.setIfInBounds_toArray, List.set_cons_zero, List.set_cons_succ])
  refine wpAnyH_take (i := 2) (v := ?_) rfl (by kernel_rfl) (by kernel_rfl) (by kernel_rfl) (fun _ _ _ h => h) (Or.inl ⟨by kernel_rfl, ?_⟩) (by assumption) ?_
  rotate_left
  · intro w hSw
    (try dsimp only at hSw)
    go_simp
    (try with_reducible rfl)
  (try simp only [Act.put, List.getElem_toArray, List.getElem_cons_zero, List.getElem_cons_succ, List.setIfInBounds_toArray, List.set_cons_zero, List.set_cons_succ])
  refine wpAnyH_take (i := 3) (v := ?_) rfl (by kernel_rfl) (by kernel_rfl) (by kernel_rfl) (fun _ _ _ h => h) (Or.inl ⟨by kernel_rfl, ?_⟩) (by assumption) ?_
  rotate_left
  · intro w hSw
    (try dsimp only at hSw)
    go_simp
    (try with_reducible rfl)
  (try simp only [Act.put, List.getElem_toArray, List.getElem_cons_zero, List.getElem_cons_succ, List.setIfInBounds_toArray, List.set_cons_zero, List.set_cons_succ])
  refine wpAnyH_take (i := 4) (v := ?_) rfl (by kernel_rfl) (by kernel_rfl) (by kernel_rfl) (fun _ _ _ h => h) (Or.inl ⟨by kernel_rfl, ?_⟩) (by assumption) ?_
  rotate_left
  · intro w hSw
    (try dsimp only at hSw)
    go_simp
    (try with_reducible rfl)
  (try simp only [Act.put, List.getElem_toArray, List.getElem_cons_zero, List.getElem_cons_succ, List.setIfInBounds_toArray, List.set_cons_zero, List.set_cons_succ])
  refine wpAnyH_ready (rs := [5]) (by kernel_rfl) (by simp) ?_
  refine AllReadyH.cons rfl (fun K hK => ?_) ?_
  rotate_left
  exact AllReadyH.nil
  · go_simp
    go_at_call 24
    refine (HV.out _ ((Below.refl _ _).drew)).mono ?_
    rintro e w' ⟨rfl, hb⟩
    (try go_wp2_with fail)
    refine hK.out _ _ ?_ (fun hHeld => ?_)
    · (try dsimp only)
      first | (with_reducible exact HS.out _ ((Below.refl _ _).drew)) | (with_reducible exact HS.out _ hb)
    clear hK K
    (try simp only [Act.put, List.getElem_toArray, List.getElem_cons_zero, List.getElem_cons_succ, List.setIfInBounds_toArray, List.set_cons_zero, List.set_cons_succ])
    refine wpAnyH_take (i := 6) (v := ?_) rfl (by kernel_rfl) (by kernel_rfl) (by kernel_rfl) (fun _ _ _ h => h) (Or.inl ⟨by kernel_rfl, ?_⟩) (by assumption) ?_
    rotate_left
    · intro w hSw
      (try dsimp only at hSw)
      go_simp
      (try with_reducible rfl)
    (try simp only [Act.put, List.getElem_toArray, List.getElem_cons_zero, List.getElem_cons_succ, List.setIfInBounds_toArray, List.set_cons_zero, List.set_cons_succ])
    refine wpAnyH_take (i := 7) (v := ?_) rfl (by kernel_rfl) (by kernel_rfl) (by kernel_rfl) (fun _ _ _ h => h) (Or.inl ⟨by kernel_rfl, ?_⟩) (by assumption) ?_
    rotate_left
    · intro w hSw
      (try dsimp only at hSw)
      go_simp
      (try with_reducible rfl)
    (try simp only [Act.put, List.getElem_toArray, List.getElem_cons_zero, List.getElem_cons_succ, List.setIfInBounds_toArray, List.set_cons_zero, List.set_cons_succ])
    refine wpAnyH_take (i := 8) (v := undef) rfl (by kernel_rfl) (by kernel_rfl) (by kernel_rfl) (fun _ _ _ h => h) (Or.inr ⟨by kernel_rfl, rfl⟩) (by assumption) ?_
    (try simp only [Act.put, List.getElem_toArray, List.getElem_cons_zero, List.getElem_cons_succ, List.setIfInBounds_toArray, List.set_cons_zero, List.set_cons_succ])
    refine wpAnyH_take (i := 9) (v := undef) rfl (by kernel_rfl) (by kernel_rfl) (by kernel_rfl) (fun _ _ _ h => h) (Or.inr ⟨by kernel_rfl, rfl⟩) (by assumption) ?_
    (try simp only [Act.put, List.getElem_toArray, List.getElem_cons_zero, List.getElem_cons_succ, List.setIfInBounds_toArray, List.set_cons_zero, List.set_cons_succ])
    refine wpAnyH_take (i := 10) (v := undef) rfl (by kernel_rfl) (by kernel_rfl) (by kernel_rfl) (fun _ _ _ h => h) (Or.inr ⟨by kernel_rfl, rfl⟩) (by assumption) ?_
    (try simp only [Act.put, List.getElem_toArray, List.getElem_cons_zero, List.getElem_cons_succ, List.setIfInBounds_toArray, List.set_cons_zero, List.set_cons_succ])
    refine wpAnyH_take (i := 11) (v := undef) rfl (by kernel_rfl) (by kernel_rfl) (by kernel_rfl) (fun _ _ _ h => h) (Or.inr ⟨by kernel_rfl, rfl⟩) (by assumption) ?_
    (try simp only [Act.put, List.getElem_toArray, List.getElem_cons_zero, List.getElem_cons_succ, List.setIfInBounds_toArray, List.set_cons_zero, List.set_cons_succ])
    refine wpAnyH_take (i := 12) (v := undef) rfl (by kernel_rfl) (by kernel_rfl) (by kernel_rfl) (fun _ _ _ h => h) (Or.inr ⟨by kernel_rfl, rfl⟩) (by assumption) ?_
    (try simp only [Act.put, List.getElem_toArray, List.getElem_cons_zero, List.getElem_cons_succ, List.setIfInBounds_toArray, List.set_cons_zero, List.set_cons_succ])
    refine wpAnyH_take (i := 13) (v := undef) rfl (by kernel_rfl) (by kernel_rfl) (by kernel_rfl) (fun _ _ _ h => h) (Or.inr ⟨by kernel_rfl, rfl⟩) (by assumption) ?_
    (try simp only [Act.put, List.getElem_toArray, List.getElem_cons_zero, List.getElem_cons_succ, List.setIfInBounds_toArray, List.set_cons_zero, List.set_cons_succ])
    refine wpAnyH_take (i := 14) (v := undef) rfl (by kernel_rfl) (by kernel_rfl) (by kernel_rfl) (fun _ _ _ h => h) (Or.inr ⟨by kernel_rfl, rfl⟩) (by assumption) ?_
    (try simp only [Act.put, List.getElem_toArray, List.getElem_cons_zero, List.getElem_cons_succ, List.setIfInBounds_toArray, List.set_cons_zero, List.set_cons_succ])
    refine wpAnyH_take (i := 15) (v := undef) rfl (by kernel_rfl) (by kernel_rfl) (by kernel_rfl) (fun _ _ _ h => h) (Or.inr ⟨by kernel_rfl, rfl⟩) (by assumption) ?_
    (try simp only [Act.put, List.getElem_toArray, List.getElem_cons_zero, List.getElem_cons_succ, List.setIfInBounds_toArray, List.set_cons_zero, List.set_cons_succ])
    refine wpAnyH_take (i := 16) (v := ?_) rfl (by kernel_rfl) (by kernel_rfl) (by kernel_rfl) (fun _ _ _ h => h) (Or.inl ⟨by kernel_rfl, ?_⟩) (by assumption) ?_
    rotate_left
    · intro w hSw
      (try dsimp only at hSw)
      go_simp
      (try with_reducible rfl)
    (try simp only [Act.put, List.getElem_toArray, List.getElem_cons_zero, List.getElem_cons_succ, List.setIfInBounds_toArray, List.set_cons_zero, List.set_cons_succ])
    refine wpAnyH_done (by kernel_rfl) ?_ _
    refine NoPanic.normal ?_
    exact hQ _ _ _ _ _ _ _ _ _ _ _ _ _ _ _ _ _ hb

set_option maxRecDepth 100000 in
set_option maxHeartbeats 4000000 in
theorem other_test {w : World} {b g q oc i : Nat} {x y v : Int} (u1 u2 u3 u4 u7 u8 u9 u10 u11 u12 u13 u14 u15 u16 u17 u18 u19 u20 u21 u22 u23 u24 u25 u26 u27 u28 u29 u30 u31 u32 u33 u34 u35 u36 u37 u38 u39 u40 u41 u42 u43 u44 u45 u46 u47 u48 u49 u50 u51 u52 u53 u54 u55 u56 u57 u58 u59 u60 u61 u62 u63 u64 u65 u66 u67 u68 u69 u70 : Value) (Q : Exit → Act → World → Prop) (hi0 : (0 : Int) ≤ (i : Int)) (hi1 : (i : Int) < (q : Int)) (hq : 0 < q) (hx : w.cell? ⟨g, i, none⟩ = some (.int .i64 x)) (hy : w.cell? ⟨g, 0, none⟩ = some (.int .i64 y))
    (HS : Hid (∀ w', Below w.heap.size w w' → w'.cell? ⟨g, i, none⟩ = some (.int .i64 x) ∧ w'.cell? ⟨g, 0, none⟩ = some (.int .i64 y)))
    (HV : Hid (∀ w1, Below w.heap.size w w1 → Calls Try.prog 24 #[.pointer (some ⟨b, 0, none⟩), .int .i64 x] w1 fun e w' => e = .returned (.int .i64 v) ∧ Below w.heap.size w w')) (hd : decide (0 ≤ v) = true)
    (hQ : ∀ (v20 v21 v22 v23 v24 v25 v26 v27 v28 v29 v30 v31 v32 v33 v34 v35 : Value) (w' : World), Below w.heap.size w w' → Q .normal ⟨#[.pointer (some ⟨b, 0, none⟩), u1, u2, u3, u4, .slice (some ⟨g, 0, none⟩) q oc, .int .i64 (i : Nat), u7, u8, u9, u10, u11, u12, u13, u14, u15, u16, u17, u18, u19, v20, v21, v22, v23, v24, v25, v26, v27, v28, v29, v30, v31, v32, v33, v34, v35, .bool (x != y), u37, u38, u39, u40, u41, u42, u43, u44, u45, u46, u47, u48, u49, u50, u51, u52, u53, u54, u55, u56, u57, u58, u59, u60, u61, u62, u63, u64, u65, u66, u67, u68, u69, u70], []⟩ w') :
    (Code.region 5 #[{ dst := some 20, op := Op.move (Operand.tmp 0), type := 26, pos := "trail.go:103", after := #[], guard := none }, { dst := some 21, op := Op.move (Operand.tmp 5), type := 23, pos := "trail.go:103", after := #[], guard := none }, { dst := some 22, op := Op.move (Operand.tmp 6), type := 3, pos := "trail.go:103", after := #[], guard := none }, { dst := some 23, op := Op.indexAddr 23 (Operand.tmp 21) (Operand.tmp 22), type := 0, pos := "trail.go:103", after := #[{ on := 1, ground := Ground.data }, { on := 2, ground := Ground.data }], guard := none }, { dst := some 24, op := Op.load 3 (Operand.tmp 23), type := 3, pos := "trail.go:103", after := #[{ on := 3, ground := Ground.data }], guard := none }, { dst := some 25, op := Op.call { callee := Callee.value (Operand.func 24), args := #[Operand.tmp 20, Operand.tmp 24], argTypes := #[26, 3] }, type := 3, pos := "trail.go:103", after := #[{ on := 0, ground := Ground.data }, { on := 4, ground := Ground.data }], guard := none }, { dst := some 26, op := Op.binOp BinOp.geq 3 (Operand.tmp 25) (Operand.const (Value.int IntKind.i64 0)) 3, type := 4, pos := "trail.go:103", after := #[{ on := 5, ground := Ground.data }], guard := none }, { dst := some 27, op := Op.move (Operand.tmp 26), type := 4, pos := "trail.go:103", after := #[{ on := 6, ground := Ground.data }, { on := 5, ground := Ground.chain }], guard := none }, { dst := some 28, op := Op.move (Operand.tmp 5), type := 23, pos := "trail.go:103", after := #[{ on := 7, ground := Ground.guard }], guard := some (7, true) }, { dst := some 29, op := Op.move (Operand.tmp 6), type := 3, pos := "trail.go:103", after := #[{ on := 7, ground := Ground.guard }], guard := some (7, true) }, { dst := some 30, op := Op.indexAddr 23 (Operand.tmp 28) (Operand.tmp 29), type := 0, pos := "trail.go:103", after := #[{ on := 8, ground := Ground.data }, { on := 9, ground := Ground.data }, { on := 7, ground := Ground.guard }], guard := some (7, true) }, { dst := some 31, op := Op.load 3 (Operand.tmp 30), type := 3, pos := "trail.go:103", after := #[{ on := 10, ground := Ground.data }, { on := 7, ground := Ground.guard }], guard := some (7, true) }, { dst := some 32, op := Op.move (Operand.tmp 5), type := 23, pos := "trail.go:103", after := #[{ on := 7, ground := Ground.guard }], guard := some (7, true) }, { dst := some 33, op := Op.indexAddr 23 (Operand.tmp 32) (Operand.const (Value.int IntKind.i64 0)), type := 0, pos := "trail.go:103", after := #[{ on := 12, ground := Ground.data }, { on := 7, ground := Ground.guard }], guard := some (7, true) }, { dst := some 34, op := Op.load 3 (Operand.tmp 33), type := 3, pos := "trail.go:103", after := #[{ on := 13, ground := Ground.data }, { on := 7, ground := Ground.guard }], guard := some (7, true) }, { dst := some 35, op := Op.binOp BinOp.neq 3 (Operand.tmp 31) (Operand.tmp 34) 3, type := 4, pos := "trail.go:103", after := #[{ on := 11, ground := Ground.data }, { on := 14, ground := Ground.data }, { on := 7, ground := Ground.guard }], guard := some (7, true) }, { dst := some 36, op := Op.pick (Operand.tmp 27) (Operand.tmp 35) (Operand.const (Value.bool false)), type := 4, pos := "trail.go:103", after := #[{ on := 7, ground := Ground.data }, { on := 15, ground := Ground.data }], guard := none }] true).wp Try.prog Q ⟨#[.pointer (some ⟨b, 0, none⟩), u1, u2, u3, u4, .slice (some ⟨g, 0, none⟩) q oc, .int .i64 (i : Nat), u7, u8, u9, u10, u11, u12, u13, u14, u15, u16, u17, u18, u19, u20, u21, u22, u23, u24, u25, u26, u27, u28, u29, u30, u31, u32, u33, u34, u35, u36, u37, u38, u39, u40, u41, u42, u43, u44, u45, u46, u47, u48, u49, u50, u51, u52, u53, u54, u55, u56, u57, u58, u59, u60, u61, u62, u63, u64, u65, u66, u67, u68, u69, u70], []⟩ w := by
  refine wp_region_noPanic ?_
  refine wp_region_held_drew (S := (fun w' => w'.cell? ⟨g, i, none⟩ = some (.int .i64 x) ∧ w'.cell? ⟨g, 0, none⟩ = some (.int .i64 y))) (by kernel_rfl) ?_ (fun hHeld => ?_)
  · (try dsimp only)
    first | (with_reducible exact HS.out _ ((Below.refl _ _).drew)) | (with_reducible exact HS.out _ hb)
  refine wpAnyH_take (i := 0) (v := ?_) rfl (by kernel_rfl) (by kernel_rfl) (by kernel_rfl) (fun _ _ _ h => h) (Or.inl ⟨by kernel_rfl, ?_⟩) (by assumption) ?_
  rotate_left
  · intro w hSw
    (try dsimp only at hSw)
    go_simp
    (try with_reducible rfl)
  (try simp only [Act.put, List.getElem_toArray, List.getElem_cons_zero, List.getElem_cons_succ, List.setIfInBounds_toArray, List.set_cons_zero, List.set_cons_succ])
  refine wpAnyH_take (i := 1) (v := ?_) rfl (by kernel_rfl) (by kernel_rfl) (by kernel_rfl) (fun _ _ _ h => h) (Or.inl ⟨by kernel_rfl, ?_⟩) (by assumption) ?_
  rotate_left
  · intro w hSw
    (try dsimp only at hSw)
    go_simp
    (try with_reducible rfl)
  (try simp only [Act.put, List.getElem_toArray, List.getElem_cons_zero, List.getElem_cons_succ, List.setIfInBounds_toArray, List.set_cons_zero, List.set_cons_succ])
  refine wpAnyH_take (i := 2) (v := ?_) rfl (by kernel_rfl) (by kernel_rfl) (by kernel_rfl) (fun _ _ _ h => h) (Or.inl ⟨by kernel_rfl, ?_⟩) (by assumption) ?_
  rotate_left
  · intro w hSw
    (try dsimp only at hSw)
    go_simp
    (try with_reducible rfl)
  (try simp only [Act.put, List.getElem_toArray, List.getElem_cons_zero, List.getElem_cons_succ, List.setIfInBounds_toArray, List.set_cons_zero, List.set_cons_succ])
  refine wpAnyH_take (i := 3) (v := ?_) rfl (by kernel_rfl) (by kernel_rfl) (by kernel_rfl) (fun _ _ _ h => h) (Or.inl ⟨by kernel_rfl, ?_⟩) (by assumption) ?_
  rotate_left
  · intro w hSw
    (try dsimp only at hSw)
    go_simp
    (try with_reducible rfl)
  (try simp only [Act.put, List.getElem_toArray, List.getElem_cons_zero, List.getElem_cons_succ, List.setIfInBounds_toArray, List.set_cons_zero, List.set_cons_succ])
  refine wpAnyH_take (i := 4) (v := ?_) rfl (by kernel_rfl) (by kernel_rfl) (by kernel_rfl) (fun _ _ _ h => h) (Or.inl ⟨by kernel_rfl, ?_⟩) (by assumption) ?_
  rotate_left
  · intro w hSw
    (try dsimp only at hSw)
    go_simp
    (try with_reducible rfl)
  (try simp only [Act.put, List.getElem_toArray, List.getElem_cons_zero, List.getElem_cons_succ, List.setIfInBounds_toArray, List.set_cons_zero, List.set_cons_succ])
  refine wpAnyH_ready (rs := [5]) (by kernel_rfl) (by simp) ?_
  refine AllReadyH.cons rfl (fun K hK => ?_) ?_
  rotate_left
  exact AllReadyH.nil
  · go_simp
    go_at_call 24
    refine (HV.out _ ((Below.refl _ _).drew)).mono ?_
    rintro e w' ⟨rfl, hb⟩
    (try go_wp2_with fail)
    refine hK.out _ _ ?_ (fun hHeld => ?_)
    · (try dsimp only)
      first | (with_reducible exact HS.out _ ((Below.refl _ _).drew)) | (with_reducible exact HS.out _ hb)
    clear hK K
    (try simp only [Act.put, List.getElem_toArray, List.getElem_cons_zero, List.getElem_cons_succ, List.setIfInBounds_toArray, List.set_cons_zero, List.set_cons_succ])
    refine wpAnyH_take (i := 6) (v := ?_) rfl (by kernel_rfl) (by kernel_rfl) (by kernel_rfl) (fun _ _ _ h => h) (Or.inl ⟨by kernel_rfl, ?_⟩) (by assumption) ?_
    rotate_left
    · intro w hSw
      (try dsimp only at hSw)
      go_simp
      (try with_reducible rfl)
    (try simp only [Act.put, List.getElem_toArray, List.getElem_cons_zero, List.getElem_cons_succ, List.setIfInBounds_toArray, List.set_cons_zero, List.set_cons_succ])
    refine wpAnyH_take (i := 7) (v := ?_) rfl (by kernel_rfl) (by kernel_rfl) (by kernel_rfl) (fun _ _ _ h => h) (Or.inl ⟨by kernel_rfl, ?_⟩) (by assumption) ?_
    rotate_left
    · intro w hSw
      (try dsimp only at hSw)
      go_simp
      (try with_reducible rfl)
    (try simp only [Act.put, List.getElem_toArray, List.getElem_cons_zero, List.getElem_cons_succ, List.setIfInBounds_toArray, List.set_cons_zero, List.set_cons_succ])
    refine wpAnyH_take (i := 8) (v := ?_) rfl (by kernel_rfl) (by kernel_rfl) (by kernel_rfl) (fun _ _ _ h => h) (Or.inl ⟨by kernel_rfl, ?_⟩) (by assumption) ?_
    rotate_left
    · intro w hSw
      (try dsimp only at hSw)
      go_simp
      (try with_reducible rfl)
    (try simp only [Act.put, List.getElem_toArray, List.getElem_cons_zero, List.getElem_cons_succ, List.setIfInBounds_toArray, List.set_cons_zero, List.set_cons_succ])
    refine wpAnyH_take (i := 9) (v := ?_) rfl (by kernel_rfl) (by kernel_rfl) (by kernel_rfl) (fun _ _ _ h => h) (Or.inl ⟨by kernel_rfl, ?_⟩) (by assumption) ?_
    rotate_left
    · intro w hSw
      (try dsimp only at hSw)
      go_simp
      (try with_reducible rfl)
    (try simp only [Act.put, List.getElem_toArray, List.getElem_cons_zero, List.getElem_cons_succ, List.setIfInBounds_toArray, List.set_cons_zero, List.set_cons_succ])
    refine wpAnyH_take (i := 10) (v := ?_) rfl (by kernel_rfl) (by kernel_rfl) (by kernel_rfl) (fun _ _ _ h => h) (Or.inl ⟨by kernel_rfl, ?_⟩) (by assumption) ?_
    rotate_left
    · intro w hSw
      (try dsimp only at hSw)
      go_simp
      (try with_reducible rfl)
    (try simp only [Act.put, List.getElem_toArray, List.getElem_cons_zero, List.getElem_cons_succ, List.setIfInBounds_toArray, List.set_cons_zero, List.set_cons_succ])
    refine wpAnyH_take (i := 11) (v := ?_) rfl (by kernel_rfl) (by kernel_rfl) (by kernel_rfl) (fun _ _ _ h => h) (Or.inl ⟨by kernel_rfl, ?_⟩) (by assumption) ?_
    rotate_left
    · intro w hSw
      (try dsimp only at hSw)
      go_simp
      (try with_reducible rfl)
    (try simp only [Act.put, List.getElem_toArray, List.getElem_cons_zero, List.getElem_cons_succ, List.setIfInBounds_toArray, List.set_cons_zero, List.set_cons_succ])
    refine wpAnyH_take (i := 12) (v := ?_) rfl (by kernel_rfl) (by kernel_rfl) (by kernel_rfl) (fun _ _ _ h => h) (Or.inl ⟨by kernel_rfl, ?_⟩) (by assumption) ?_
    rotate_left
    · intro w hSw
      (try dsimp only at hSw)
      go_simp
      (try with_reducible rfl)
    (try simp only [Act.put, List.getElem_toArray, List.getElem_cons_zero, List.getElem_cons_succ, List.setIfInBounds_toArray, List.set_cons_zero, List.set_cons_succ])
    refine wpAnyH_take (i := 13) (v := ?_) rfl (by kernel_rfl) (by kernel_rfl) (by kernel_rfl) (fun _ _ _ h => h) (Or.inl ⟨by kernel_rfl, ?_⟩) (by assumption) ?_
    rotate_left
    · intro w hSw
      (try dsimp only at hSw)
      go_simp
      (try with_reducible rfl)
    (try simp only [Act.put, List.getElem_toArray, List.getElem_cons_zero, List.getElem_cons_succ, List.setIfInBounds_toArray, List.set_cons_zero, List.set_cons_succ])
    refine wpAnyH_take (i := 14) (v := ?_) rfl (by kernel_rfl) (by kernel_rfl) (by kernel_rfl) (fun _ _ _ h => h) (Or.inl ⟨by kernel_rfl, ?_⟩) (by assumption) ?_
    rotate_left
    · intro w hSw
      (try dsimp only at hSw)
      go_simp
      (try with_reducible rfl)
    (try simp only [Act.put, List.getElem_toArray, List.getElem_cons_zero, List.getElem_cons_succ, List.setIfInBounds_toArray, List.set_cons_zero, List.set_cons_succ])
    refine wpAnyH_take (i := 15) (v := ?_) rfl (by kernel_rfl) (by kernel_rfl) (by kernel_rfl) (fun _ _ _ h => h) (Or.inl ⟨by kernel_rfl, ?_⟩) (by assumption) ?_
    rotate_left
    · intro w hSw
      (try dsimp only at hSw)
      go_simp
      (try with_reducible rfl)
    (try simp only [Act.put, List.getElem_toArray, List.getElem_cons_zero, List.getElem_cons_succ, List.setIfInBounds_toArray, List.set_cons_zero, List.set_cons_succ])
    refine wpAnyH_take (i := 16) (v := ?_) rfl (by kernel_rfl) (by kernel_rfl) (by kernel_rfl) (fun _ _ _ h => h) (Or.inl ⟨by kernel_rfl, ?_⟩) (by assumption) ?_
    rotate_left
    · intro w hSw
      (try dsimp only at hSw)
      go_simp
      (try with_reducible rfl)
    (try simp only [Act.put, List.getElem_toArray, List.getElem_cons_zero, List.getElem_cons_succ, List.setIfInBounds_toArray, List.set_cons_zero, List.set_cons_succ])
    refine wpAnyH_done (by kernel_rfl) ?_ _
    refine NoPanic.normal ?_
    exact hQ _ _ _ _ _ _ _ _ _ _ _ _ _ _ _ _ _ hb

set_option maxRecDepth 100000 in
set_option maxHeartbeats 4000000 in
theorem other_push {w : World} {R : World → Prop} {b g q oc k : Nat} {z : Int} {s0 gw cw wl wn wc : Nat} {wa : Option Addr} {xs : List Value} (u2 u3 u4 u6 u7 u8 u9 u10 u11 u12 u13 u14 u15 u16 u17 u18 u19 u20 u21 u22 u23 u24 u25 u26 u27 u28 u29 u30 u31 u32 u33 u34 u35 u36 u37 u38 u39 u40 u41 u42 u43 u44 u45 u46 u47 u48 u49 u50 u51 u52 u53 u54 u55 u56 u57 u58 u59 u60 u61 u62 u63 u64 u65 u66 u67 u68 u69 u70 : Value) (Q : Exit → Act → World → Prop) (hbW : b < w.heap.size) (hgW : g < w.heap.size) (hgw : gw < w.heap.size) (hq : (1 : Int) < (q : Int)) (hq1 : 1 < q) (cg : w.cell? ⟨g, 1, none⟩ = some (.int .i64 z)) (cw1 : w.cell? ⟨b, 1, none⟩ = some (.slice (some ⟨gw, 0, none⟩) wl cw)) (cwj : w.cell? ⟨gw, s0, none⟩ = some (.slice wa wn wc)) (fw : w.frozen? ⟨gw, s0, none⟩ = false) (hb0 : (0 : Int) ≤ (s0 : Int)) (hb1 : (s0 : Int) < (wl : Int))
    (RR : Hid (Row (w.drew.alloc (.cells #[.int .i64 k] 3)) 3 1 (.slice wa wn wc) xs)) (RL : Hid (xs.length + 1 ≤ 1000000)) (HA : Hid (∀ w', Below w.heap.size w w' → w'.cell? ⟨b, 1, none⟩ = some (.slice (some ⟨gw, 0, none⟩) wl cw) ∧ w'.cell? ⟨g, 1, none⟩ = some (.int .i64 z)))
    (HSD : Hid (∀ w, Calls Try.prog 59 #[.int .i64 z] w fun e w' => e = .returned (.int .i64 (s0 : Nat)) ∧ w' = w))
    (PK : Hid (∀ v3 w3, Row w3 3 1 v3 (xs ++ [.int .i64 (k : Nat)]) → Grew (w.drew.alloc (.cells #[.int .i64 (k : Nat)] 3)) w3 (.slice wa wn wc) v3 →
              ∃ a1 l1 n1, v3 = .slice a1 l1 n1 ∧ (w3.cell? ⟨b, 1, none⟩ = some (.slice (some ⟨gw, 0, none⟩) wl cw) ∧ w3.cell? ⟨g, 1, none⟩ = some (.int .i64 z)) ∧ w3.cell? ⟨gw, s0, none⟩ = some (.slice wa wn wc) ∧ w3.frozen? ⟨gw, s0, none⟩ = false ∧
              R (w3.setCell ⟨gw, s0, none⟩ (.slice a1 l1 n1)) ∧ Hid ((w3.setCell ⟨gw, s0, none⟩ (.slice a1 l1 n1)).cell? ⟨b, 1, none⟩ = some (.slice (some ⟨gw, 0, none⟩) wl cw) ∧ (w3.setCell ⟨gw, s0, none⟩ (.slice a1 l1 n1)).cell? ⟨g, 1, none⟩ = some (.int .i64 z))))
    (hQ : ∀ (v49 v50 v51 v52 v53 v54 v55 v56 v57 v58 v59 v60 v61 v62 v63 v64 v65 v66 v67 v68 v69 v70 : Value) (w' : World), R w' → Q .normal ⟨#[.pointer (some ⟨b, 0, none⟩), .int .i64 (k : Nat), u2, u3, u4, .slice (some ⟨g, 0, none⟩) q oc, u6, u7, u8, u9, u10, u11, u12, u13, u14, u15, u16, u17, u18, u19, u20, u21, u22, u23, u24, u25, u26, u27, u28, u29, u30, u31, u32, u33, u34, u35, u36, u37, u38, u39, u40, u41, u42, u43, u44, u45, u46, u47, u48, v49, v50, v51, v52, v53, v54, v55, v56, v57, v58, v59, v60, v61, v62, v63, v64, v65, v66, v67, v68, v69, v70], []⟩ w') :
    (Code.region 7 #[{ dst := some 49, op := Op.move (Operand.tmp 0), type := 26, pos := "trail.go:105", after := #[], guard := none }, { dst := some 50, op := Op.nilCheck (Operand.tmp 49), type := 0, pos := "trail.go:105", after := #[{ on := 0, ground := Ground.data }], guard := none }, { dst := some 51, op := Op.fieldAddr 62 (Operand.tmp 50) 1, type := 0, pos := "trail.go:105", after := #[{ on := 1, ground := Ground.data }], guard := none }, { dst := some 52, op := Op.load 22 (Operand.tmp 51), type := 22, pos := "trail.go:105", after := #[{ on := 2, ground := Ground.data }], guard := none }, { dst := some 53, op := Op.move (Operand.tmp 5), type := 23, pos := "trail.go:105", after := #[], guard := none }, { dst := some 54, op := Op.indexAddr 23 (Operand.tmp 53) (Operand.const (Value.int IntKind.i64 1)), type := 0, pos := "trail.go:105", after := #[{ on := 4, ground := Ground.data }], guard := none }, { dst := some 55, op := Op.load 3 (Operand.tmp 54), type := 3, pos := "trail.go:105", after := #[{ on := 5, ground := Ground.data }], guard := none }, { dst := some 56, op := Op.call { callee := Callee.value (Operand.func 59), args := #[Operand.tmp 55], argTypes := #[3] }, type := 3, pos := "trail.go:105", after := #[{ on := 6, ground := Ground.data }], guard := none }, { dst := some 57, op := Op.move (Operand.tmp 0), type := 26, pos := "trail.go:105", after := #[], guard := none }, { dst := some 58, op := Op.nilCheck (Operand.tmp 57), type := 0, pos := "trail.go:105", after := #[{ on := 8, ground := Ground.data }], guard := none }, { dst := some 59, op := Op.fieldAddr 62 (Operand.tmp 58) 1, type := 0, pos := "trail.go:105", after := #[{ on := 9, ground := Ground.data }], guard := none }, { dst := some 60, op := Op.load 22 (Operand.tmp 59), type := 22, pos := "trail.go:105", after := #[{ on := 10, ground := Ground.data }], guard := none }, { dst := some 61, op := Op.move (Operand.tmp 5), type := 23, pos := "trail.go:105", after := #[], guard := none }, { dst := some 62, op := Op.indexAddr 23 (Operand.tmp 61) (Operand.const (Value.int IntKind.i64 1)), type := 0, pos := "trail.go:105", after := #[{ on := 12, ground := Ground.data }], guard := none }, { dst := some 63, op := Op.load 3 (Operand.tmp 62), type := 3, pos := "trail.go:105", after := #[{ on := 13, ground := Ground.data }], guard := none }, { dst := some 64, op := Op.call { callee := Callee.value (Operand.func 59), args := #[Operand.tmp 63], argTypes := #[3] }, type := 3, pos := "trail.go:105", after := #[{ on := 14, ground := Ground.data }, { on := 7, ground := Ground.chain }], guard := none }, { dst := some 65, op := Op.indexAddr 22 (Operand.tmp 60) (Operand.tmp 64), type := 0, pos := "trail.go:105", after := #[{ on := 11, ground := Ground.data }, { on := 15, ground := Ground.data }], guard := none }, { dst := some 66, op := Op.load 23 (Operand.tmp 65), type := 23, pos := "trail.go:105", after := #[{ on := 16, ground := Ground.data }], guard := none }, { dst := some 67, op := Op.move (Operand.tmp 1), type := 3, pos := "trail.go:105", after := #[], guard := none }, { dst := some 68, op := Op.buildSlice 23 1 #[(0, Operand.tmp 67)], type := 23, pos := "trail.go:105", after := #[{ on := 18, ground := Ground.data }], guard := none }, { dst := some 69, op := Op.call { callee := Callee.builtin Builtin.append, args := #[Operand.tmp 66, Operand.tmp 68], argTypes := #[23, 23] }, type := 23, pos := "trail.go:105", after := #[{ on := 17, ground := Ground.data }, { on := 19, ground := Ground.data }, { on := 15, ground := Ground.chain }], guard := none }, { dst := some 70, op := Op.indexAddr 22 (Operand.tmp 52) (Operand.tmp 56), type := 0, pos := "trail.go:105", after := #[{ on := 3, ground := Ground.data }, { on := 7, ground := Ground.data }, { on := 0, ground := Ground.phase }, { on := 1, ground := Ground.phase }, { on := 2, ground := Ground.phase }, { on := 3, ground := Ground.phase }, { on := 4, ground := Ground.phase }, { on := 5, ground := Ground.phase }, { on := 6, ground := Ground.phase }, { on := 7, ground := Ground.phase }, { on := 8, ground := Ground.phase }, { on := 9, ground := Ground.phase }, { on := 10, ground := Ground.phase }, { on := 11, ground := Ground.phase }, { on := 12, ground := Ground.phase }, { on := 13, ground := Ground.phase }, { on := 14, ground := Ground.phase }, { on := 15, ground := Ground.phase }, { on := 16, ground := Ground.phase }, { on := 17, ground := Ground.phase }, { on := 18, ground := Ground.phase }, { on := 19, ground := Ground.phase }, { on := 20, ground := Ground.phase }], guard := none }, { dst := none, op := Op.store 23 (Operand.tmp 70) (Operand.tmp 69), type := 0, pos := "trail.go:105", after := #[{ on := 21, ground := Ground.data }, { on := 20, ground := Ground.data }, { on := 20, ground := Ground.chain }, { on := 0, ground := Ground.phase }, { on := 1, ground := Ground.phase }, { on := 2, ground := Ground.phase }, { on := 3, ground := Ground.phase }, { on := 4, ground := Ground.phase }, { on := 5, ground := Ground.phase }, { on := 6, ground := Ground.phase }, { on := 7, ground := Ground.phase }, { on := 8, ground := Ground.phase }, { on := 9, ground := Ground.phase }, { on := 10, ground := Ground.phase }, { on := 11, ground := Ground.phase }, { on := 12, ground := Ground.phase }, { on := 13, ground := Ground.phase }, { on := 14, ground := Ground.phase }, { on := 15, ground := Ground.phase }, { on := 16, ground := Ground.phase }, { on := 17, ground := Ground.phase }, { on := 18, ground := Ground.phase }, { on := 19, ground := Ground.phase }, { on := 20, ground := Ground.phase }], guard := none }] true).wp Try.prog Q ⟨#[.pointer (some ⟨b, 0, none⟩), .int .i64 (k : Nat), u2, u3, u4, .slice (some ⟨g, 0, none⟩) q oc, u6, u7, u8, u9, u10, u11, u12, u13, u14, u15, u16, u17, u18, u19, u20, u21, u22, u23, u24, u25, u26, u27, u28, u29, u30, u31, u32, u33, u34, u35, u36, u37, u38, u39, u40, u41, u42, u43, u44, u45, u46, u47, u48, u49, u50, u51, u52, u53, u54, u55, u56, u57, u58, u59, u60, u61, u62, u63, u64, u65, u66, u67, u68, u69, u70], []⟩ w := by
  refine wp_region_noPanic ?_
  refine wp_region_held_drew (S := (fun w' => w'.cell? ⟨b, 1, none⟩ = some (.slice (some ⟨gw, 0, none⟩) wl cw) ∧ w'.cell? ⟨g, 1, none⟩ = some (.int .i64 z))) (by kernel_rfl) ?_ (fun hHeld => ?_)
  · (try dsimp only)
    first | (with_reducible assumption) | (with_reducible exact HFB.out) | (with_reducible exact HA.out _ (((Below.refl _ _).alloc (Nat.le_refl _) _).drew)) | (with_reducible exact HA.out _ ((Below.refl _ _).drew)) | (with_reducible exact HA.out _ (Below.refl _ _))
  refine wpAnyH_take (i := 0) (v := ?_) rfl (by kernel_rfl) (by kernel_rfl) (by kernel_rfl) (fun _ _ _ h => h) (Or.inl ⟨by kernel_rfl, ?_⟩) (by assumption) ?_
  rotate_left
  · intro w hSw
    (try dsimp only at hSw)
    go_simp
    (try with_reducible rfl)
  (try simp only [Act.put, List.getElem_toArray, List.getElem_cons_zero, List.getElem_cons_succ, List.setIfInBounds_toArray, List.set_cons_zero, List.set_cons_succ])
  refine wpAnyH_take (i := 1) (v := ?_) rfl (by kernel_rfl) (by kernel_rfl) (by kernel_rfl) (fun _ _ _ h => h) (Or.inl ⟨by kernel_rfl, ?_⟩) (by assumption) ?_
  rotate_left
  · intro w hSw
    (try dsimp only at hSw)
    go_simp
    (try with_reducible rfl)
  (try simp only [Act.put, List.getElem_toArray, List.getElem_cons_zero, List.getElem_cons_succ, List.setIfInBounds_toArray, List.set_cons_zero, List.set_cons_succ])
  refine wpAnyH_take (i := 2) (v := ?_) rfl (by kernel_rfl) (by kernel_rfl) (by kernel_rfl) (fun _ _ _ h => h) (Or.inl ⟨by kernel_rfl, ?_⟩) (by assumption) ?_
  rotate_left
  · intro w hSw
    (try dsimp only at hSw)
    go_simp
    (try with_reducible rfl)
  (try simp only [Act.put, List.getElem_toArray, List.getElem_cons_zero, List.getElem_cons_succ, List.setIfInBounds_toArray, List.set_cons_zero, List.set_cons_succ])
  refine wpAnyH_take (i := 3) (v := ?_) rfl (by kernel_rfl) (by kernel_rfl) (by kernel_rfl) (fun _ _ _ h => h) (Or.inl ⟨by kernel_rfl, ?_⟩) (by assumption) ?_
  rotate_left
  · intro w hSw
    (try dsimp only at hSw)
    go_simp
    (try with_reducible rfl)
  (try simp only [Act.put, List.getElem_toArray, List.getElem_cons_zero, List.getElem_cons_succ, List.setIfInBounds_toArray, List.set_cons_zero, List.set_cons_succ])
  refine wpAnyH_take (i := 4) (v := ?_) rfl (by kernel_rfl) (by kernel_rfl) (by kernel_rfl) (fun _ _ _ h => h) (Or.inl ⟨by kernel_rfl, ?_⟩) (by assumption) ?_
  rotate_left
  · intro w hSw
    (try dsimp only at hSw)
    go_simp
    (try with_reducible rfl)
  (try simp only [Act.put, List.getElem_toArray, List.getElem_cons_zero, List.getElem_cons_succ, List.setIfInBounds_toArray, List.set_cons_zero, List.set_cons_succ])
  refine wpAnyH_take (i := 5) (v := ?_) rfl (by kernel_rfl) (by kernel_rfl) (by kernel_rfl) (fun _ _ _ h => h) (Or.inl ⟨by kernel_rfl, ?_⟩) (by assumption) ?_
  rotate_left
  · intro w hSw
    (try dsimp only at hSw)
    go_simp
    (try with_reducible rfl)
  (try simp only [Act.put, List.getElem_toArray, List.getElem_cons_zero, List.getElem_cons_succ, List.setIfInBounds_toArray, List.set_cons_zero, List.set_cons_succ])
  refine wpAnyH_take (i := 6) (v := ?_) rfl (by kernel_rfl) (by kernel_rfl) (by kernel_rfl) (fun _ _ _ h => h) (Or.inl ⟨by kernel_rfl, ?_⟩) (by assumption) ?_
  rotate_left
  · intro w hSw
    (try dsimp only at hSw)
    go_simp
    (try with_reducible rfl)
  (try simp only [Act.put, List.getElem_toArray, List.getElem_cons_zero, List.getElem_cons_succ, List.setIfInBounds_toArray, List.set_cons_zero, List.set_cons_succ])
  refine wpAnyH_take (i := 8) (v := ?_) rfl (by kernel_rfl) (by kernel_rfl) (by kernel_rfl) (fun _ _ _ h => h) (Or.inl ⟨by kernel_rfl, ?_⟩) (by assumption) ?_
  rotate_left
  · intro w hSw
    (try dsimp only at hSw)
    go_simp
    (try with_reducible rfl)
  (try simp only [Act.put, List.getElem_toArray, List.getElem_cons_zero, List.getElem_cons_succ, List.setIfInBounds_toArray, List.set_cons_zero, List.set_cons_succ])
  refine wpAnyH_take (i := 9) (v := ?_) rfl (by kernel_rfl) (by kernel_rfl) (by kernel_rfl) (fun _ _ _ h => h) (Or.inl ⟨by kernel_rfl, ?_⟩) (by assumption) ?_
  rotate_left
  · intro w hSw
    (try dsimp only at hSw)
    go_simp
    (try with_reducible rfl)
  (try simp only [Act.put, List.getElem_toArray, List.getElem_cons_zero, List.getElem_cons_succ, List.setIfInBounds_toArray, List.set_cons_zero, List.set_cons_succ])
  refine wpAnyH_take (i := 10) (v := ?_) rfl (by kernel_rfl) (by kernel_rfl) (by kernel_rfl) (fun _ _ _ h => h) (Or.inl ⟨by kernel_rfl, ?_⟩) (by assumption) ?_
  rotate_left
  · intro w hSw
    (try dsimp only at hSw)
    go_simp
    (try with_reducible rfl)
  (try simp only [Act.put, List.getElem_toArray, List.getElem_cons_zero, List.getElem_cons_succ, List.setIfInBounds_toArray, List.set_cons_zero, List.set_cons_succ])
  refine wpAnyH_take (i := 11) (v := ?_) rfl (by kernel_rfl) (by kernel_rfl) (by kernel_rfl) (fun _ _ _ h => h) (Or.inl ⟨by kernel_rfl, ?_⟩) (by assumption) ?_
  rotate_left
  · intro w hSw
    (try dsimp only at hSw)
    go_simp
    (try with_reducible rfl)
  (try simp only [Act.put, List.getElem_toArray, List.getElem_cons_zero, List.getElem_cons_succ, List.setIfInBounds_toArray, List.set_cons_zero, List.set_cons_succ])
  refine wpAnyH_take (i := 12) (v := ?_) rfl (by kernel_rfl) (by kernel_rfl) (by kernel_rfl) (fun _ _ _ h => h) (Or.inl ⟨by kernel_rfl, ?_⟩) (by assumption) ?_
  rotate_left
  · intro w hSw
    (try dsimp only at hSw)
    go_simp
    (try with_reducible rfl)
  (try simp only [Act.put, List.getElem_toArray, List.getElem_cons_zero, List.getElem_cons_succ, List.setIfInBounds_toArray, List.set_cons_zero, List.set_cons_succ])
  refine wpAnyH_take (i := 13) (v := ?_) rfl (by kernel_rfl) (by kernel_rfl) (by kernel_rfl) (fun _ _ _ h => h) (Or.inl ⟨by kernel_rfl, ?_⟩) (by assumption) ?_
  rotate_left
  · intro w hSw
    (try dsimp only at hSw)
    go_simp
    (try with_reducible rfl)
  (try simp only [Act.put, List.getElem_toArray, List.getElem_cons_zero, List.getElem_cons_succ, List.setIfInBounds_toArray, List.set_cons_zero, List.set_cons_succ])
  refine wpAnyH_take (i := 14) (v := ?_) rfl (by kernel_rfl) (by kernel_rfl) (by kernel_rfl) (fun _ _ _ h => h) (Or.inl ⟨by kernel_rfl, ?_⟩) (by assumption) ?_
  rotate_left
  · intro w hSw
    (try dsimp only at hSw)
    go_simp
    (try with_reducible rfl)
  (try simp only [Act.put, List.getElem_toArray, List.getElem_cons_zero, List.getElem_cons_succ, List.setIfInBounds_toArray, List.set_cons_zero, List.set_cons_succ])
  refine wpAnyH_take (i := 18) (v := ?_) rfl (by kernel_rfl) (by kernel_rfl) (by kernel_rfl) (fun _ _ _ h => h) (Or.inl ⟨by kernel_rfl, ?_⟩) (by assumption) ?_
  rotate_left
  · intro w hSw
    (try dsimp only at hSw)
    go_simp
    (try with_reducible rfl)
  (try simp only [Act.put, List.getElem_toArray, List.getElem_cons_zero, List.getElem_cons_succ, List.setIfInBounds_toArray, List.set_cons_zero, List.set_cons_succ])
  refine wpAnyH_ready (rs := [7, 19]) (by kernel_rfl) (by simp) ?_
  refine AllReadyH.cons rfl (fun K hK => ?_) ?_
  rotate_left
  refine AllReadyH.cons rfl (fun K hK => ?_) ?_
  rotate_left
  exact AllReadyH.nil
  · go_simp
    go_at_call 59
    refine (HSD.out _).mono ?_
    rintro e w' ⟨rfl, rfl⟩
    (try go_wp2_with fail)
    refine hK.out _ _ ?_ (fun hHeld => ?_)
    · (try dsimp only)
      first | (with_reducible assumption) | (with_reducible exact HFB.out) | (with_reducible exact HA.out _ (((Below.refl _ _).alloc (Nat.le_refl _) _).drew)) | (with_reducible exact HA.out _ ((Below.refl _ _).drew)) | (with_reducible exact HA.out _ (Below.refl _ _))
    clear hK K
    (try simp only [Act.put, List.getElem_toArray, List.getElem_cons_zero, List.getElem_cons_succ, List.setIfInBounds_toArray, List.set_cons_zero, List.set_cons_succ])
    refine wpAnyH_ready (rs := [15, 19]) (by kernel_rfl) (by simp) ?_
    refine AllReadyH.cons rfl (fun K hK => ?_) ?_
    rotate_left
    refine AllReadyH.cons rfl (fun K hK => ?_) ?_
    rotate_left
    exact AllReadyH.nil
    · go_simp
      go_at_call 59
      refine (HSD.out _).mono ?_
      rintro e w' ⟨rfl, rfl⟩
      (try go_wp2_with fail)
      refine hK.out _ _ ?_ (fun hHeld => ?_)
      · (try dsimp only)
        first | (with_reducible assumption) | (with_reducible exact HFB.out) | (with_reducible exact HA.out _ (((Below.refl _ _).alloc (Nat.le_refl _) _).drew)) | (with_reducible exact HA.out _ ((Below.refl _ _).drew)) | (with_reducible exact HA.out _ (Below.refl _ _))
      clear hK K
      (try simp only [Act.put, List.getElem_toArray, List.getElem_cons_zero, List.getElem_cons_succ, List.setIfInBounds_toArray, List.set_cons_zero, List.set_cons_succ])
      refine wpAnyH_take (i := 16) (v := ?_) rfl (by kernel_rfl) (by kernel_rfl) (by kernel_rfl) (fun _ _ _ h => h) (Or.inl ⟨by kernel_rfl, ?_⟩) (by assumption) ?_
      rotate_left
      · intro w hSw
        (try dsimp only at hSw)
        go_simp
        (try with_reducible rfl)
      (try simp only [Act.put, List.getElem_toArray, List.getElem_cons_zero, List.getElem_cons_succ, List.setIfInBounds_toArray, List.set_cons_zero, List.set_cons_succ])
      refine wpAnyH_ready (rs := [17, 19]) (by kernel_rfl) (by simp) ?_
      refine AllReadyH.cons rfl (fun K hK => ?_) ?_
      rotate_left
      refine AllReadyH.cons rfl (fun K hK => ?_) ?_
      rotate_left
      exact AllReadyH.nil
      · go_simp
        refine hK.out _ _ ?_ (fun hHeld => ?_)
        · (try dsimp only)
          first | (with_reducible assumption) | (with_reducible exact HFB.out) | (with_reducible exact HA.out _ (((Below.refl _ _).alloc (Nat.le_refl _) _).drew)) | (with_reducible exact HA.out _ ((Below.refl _ _).drew)) | (with_reducible exact HA.out _ (Below.refl _ _))
        clear hK K
        (try simp only [Act.put, List.getElem_toArray, List.getElem_cons_zero, List.getElem_cons_succ, List.setIfInBounds_toArray, List.set_cons_zero, List.set_cons_succ])
        refine wpAnyH_ready (rs := [19]) (by kernel_rfl) (by simp) ?_
        refine AllReadyH.cons rfl (fun K hK => ?_) ?_
        rotate_left
        exact AllReadyH.nil
        · go_simp
          refine hK.out _ _ ?_ (fun hHeld => ?_)
          · (try dsimp only)
            first | (with_reducible assumption) | (with_reducible exact HFB.out) | (with_reducible exact HA.out _ (((Below.refl _ _).alloc (Nat.le_refl _) _).drew)) | (with_reducible exact HA.out _ ((Below.refl _ _).drew)) | (with_reducible exact HA.out _ (Below.refl _ _))
          clear hK K
          (try simp only [Act.put, List.getElem_toArray, List.getElem_cons_zero, List.getElem_cons_succ, List.setIfInBounds_toArray, List.set_cons_zero, List.set_cons_succ])
          refine wpAnyH_ready (rs := [20]) (by kernel_rfl) (by simp) ?_
          refine AllReadyH.cons rfl (fun K hK => ?_) ?_
          rotate_left
          exact AllReadyH.nil
          · refine step_app rfl (.tmp 66) (.tmp 68) rfl (.slice wa wn wc) xs [.int .i64 k] rfl RR.out ⟨_, 0, none⟩ 1 1 rfl rfl (fun j u hj => one_at ((Row.one w 3 (.int .i64 k))) hj) (by simp [Value.oneCell']) RL.out ?_
            intro v3 w3 R1 G1
            obtain ⟨a1, l1, n1, rfl, cw3, cu3, fu3, HS9, HFB⟩ := PK.out v3 w3 R1 G1
            clear R1 G1
            refine hK.out _ _ ?_ (fun hHeld => ?_)
            · (try dsimp only)
              first | (with_reducible assumption) | (with_reducible exact HFB.out) | (with_reducible exact HA.out _ (((Below.refl _ _).alloc (Nat.le_refl _) _).drew)) | (with_reducible exact HA.out _ ((Below.refl _ _).drew)) | (with_reducible exact HA.out _ (Below.refl _ _))
            clear hK K
            (try simp only [Act.put, List.getElem_toArray, List.getElem_cons_zero, List.getElem_cons_succ, List.setIfInBounds_toArray, List.set_cons_zero, List.set_cons_succ])
            refine wpAnyH_take (i := 21) (v := ?_) rfl (by kernel_rfl) (by kernel_rfl) (by kernel_rfl) (fun _ _ _ h => h) (Or.inl ⟨by kernel_rfl, ?_⟩) (by assumption) ?_
            rotate_left
            · intro w hSw
              (try dsimp only at hSw)
              go_simp
              (try with_reducible rfl)
            (try simp only [Act.put, List.getElem_toArray, List.getElem_cons_zero, List.getElem_cons_succ, List.setIfInBounds_toArray, List.set_cons_zero, List.set_cons_succ])
            refine wpAnyH_ready (rs := [22]) (by kernel_rfl) (by simp) ?_
            refine AllReadyH.cons rfl (fun K hK => ?_) ?_
            rotate_left
            exact AllReadyH.nil
            · go_simp
              refine hK.out _ _ ?_ (fun hHeld => ?_)
              · (try dsimp only)
                first | (with_reducible assumption) | (with_reducible exact HFB.out) | (with_reducible exact HA.out _ (((Below.refl _ _).alloc (Nat.le_refl _) _).drew)) | (with_reducible exact HA.out _ ((Below.refl _ _).drew)) | (with_reducible exact HA.out _ (Below.refl _ _))
              clear hK K
              (try simp only [Act.put, List.getElem_toArray, List.getElem_cons_zero, List.getElem_cons_succ, List.setIfInBounds_toArray, List.set_cons_zero, List.set_cons_succ])
              refine wpAnyH_done (by kernel_rfl) ?_ _
              refine NoPanic.normal ?_
              exact hQ _ _ _ _ _ _ _ _ _ _ _ _ _ _ _ _ _ _ _ _ _ _ _ HS9
      · go_simp
        refine hK.out _ _ ?_ (fun hHeld => ?_)
        · (try dsimp only)
          first | (with_reducible assumption) | (with_reducible exact HFB.out) | (with_reducible exact HA.out _ (((Below.refl _ _).alloc (Nat.le_refl _) _).drew)) | (with_reducible exact HA.out _ ((Below.refl _ _).drew)) | (with_reducible exact HA.out _ (Below.refl _ _))
        clear hK K
        (try simp only [Act.put, List.getElem_toArray, List.getElem_cons_zero, List.getElem_cons_succ, List.setIfInBounds_toArray, List.set_cons_zero, List.set_cons_succ])
        refine wpAnyH_ready (rs := [17]) (by kernel_rfl) (by simp) ?_
        refine AllReadyH.cons rfl (fun K hK => ?_) ?_
        rotate_left
        exact AllReadyH.nil
        · go_simp
          refine hK.out _ _ ?_ (fun hHeld => ?_)
          · (try dsimp only)
            first | (with_reducible assumption) | (with_reducible exact HFB.out) | (with_reducible exact HA.out _ (((Below.refl _ _).alloc (Nat.le_refl _) _).drew)) | (with_reducible exact HA.out _ ((Below.refl _ _).drew)) | (with_reducible exact HA.out _ (Below.refl _ _))
          clear hK K
          (try simp only [Act.put, List.getElem_toArray, List.getElem_cons_zero, List.getElem_cons_succ, List.setIfInBounds_toArray, List.set_cons_zero, List.set_cons_succ])
          refine wpAnyH_ready (rs := [20]) (by kernel_rfl) (by simp) ?_
          refine AllReadyH.cons rfl (fun K hK => ?_) ?_
          rotate_left
          exact AllReadyH.nil
          · refine step_app rfl (.tmp 66) (.tmp 68) rfl (.slice wa wn wc) xs [.int .i64 k] rfl RR.out ⟨_, 0, none⟩ 1 1 rfl rfl (fun j u hj => one_at ((Row.one w 3 (.int .i64 k))) hj) (by simp [Value.oneCell']) RL.out ?_
            intro v3 w3 R1 G1
            obtain ⟨a1, l1, n1, rfl, cw3, cu3, fu3, HS9, HFB⟩ := PK.out v3 w3 R1 G1
            clear R1 G1
            refine hK.out _ _ ?_ (fun hHeld => ?_)
            · (try dsimp only)
              first | (with_reducible assumption) | (with_reducible exact HFB.out) | (with_reducible exact HA.out _ (((Below.refl _ _).alloc (Nat.le_refl _) _).drew)) | (with_reducible exact HA.out _ ((Below.refl _ _).drew)) | (with_reducible exact HA.out _ (Below.refl _ _))
            clear hK K
            (try simp only [Act.put, List.getElem_toArray, List.getElem_cons_zero, List.getElem_cons_succ, List.setIfInBounds_toArray, List.set_cons_zero, List.set_cons_succ])
            refine wpAnyH_take (i := 21) (v := ?_) rfl (by kernel_rfl) (by kernel_rfl) (by kernel_rfl) (fun _ _ _ h => h) (Or.inl ⟨by kernel_rfl, ?_⟩) (by assumption) ?_
            rotate_left
            · intro w hSw
              (try dsimp only at hSw)
              go_simp
              (try with_reducible rfl)
            (try simp only [Act.put, List.getElem_toArray, List.getElem_cons_zero, List.getElem_cons_succ, List.setIfInBounds_toArray, List.set_cons_zero, List.set_cons_succ])
            refine wpAnyH_ready (rs := [22]) (by kernel_rfl) (by simp) ?_
            refine AllReadyH.cons rfl (fun K hK => ?_) ?_
            rotate_left
            exact AllReadyH.nil
            · go_simp
              refine hK.out _ _ ?_ (fun hHeld => ?_)
              · (try dsimp only)
                first | (with_reducible assumption) | (with_reducible exact HFB.out) | (with_reducible exact HA.out _ (((Below.refl _ _).alloc (Nat.le_refl _) _).drew)) | (with_reducible exact HA.out _ ((Below.refl _ _).drew)) | (with_reducible exact HA.out _ (Below.refl _ _))
              clear hK K
              (try simp only [Act.put, List.getElem_toArray, List.getElem_cons_zero, List.getElem_cons_succ, List.setIfInBounds_toArray, List.set_cons_zero, List.set_cons_succ])
              refine wpAnyH_done (by kernel_rfl) ?_ _
              refine NoPanic.normal ?_
              exact hQ _ _ _ _ _ _ _ _ _ _ _ _ _ _ _ _ _ _ _ _ _ _ _ HS9
    · go_simp
      refine hK.out _ _ ?_ (fun hHeld => ?_)
      · (try dsimp only)
        first | (with_reducible assumption) | (with_reducible exact HFB.out) | (with_reducible exact HA.out _ (((Below.refl _ _).alloc (Nat.le_refl _) _).drew)) | (with_reducible exact HA.out _ ((Below.refl _ _).drew)) | (with_reducible exact HA.out _ (Below.refl _ _))
      clear hK K
      (try simp only [Act.put, List.getElem_toArray, List.getElem_cons_zero, List.getElem_cons_succ, List.setIfInBounds_toArray, List.set_cons_zero, List.set_cons_succ])
      refine wpAnyH_ready (rs := [15]) (by kernel_rfl) (by simp) ?_
      refine AllReadyH.cons rfl (fun K hK => ?_) ?_
      rotate_left
      exact AllReadyH.nil
      · go_simp
        go_at_call 59
        refine (HSD.out _).mono ?_
        rintro e w' ⟨rfl, rfl⟩
        (try go_wp2_with fail)
        refine hK.out _ _ ?_ (fun hHeld => ?_)
        · (try dsimp only)
          first | (with_reducible assumption) | (with_reducible exact HFB.out) | (with_reducible exact HA.out _ (((Below.refl _ _).alloc (Nat.le_refl _) _).drew)) | (with_reducible exact HA.out _ ((Below.refl _ _).drew)) | (with_reducible exact HA.out _ (Below.refl _ _))
        clear hK K
        (try simp only [Act.put, List.getElem_toArray, List.getElem_cons_zero, List.getElem_cons_succ, List.setIfInBounds_toArray, List.set_cons_zero, List.set_cons_succ])
        refine wpAnyH_take (i := 16) (v := ?_) rfl (by kernel_rfl) (by kernel_rfl) (by kernel_rfl) (fun _ _ _ h => h) (Or.inl ⟨by kernel_rfl, ?_⟩) (by assumption) ?_
        rotate_left
        · intro w hSw
          (try dsimp only at hSw)
          go_simp
          (try with_reducible rfl)
        (try simp only [Act.put, List.getElem_toArray, List.getElem_cons_zero, List.getElem_cons_succ, List.setIfInBounds_toArray, List.set_cons_zero, List.set_cons_succ])
        refine wpAnyH_ready (rs := [17]) (by kernel_rfl) (by simp) ?_
        refine AllReadyH.cons rfl (fun K hK => ?_) ?_
        rotate_left
        exact AllReadyH.nil
        · go_simp
          refine hK.out _ _ ?_ (fun hHeld => ?_)
          · (try dsimp only)
            first | (with_reducible assumption) | (with_reducible exact HFB.out) | (with_reducible exact HA.out _ (((Below.refl _ _).alloc (Nat.le_refl _) _).drew)) | (with_reducible exact HA.out _ ((Below.refl _ _).drew)) | (with_reducible exact HA.out _ (Below.refl _ _))
          clear hK K
          (try simp only [Act.put, List.getElem_toArray, List.getElem_cons_zero, List.getElem_cons_succ, List.setIfInBounds_toArray, List.set_cons_zero, List.set_cons_succ])
          refine wpAnyH_ready (rs := [20]) (by kernel_rfl) (by simp) ?_
          refine AllReadyH.cons rfl (fun K hK => ?_) ?_
          rotate_left
          exact AllReadyH.nil
          · refine step_app rfl (.tmp 66) (.tmp 68) rfl (.slice wa wn wc) xs [.int .i64 k] rfl RR.out ⟨_, 0, none⟩ 1 1 rfl rfl (fun j u hj => one_at ((Row.one w 3 (.int .i64 k))) hj) (by simp [Value.oneCell']) RL.out ?_
            intro v3 w3 R1 G1
            obtain ⟨a1, l1, n1, rfl, cw3, cu3, fu3, HS9, HFB⟩ := PK.out v3 w3 R1 G1
            clear R1 G1
            refine hK.out _ _ ?_ (fun hHeld => ?_)
            · (try dsimp only)
              first | (with_reducible assumption) | (with_reducible exact HFB.out) | (with_reducible exact HA.out _ (((Below.refl _ _).alloc (Nat.le_refl _) _).drew)) | (with_reducible exact HA.out _ ((Below.refl _ _).drew)) | (with_reducible exact HA.out _ (Below.refl _ _))
            clear hK K
            (try simp only [Act.put, List.getElem_toArray, List.getElem_cons_zero, List.getElem_cons_succ, List.setIfInBounds_toArray, List.set_cons_zero, List.set_cons_succ])
            refine wpAnyH_take (i := 21) (v := ?_) rfl (by kernel_rfl) (by kernel_rfl) (by kernel_rfl) (fun _ _ _ h => h) (Or.inl ⟨by kernel_rfl, ?_⟩) (by assumption) ?_
            rotate_left
            · intro w hSw
              (try dsimp only at hSw)
              go_simp
              (try with_reducible rfl)
            (try simp only [Act.put, List.getElem_toArray, List.getElem_cons_zero, List.getElem_cons_succ, List.setIfInBounds_toArray, List.set_cons_zero, List.set_cons_succ])
            refine wpAnyH_ready (rs := [22]) (by kernel_rfl) (by simp) ?_
            refine AllReadyH.cons rfl (fun K hK => ?_) ?_
            rotate_left
            exact AllReadyH.nil
            · go_simp
              refine hK.out _ _ ?_ (fun hHeld => ?_)
              · (try dsimp only)
                first | (with_reducible assumption) | (with_reducible exact HFB.out) | (with_reducible exact HA.out _ (((Below.refl _ _).alloc (Nat.le_refl _) _).drew)) | (with_reducible exact HA.out _ ((Below.refl _ _).drew)) | (with_reducible exact HA.out _ (Below.refl _ _))
              clear hK K
              (try simp only [Act.put, List.getElem_toArray, List.getElem_cons_zero, List.getElem_cons_succ, List.setIfInBounds_toArray, List.set_cons_zero, List.set_cons_succ])
              refine wpAnyH_done (by kernel_rfl) ?_ _
              refine NoPanic.normal ?_
              exact hQ _ _ _ _ _ _ _ _ _ _ _ _ _ _ _ _ _ _ _ _ _ _ _ HS9
  · go_simp
    refine hK.out _ _ ?_ (fun hHeld => ?_)
    · (try dsimp only)
      first | (with_reducible assumption) | (with_reducible exact HFB.out) | (with_reducible exact HA.out _ (((Below.refl _ _).alloc (Nat.le_refl _) _).drew)) | (with_reducible exact HA.out _ ((Below.refl _ _).drew)) | (with_reducible exact HA.out _ (Below.refl _ _))
    clear hK K
    (try simp only [Act.put, List.getElem_toArray, List.getElem_cons_zero, List.getElem_cons_succ, List.setIfInBounds_toArray, List.set_cons_zero, List.set_cons_succ])
    refine wpAnyH_ready (rs := [7]) (by kernel_rfl) (by simp) ?_
    refine AllReadyH.cons rfl (fun K hK => ?_) ?_
    rotate_left
    exact AllReadyH.nil
    · go_simp
      go_at_call 59
      refine (HSD.out _).mono ?_
      rintro e w' ⟨rfl, rfl⟩
      (try go_wp2_with fail)
      refine hK.out _ _ ?_ (fun hHeld => ?_)
      · (try dsimp only)
        first | (with_reducible assumption) | (with_reducible exact HFB.out) | (with_reducible exact HA.out _ (((Below.refl _ _).alloc (Nat.le_refl _) _).drew)) | (with_reducible exact HA.out _ ((Below.refl _ _).drew)) | (with_reducible exact HA.out _ (Below.refl _ _))
      clear hK K
      (try simp only [Act.put, List.getElem_toArray, List.getElem_cons_zero, List.getElem_cons_succ, List.setIfInBounds_toArray, List.set_cons_zero, List.set_cons_succ])
      refine wpAnyH_ready (rs := [15]) (by kernel_rfl) (by simp) ?_
      refine AllReadyH.cons rfl (fun K hK => ?_) ?_
      rotate_left
      exact AllReadyH.nil
      · go_simp
        go_at_call 59
        refine (HSD.out _).mono ?_
        rintro e w' ⟨rfl, rfl⟩
        (try go_wp2_with fail)
        refine hK.out _ _ ?_ (fun hHeld => ?_)
        · (try dsimp only)
          first | (with_reducible assumption) | (with_reducible exact HFB.out) | (with_reducible exact HA.out _ (((Below.refl _ _).alloc (Nat.le_refl _) _).drew)) | (with_reducible exact HA.out _ ((Below.refl _ _).drew)) | (with_reducible exact HA.out _ (Below.refl _ _))
        clear hK K
        (try simp only [Act.put, List.getElem_toArray, List.getElem_cons_zero, List.getElem_cons_succ, List.setIfInBounds_toArray, List.set_cons_zero, List.set_cons_succ])
        refine wpAnyH_take (i := 16) (v := ?_) rfl (by kernel_rfl) (by kernel_rfl) (by kernel_rfl) (fun _ _ _ h => h) (Or.inl ⟨by kernel_rfl, ?_⟩) (by assumption) ?_
        rotate_left
        · intro w hSw
          (try dsimp only at hSw)
          go_simp
          (try with_reducible rfl)
        (try simp only [Act.put, List.getElem_toArray, List.getElem_cons_zero, List.getElem_cons_succ, List.setIfInBounds_toArray, List.set_cons_zero, List.set_cons_succ])
        refine wpAnyH_ready (rs := [17]) (by kernel_rfl) (by simp) ?_
        refine AllReadyH.cons rfl (fun K hK => ?_) ?_
        rotate_left
        exact AllReadyH.nil
        · go_simp
          refine hK.out _ _ ?_ (fun hHeld => ?_)
          · (try dsimp only)
            first | (with_reducible assumption) | (with_reducible exact HFB.out) | (with_reducible exact HA.out _ (((Below.refl _ _).alloc (Nat.le_refl _) _).drew)) | (with_reducible exact HA.out _ ((Below.refl _ _).drew)) | (with_reducible exact HA.out _ (Below.refl _ _))
          clear hK K
          (try simp only [Act.put, List.getElem_toArray, List.getElem_cons_zero, List.getElem_cons_succ, List.setIfInBounds_toArray, List.set_cons_zero, List.set_cons_succ])
          refine wpAnyH_ready (rs := [20]) (by kernel_rfl) (by simp) ?_
          refine AllReadyH.cons rfl (fun K hK => ?_) ?_
          rotate_left
          exact AllReadyH.nil
          · refine step_app rfl (.tmp 66) (.tmp 68) rfl (.slice wa wn wc) xs [.int .i64 k] rfl RR.out ⟨_, 0, none⟩ 1 1 rfl rfl (fun j u hj => one_at ((Row.one w 3 (.int .i64 k))) hj) (by simp [Value.oneCell']) RL.out ?_
            intro v3 w3 R1 G1
            obtain ⟨a1, l1, n1, rfl, cw3, cu3, fu3, HS9, HFB⟩ := PK.out v3 w3 R1 G1
            clear R1 G1
            refine hK.out _ _ ?_ (fun hHeld => ?_)
            · (try dsimp only)
              first | (with_reducible assumption) | (with_reducible exact HFB.out) | (with_reducible exact HA.out _ (((Below.refl _ _).alloc (Nat.le_refl _) _).drew)) | (with_reducible exact HA.out _ ((Below.refl _ _).drew)) | (with_reducible exact HA.out _ (Below.refl _ _))
            clear hK K
            (try simp only [Act.put, List.getElem_toArray, List.getElem_cons_zero, List.getElem_cons_succ, List.setIfInBounds_toArray, List.set_cons_zero, List.set_cons_succ])
            refine wpAnyH_take (i := 21) (v := ?_) rfl (by kernel_rfl) (by kernel_rfl) (by kernel_rfl) (fun _ _ _ h => h) (Or.inl ⟨by kernel_rfl, ?_⟩) (by assumption) ?_
            rotate_left
            · intro w hSw
              (try dsimp only at hSw)
              go_simp
              (try with_reducible rfl)
            (try simp only [Act.put, List.getElem_toArray, List.getElem_cons_zero, List.getElem_cons_succ, List.setIfInBounds_toArray, List.set_cons_zero, List.set_cons_succ])
            refine wpAnyH_ready (rs := [22]) (by kernel_rfl) (by simp) ?_
            refine AllReadyH.cons rfl (fun K hK => ?_) ?_
            rotate_left
            exact AllReadyH.nil
            · go_simp
              refine hK.out _ _ ?_ (fun hHeld => ?_)
              · (try dsimp only)
                first | (with_reducible assumption) | (with_reducible exact HFB.out) | (with_reducible exact HA.out _ (((Below.refl _ _).alloc (Nat.le_refl _) _).drew)) | (with_reducible exact HA.out _ ((Below.refl _ _).drew)) | (with_reducible exact HA.out _ (Below.refl _ _))
              clear hK K
              (try simp only [Act.put, List.getElem_toArray, List.getElem_cons_zero, List.getElem_cons_succ, List.setIfInBounds_toArray, List.set_cons_zero, List.set_cons_succ])
              refine wpAnyH_done (by kernel_rfl) ?_ _
              refine NoPanic.normal ?_
              exact hQ _ _ _ _ _ _ _ _ _ _ _ _ _ _ _ _ _ _ _ _ _ _ _ HS9

/-- other's answer; i0: the first that may be watched, or the clause's length. -/
def OtherPost (w : World) (B : Nat → Prop) (b : Nat) (T : Tr) (val : Sl → Value) (k i0 q : Nat) (e : Ending) (w' : World) : Prop :=
  (i0 = q → e = .returned (.bool false) ∧ Below w.heap.size w w') ∧
  (i0 < q → e = .returned (.bool true) ∧ Keep B w w' ∧ ∃ v, TrailV w' B b (otherT T k i0) (upS val (.W (sideN ((T.L.getD k []).getD i0 0))) v))

theorem val_facts {w : World} {B : Nat → Prop} {b : Nat} {T : Tr} {val : Sl → Value} (h : TrailV w B b T val) (x : Int) (hx : In64 x) (hn : T.F.length ≤ 20000) (hs : Small T) (w1 : World) (hb : Below w.heap.size w w1) :
    Calls Try.prog 24 #[.pointer (some ⟨b, 0, none⟩), .int .i64 x] w1 fun e w' => e = .returned (.int .i64 (valOf T x)) ∧ Below w.heap.size w w' :=
  (Value_any (h.below hb (Nat.le_refl _)).any x hx hn hs).mono fun _ _ ⟨h1, h2⟩ => ⟨h1, hb.trans (h2.mono hb.size)⟩

set_option maxRecDepth 100000 in
set_option maxHeartbeats 4000000 in
theorem other_any {w : World} {B : Nat → Prop} {b : Nat} {T : Tr} {val : Sl → Value} (h : TrailV w B b T val) (k i0 q : Nat) (hk : k < T.L.length) (hq : (T.L.getD k []).length = q) (h2q : 2 ≤ q) (hq2 : q ≤ 20000) (hn : T.F.length ≤ 20000) (hs : Small T)
    (hZB : ∀ x ∈ T.L.getD k [], x ≠ 0 ∧ -20000 ≤ x ∧ x ≤ 20000) (hSW : ∀ x ∈ T.L.getD k [], sideN x < T.W.length) (hWL : ∀ j, (T.W.getD j []).length ≤ 900000) (hLL : T.L.length ≤ 900000)
    (h2i : 2 ≤ i0) (hi0 : i0 ≤ q) (hno : ∀ j, 2 ≤ j → j < i0 → goodI T (T.L.getD k []) j = false) (hyes : i0 < q → goodI T (T.L.getD k []) i0 = true) :
    Calls Try.prog 63 #[.pointer (some ⟨b, 0, none⟩), .int .i64 (k : Nat)] w fun e w' => OtherPost w B b T val k i0 q e w' := by
  obtain ⟨c, hc⟩ : ∃ c, T.L.getD k [] = c := ⟨_, rfl⟩
  rw [hc] at hq hZB hSW hno hyes
  obtain ⟨gl, cl, g, oc, cb, ck, hv, hoc⟩ := h.clause hk hc (by omega)
  rw [hq] at ck hv hoc
  obtain ⟨ll, hll⟩ : ∃ ll, T.L.length = ll := ⟨_, rfl⟩
  have hk1 : (k : Int) < (ll : Int) := by omega
  have hk0 : (0 : Int) ≤ (k : Int) := by omega
  rw [hll] at cb
  have H := Lib.hid h
  have HK := Lib.hid hk
  have HC := Lib.hid hc
  have HQ := Lib.hid hq
  have HVV := Lib.hid hv
  have HN := Lib.hid hn
  have HSM := Lib.hid hs
  have HZ := Lib.hid hZB
  have HSW := Lib.hid hSW
  have HWL := Lib.hid hWL
  have HNO := Lib.hid hno
  have HYES := Lib.hid hyes
  have hkl : k ≤ 900000 := by omega
  clear h hc hq hv hll hk hn hs hZB hSW hWL hno hyes hLL
  go_enter Try.func63, Try.ntmps63
  go_wp2_with fail
  clear cb ck hk1
  as_aux_lemma =>
  go_loopw [4, 6] (fun v4 vi wr => v4 = .bool false ∧ ∃ i : Nat, vi = .int .i64 i ∧ 2 ≤ i ∧ i ≤ i0 ∧ Hid (Below w.heap.size w wr)) (fun _ vi _ => q - (intOf vi).toNat)
  case atStart => exact ⟨rfl, 2, rfl, by omega, by omega, Lib.hid (Below.refl _ _)⟩
  case round =>
    obtain ⟨rfl, i, rfl, h2, hii, HB⟩ := hrel
    by_cases hlt : i < q
    · have HT : Hid (TrailV wr B b T val) := Lib.hid (H.out.below HB.out (Nat.le_refl _))
      have hx := (HT.out.lit HC.out HVV.out i (by rw [HQ.out]; exact hlt)).1
      have hy := (HT.out.lit HC.out HVV.out 0 (by rw [HQ.out]; omega)).1
      have hxm : c.getD i 0 ∈ c := mem_getD (by rw [HQ.out]; exact hlt)
      have hzb := HZ.out _ hxm
      have hsw := HSW.out _ hxm
      have hi1 : (i : Int) < (q : Int) := by omega
      have hi00 : (0 : Int) ≤ (i : Int) := by omega
      have hq0 : 0 < q := by omega
      have HS : Hid (∀ w', Below wr.heap.size wr w' → w'.cell? ⟨g, i, none⟩ = some (.int .i64 (c.getD i 0)) ∧ w'.cell? ⟨g, 0, none⟩ = some (.int .i64 (c.getD 0 0))) := Lib.hid fun w' hb => ⟨((HT.out.below hb (Nat.le_refl _)).lit HC.out HVV.out i (by rw [HQ.out]; exact hlt)).1, ((HT.out.below hb (Nat.le_refl _)).lit HC.out HVV.out 0 (by rw [HQ.out]; omega)).1⟩
      have HV : Hid (∀ w1, Below wr.heap.size wr w1 → Calls Try.prog 24 #[.pointer (some ⟨b, 0, none⟩), .int .i64 (c.getD i 0)] w1 fun e w' => e = .returned (.int .i64 (valOf T (c.getD i 0))) ∧ Below wr.heap.size wr w') := Lib.hid fun w1 hb => val_facts HT.out _ (by unfold In64; omega) HN.out HSM.out w1 hb
      have hgood : goodI T c i = (decide (0 ≤ valOf T (c.getD i 0)) && (c.getD i 0 != c.getD 0 0)) := rfl
      have HG := Lib.hid hgood
      clear hgood
      obtain ⟨x, ex⟩ : ∃ x, c.getD i 0 = x := ⟨_, rfl⟩
      obtain ⟨y, ey⟩ : ∃ y, c.getD 0 0 = y := ⟨_, rfl⟩
      obtain ⟨v, ev⟩ : ∃ v, valOf T x = v := ⟨_, rfl⟩
      rw [ex] at hx HS HV HG hzb hsw
      rw [ey] at hy HS HG
      rw [ev] at HV HG
      have EX := Lib.hid ex
      clear ex ey ev hxm
      by_cases hst : i < i0
      · have hbad : (decide (0 ≤ v) && (x != y)) = false := by rw [← HG.out]; exact HNO.out i h2 hst
        cases hd : decide (0 ≤ v) with
        | false =>
          have HD := Lib.hid hd
          clear hd hbad
          as_aux_lemma =>
          go_wp2_with fail
          refine other_test_no _ _ _ _ _ _ _ _ _ _ _ _ _ _ _ _ _ _ _ _ _ _ _ _ _ _ _ _ _ _ _ _ _ _ _ _ _ _ _ _ _ _ _ _ _ _ _ _ _ _ _ _ _ _ _ _ _ _ _ _ _ _ _ _ _ _ _ _ _ hi00 hi1 hq0 hx hy HS HV HD.out ?_
          intro v20 v21 v22 v23 v24 v25 v26 v27 v28 v29 v30 v31 v32 v33 v34 v35 w9 hb9
          have HB9 := Lib.hid (HB.out.trans (hb9.mono (HB.out.size)))
          clear hb9 hx hy
          go_wp2_with fail
          go_roundw
          case rel => exact ⟨rfl, i + 1, by go_num, by omega, by omega, HB9⟩
          case measure => simp [intOf]; omega
        | true =>
          have hne : (x != y) = false := by rw [hd] at hbad; simpa using hbad
          have HD := Lib.hid hd
          have HNE := Lib.hid hne
          clear hd hbad hne
          as_aux_lemma =>
          go_wp2_with fail
          refine other_test _ _ _ _ _ _ _ _ _ _ _ _ _ _ _ _ _ _ _ _ _ _ _ _ _ _ _ _ _ _ _ _ _ _ _ _ _ _ _ _ _ _ _ _ _ _ _ _ _ _ _ _ _ _ _ _ _ _ _ _ _ _ _ _ _ _ _ _ _ hi00 hi1 hq0 hx hy HS HV HD.out ?_
          intro v20 v21 v22 v23 v24 v25 v26 v27 v28 v29 v30 v31 v32 v33 v34 v35 w9 hb9
          have HB9 := Lib.hid (HB.out.trans (hb9.mono (HB.out.size)))
          have hne := HNE.out
          clear hb9 hx hy
          go_wp2_with fail
          clear hne
          go_roundw
          case rel => exact ⟨rfl, i + 1, by go_num, by omega, by omega, HB9⟩
          case measure => simp [intOf]; omega
      · obtain rfl : i = i0 := by omega
        have hyes : (decide (0 ≤ v) && (x != y)) = true := by rw [← HG.out]; exact HYES.out hlt
        have hd : decide (0 ≤ v) = true := (Bool.and_eq_true_iff.1 hyes).1
        have hne : (x != y) = true := (Bool.and_eq_true_iff.1 hyes).2
        have HD := Lib.hid hd
        have HNE := Lib.hid hne
        clear hd hyes hne
        as_aux_lemma =>
        go_wp2_with fail
        refine other_test _ _ _ _ _ _ _ _ _ _ _ _ _ _ _ _ _ _ _ _ _ _ _ _ _ _ _ _ _ _ _ _ _ _ _ _ _ _ _ _ _ _ _ _ _ _ _ _ _ _ _ _ _ _ _ _ _ _ _ _ _ _ _ _ _ _ _ _ _ hi00 hi1 hq0 hx hy HS HV HD.out ?_
        intro v20 v21 v22 v23 v24 v25 v26 v27 v28 v29 v30 v31 v32 v33 v34 v35 w9 hb9
        have HT9 : Hid (TrailV w9 B b T val) := Lib.hid (HT.out.below hb9 (Nat.le_refl _))
        have HK9 : Hid (Keep B w w9) := Lib.hid ((Keep.refl B w).below (HB.out.trans (hb9.mono (HB.out.size))) (fun k hk => by obtain ⟨_, hm, _⟩ := H.out; exact hm.lt k hk))
        have hne := HNE.out
        obtain ⟨x1, f1, hgs⟩ := HT9.out.lit HC.out HVV.out 1 (by rw [HQ.out]; omega)
        obtain ⟨x2, f2, _⟩ := HT9.out.lit HC.out HVV.out i (by rw [HQ.out]; omega)
        obtain ⟨T3, K3⟩ := HT9.out.swap HK.out HC.out HVV.out 1 i
        rw [EX.out] at x2 T3 K3
        have y2 : (w9.setCell ⟨g, 1, none⟩ (.int .i64 x)).cell? ⟨g, i, none⟩ = some (.int .i64 (c.getD i 0)) := (World.cell?_setCell_other _ _ _ _ (fun e => by injection e; omega)).trans (by rw [EX.out]; exact x2)
        have HT3 := Lib.hid T3
        have HK3 := Lib.hid K3
        have b1 : (1 : Int) < (q : Int) := by omega
        clear hb9 hx hy T3 K3 HT9 HS HV HD HNE HB HT
        generalize c.getD 1 0 = z1 at *
        go_wp2_with fail
        clear hne
        go_big_region
        generalize ((w9.setCell ⟨g, 1, none⟩ (.int .i64 x)).setCell ⟨g, i, none⟩ (.int .i64 z1)).drew = W3 at *
        have hc1 : (swT T k 1 i).L.getD k [] = (c.set 1 (c.getD i 0)).set i (c.getD 1 0) := by show (T.L.set k _).getD k [] = _; rw [getD_set_eq _ _ _ HK.out, HC.out]
        have hz1 : ((c.set 1 (c.getD i 0)).set i (c.getD 1 0)).getD 1 0 = x := by
          rw [getD_set_ne _ _ _ (by omega), getD_set_eq _ _ _ (by rw [HQ.out]; omega), EX.out]
        have hP := push_facts HT3.out hc1 HVV.out 1 (by rw [List.length_set, List.length_set, HQ.out]; omega) (by rw [hz1]; exact hzb) (by rw [hz1]; exact hsw) (by rw [hz1]; exact HWL.out _)
        rw [hz1] at hP
        obtain ⟨s0, gw, cw, wl, wn, wc, wa, xs, cg, hgW, hbW, hgw, cw1, cwj, fw, hb0, hb1, RR, RL, HA, HSD, PK⟩ := hP
        have b1' : 1 < q := by omega
        clear hc1 hz1 HT3 HSW HWL HZ hzb hsw
        go_wp2_with fail
        refine other_push (R := fun w' => Hid (Keep B W3 w' ∧ ∃ v, TrailV w' B b (pushT (swT T k 1 i) (sideN x) k) (upS val (.W (sideN x)) v))) _ _ _ _ _ _ _ _ _ _ _ _ _ _ _ _ _ _ _ _ _ _ _ _ _ _ _ _ _ _ _ _ _ _ _ _ _ _ _ _ _ _ _ _ _ _ _ _ _ _ _ _ _ _ _ _ _ _ _ _ _ _ _ _ _ _ _ _ _ hbW hgW hgw b1 b1' cg cw1 cwj fw hb0 hb1 RR RL HA HSD PK ?_
        intro v49 v50 v51 v52 v53 v54 v55 v56 v57 v58 v59 v60 v61 v62 v63 v64 v65 v66 v67 v68 v69 v70 w5 HR
        clear cg cw1 cwj fw RR RL HA HSD PK
        go_wp2_with fail
        go_ret
        obtain ⟨k5, v, t5⟩ := HR.out
        refine ⟨fun h => absurd h (by omega), fun _ => ⟨rfl, HK9.out.trans (HK3.out.trans k5), v, ?_⟩⟩
        have e1 : otherT T k i = pushT (swT T k 1 i) (sideN x) k := by unfold otherT; rw [HC.out, EX.out]
        rw [e1, HC.out, EX.out]
        exact t5
    · obtain rfl : i = q := by omega
      obtain rfl : i = i0 := by omega
      go_wp2_with fail
      go_ret
      exact ⟨fun _ => ⟨rfl, HB.out⟩, fun h => absurd h (by omega)⟩
end Go.Proofs.Ytngegkgmenfelaa
