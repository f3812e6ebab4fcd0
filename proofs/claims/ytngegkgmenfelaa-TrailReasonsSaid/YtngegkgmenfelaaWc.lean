/-
  make, Decide.
-/
import Derived.Test.YtngegkgmenfelaaWb
namespace Go.Proofs.Ytngegkgmenfelaa
open Go.RowKit Go.Lib
attribute [local go_sem ↓] Go.wp_at_zero Go.wp_at_succ

def sgn (x : Int) : Int := if x < 0 then -1 else 1
def makeT (T : Tr) (x r : Int) : Tr := { T with F := T.F.set (x.natAbs - 1) (sgn x, (T.starts.length : Nat), r), lits := T.lits ++ [x] }

theorem flatF_set (F : List (Int × Int × Int)) (i : Nat) (hi : i < F.length) (f : Int × Int × Int) :
    (((flatF F).set (i * 3) (.int .i64 f.1)).set (i * 3 + 1) (.int .i64 f.2.1)).set (i * 3 + 2) (.int .i64 f.2.2) = flatF (F.set i f) := by
  induction F generalizing i with
  | nil => simp at hi
  | cons a F ih =>
    have e : flatF (a :: F) = .int .i64 a.1 :: .int .i64 a.2.1 :: .int .i64 a.2.2 :: flatF F := rfl
    cases i with
    | zero => rw [e]; rfl
    | succ i =>
      have := ih i (by simpa using hi)
      rw [e, show (i + 1) * 3 = i * 3 + 3 from by omega]
      rw [List.set_cons_succ, show flatF ((a :: F).set (i + 1) f) = .int .i64 a.1 :: .int .i64 a.2.1 :: .int .i64 a.2.2 :: flatF (F.set i f) from rfl, ← this]
      rfl

theorem upS_upS {α : Type} (f : Sl → α) (s : Sl) (a b : α) : upS (upS f s a) s b = upS f s b := by
  funext t; unfold upS; split <;> rfl
theorem upS_self {α : Type} (f : Sl → α) (s : Sl) (a : α) (h : f s = a) : upS f s a = f := by
  funext t; unfold upS; split
  · rename_i e; rw [e, h]
  · rfl
theorem Mem.storeF {w : World} {B : Nat → Prop} {b g n c m : Nat} {bx : Array Value} {val : Sl → Value} {ct : Sl → List Value} {F : List (Int × Int × Int)} (h : Mem w B b bx val ct) (hs : val .fa = .slice (some ⟨g, 0, none⟩) n c) (hF : ct .fa = flatF F) (hi : m < F.length) (f : Int × Int × Int) :
    Mem (((w.setCell ⟨g, m * 3, none⟩ (.int .i64 f.1)).setCell ⟨g, m * 3 + 1, none⟩ (.int .i64 f.2.1)).setCell ⟨g, m * 3 + 2, none⟩ (.int .i64 f.2.2)) B b bx val (upS ct .fa (flatF (F.set m f))) := by
  have := ((h.store .fa hs (m * 3) (.int .i64 f.1)).store .fa hs (m * 3 + 1) (.int .i64 f.2.1)).store .fa hs (m * 3 + 2) (.int .i64 f.2.2)
  rw [upS_same, upS_upS, upS_same, upS_upS, hF, flatF_set F m hi f] at this
  exact this
theorem Mem.li {w : World} {B : Nat → Prop} {b : Nat} {bx : Array Value} {val : Sl → Value} {ct : Sl → List Value} (h : Mem w B b bx val ct) {xs : List Int} (hl : ct .li = ints xs) : ∃ a c, val .li = .slice a xs.length c := by
  have := h.row .li
  rw [hl] at this
  obtain ⟨a, c, e, _, _⟩ := this.form
  rw [ints_len] at e
  exact ⟨a, c, e⟩

theorem one_at {w : World} {g n c : Nat} {e : TypeId} {u' : Value} (h : Row w e 1 (.slice (some ⟨g, 0, none⟩) n c) [u']) {j : Nat} {u : Value} (hj : [u'][j]? = some u) : w.cell? ((⟨g, 0, none⟩ : Addr).add j) = some u := by
  rw [add_off, Nat.zero_add]
  obtain ⟨g', c', e', _, _, _, hc, _⟩ := h.at (by simp)
  injection e' with e1 _ _
  injection e1 with e1
  injection e1 with e1 _ _
  subst e1
  exact hc j u hj

theorem boxOf_li (val : Sl → Value) (nx : Nat) (v : Value) : (boxOf val nx).setIfInBounds 3 v = boxOf (upS val .li v) nx := by simp [boxOf, upS]
theorem Tie.make {T : Tr} {val : Sl → Value} {ct : Sl → List Value} (h : Tie T val ct) (x r : Int) (v : Value) :
    Tie (makeT T x r) (upS val .li v) (upS (upS ct .fa (flatF (T.F.set (x.natAbs - 1) (sgn x, (T.starts.length : Nat), r)))) .li (ints T.lits ++ [.int .i64 x])) where
  cl := h.cl
  wa := h.wa
  fa := rfl
  li := by rw [upS_same]; simp [makeT, ints]
  st := h.st
  sh := h.sh
  C := h.C
  W := h.W

/-- The same, its rows' values told. -/
def TrailV (w : World) (B : Nat → Prop) (b : Nat) (T : Tr) (val : Sl → Value) : Prop := ∃ ct, Mem w B b (boxOf val T.nx) val ct ∧ Tie T val ct
theorem TrailV.any {w : World} {B : Nat → Prop} {b : Nat} {T : Tr} {val : Sl → Value} (h : TrailV w B b T val) : TrailAt w B b T := ⟨val, h⟩
theorem TrailV.below {w w' : World} {B : Nat → Prop} {b : Nat} {T : Tr} {val : Sl → Value} {n : Nat} (h : TrailV w B b T val) (hb : Below n w w') (hB : w.heap.size ≤ n) : TrailV w' B b T val := by
  obtain ⟨ct, h1, h2⟩ := h
  exact ⟨ct, h1.below hb hB, h2⟩

set_option maxRecDepth 100000 in
set_option maxHeartbeats 4000000 in
theorem make_val {w : World} {B : Nat → Prop} {b : Nat} {T : Tr} {val : Sl → Value} (h : TrailV w B b T val) (x r : Int) (hx : 1 ≤ x.natAbs ∧ x.natAbs ≤ T.F.length) (hn : T.F.length ≤ 20000) (hl : T.lits.length ≤ 900000) :
    Calls Try.prog 45 #[.pointer (some ⟨b, 0, none⟩), .int .i64 x, .int .i64 r] w fun e w' => e = .returned (.tuple #[]) ∧ Keep B w w' ∧ ∃ v, TrailV w' B b (makeT T x r) (upS val .li v) := by
  have HL : Hid (Calls Try.prog 12 #[.pointer (some ⟨b, 0, none⟩)] w.drew fun e w' => e = .returned (.int .i64 (T.starts.length : Nat)) ∧ w' = w.drew) := Lib.hid (Level_any (h.any.below (Below.refl w.heap.size w).drew (Nat.le_refl _)))
  obtain ⟨ct, hm, ht⟩ := h
  have hf := hm.row .fa
  rw [ht.fa] at hf
  have c2 : w.cell? ⟨b, 2, none⟩ = some (val .fa) := hm.bcell 2
  obtain ⟨g, c, e, _, _, hg, hc, hfr⟩ := hf.at3 (by omega)
  rw [e] at c2
  obtain ⟨m, hm'⟩ : ∃ m, x.natAbs = m + 1 := ⟨x.natAbs - 1, by omega⟩
  obtain ⟨q, hq⟩ : ∃ q, T.F.length = q := ⟨_, rfl⟩
  obtain ⟨lv, hlv⟩ : ∃ lv, T.starts.length = lv := ⟨_, rfl⟩
  rw [hq] at c2 hx hn
  rw [hlv] at HL
  have hmq : m < q := by omega
  obtain ⟨k1, k2, k3⟩ := flatF_at T.F m (by omega)
  have d1 := hc _ _ k1
  have d2 := hc _ _ k2
  have d3 := hc _ _ k3
  clear k1 k2 k3
  generalize (T.F.getD m (0, 0, 0)).1 = o1 at *
  generalize (T.F.getD m (0, 0, 0)).2.1 = o2 at *
  generalize (T.F.getD m (0, 0, 0)).2.2 = o3 at *
  have f0 := hfr (m * 3)
  have f1 := hfr (m * 3 + 1)
  have f2 := hfr (m * 3 + 2)
  have HM := Lib.hid hm
  have HT := Lib.hid ht
  have HE := Lib.hid e
  have HQ := Lib.hid hq
  have HV := Lib.hid hlv
  clear hf hc hfr hm ht e hq hlv
  by_cases hneg : x < 0
  · obtain rfl : x = -((m : Int) + 1) := by omega
    have e1 : decide (-((m : Int) + 1) < 0) = true := decide_eq_true hneg
    have hi : (m : Int) < (q : Int) := by omega
    have hi0 : (0 : Int) ≤ (m : Int) := by omega
    have hi1 : (m : Int) ≤ (q : Int) := by omega
    have hw1 : IntKind.i64.wrap (m : Int) = (m : Int) := by simp [IntKind.wrap, IntKind.signed, IntKind.bits]; omega
    clear hx hm' hneg
    go_enter Try.func45, Try.ntmps45
    go_wp2_with fail
    clear e1
    have c2d : w.drew.cell? ⟨b, 2, none⟩ = some (.slice (some ⟨g, 0, none⟩) q c) := c2
    go_region_law (go_simp; go_at_call 12; refine HL.out.mono ?_; rintro e w' ⟨rfl, rfl⟩)
    all_goals
      obtain ⟨W, hW⟩ : ∃ W, World.drew (((w.setCell ⟨g, m * 3, none⟩ (.int .i64 (-1))).setCell ⟨g, m * 3 + 1, none⟩ (.int .i64 lv)).setCell ⟨g, m * 3 + 2, none⟩ (.int .i64 r)) = W := ⟨_, rfl⟩
      rw [hW]
      have M1 := (HM.out.storeF HE.out HT.out.fa (by rw [HQ.out]; exact hmq) ((-1), (lv : Int), r)).drew
      rw [hW] at M1
      have K1 : Hid (Keep B w W) := Lib.hid (by
        rw [← hW]
        have hg' : ¬ B g := HM.out.nB .fa g (by rw [HE.out]; rfl)
        exact ((((Keep.refl B w).setCell (p := ⟨g, m * 3, none⟩) hg' _).setCell (p := ⟨g, m * 3 + 1, none⟩) hg' _).setCell (p := ⟨g, m * 3 + 2, none⟩) hg' _).drew)
      obtain ⟨la, lc, el⟩ := M1.li (show upS ct .fa _ .li = ints T.lits from HT.out.li)
      obtain ⟨ll, hll⟩ : ∃ ll, T.lits.length = ll := ⟨_, rfl⟩
      rw [hll] at el hl
      have c3 : W.cell? ⟨b, 3, none⟩ = some (val .li) := M1.bcell 3
      have f3 := M1.bfr 3
      rw [el] at c3
      have R0 := (M1.alloc (.cells #[.int .i64 (-((m : Int) + 1))] 3)).row .li
      rw [el] at R0
      rw [show upS ct .fa (flatF (T.F.set m ((-1), (lv : Int), r))) .li = ints T.lits from HT.out.li] at R0
      have RX := Lib.hid (Row.one W 3 (.int .i64 (-((m : Int) + 1))))
      have MM := Lib.hid M1
      have RR := Lib.hid R0
      have HLL := Lib.hid hll
      have HEL := Lib.hid el
      clear hW M1 R0 hll el c2 c2d d1 d2 d3 f0 f1 f2 HL
      go_wp2_with (at_builtin; refine wpList_app rfl (.tmp 29) (.tmp 31) rfl (.slice la ll lc) (ints T.lits) [.int .i64 (-((m : Int) + 1))] rfl RR.out ⟨W.heap.size, 0, none⟩ 1 1 rfl rfl (fun j u hj => one_at (RX.out) hj) (by simp [Value.oneCell']) (by rw [ints_len, HLL.out]; omega) ?_; intro v1 w2 R1 G1 _; obtain ⟨a1, n1, hv1, _, _⟩ := R1.form; obtain ⟨l1, hl1⟩ : ∃ l1, (ints T.lits ++ [Value.int .i64 (-((m : Int) + 1))]).length = l1 := ⟨_, rfl⟩; rw [hl1] at hv1; subst hv1; clear hl1; have M3 := (MM.out.alloc _).grew .li (by rw [HEL.out]; exact G1) R1; have c3' : w2.cell? ⟨b, 3, none⟩ = some (val .li) := M3.bcell 3; have f3' := M3.bfr 3; have HM3 := Lib.hid M3; have K2 : Hid (Keep B w w2) := Lib.hid ((K1.out.alloc MM.out.lt _).grown G1.1 (MM.out.alloc _).lt (fun k hk => MM.out.nB .li k (by rw [HEL.out]; exact hk))); clear R1 G1 M3)
      go_end0
      have M4 := HM3.out.setBox 3 (.slice a1 l1 n1)
      rw [boxOf_li] at M4
      refine ⟨rfl, K2.out.setCell HM.out.base _, _, _, M4, ?_⟩
      have := HT.out.make (-((m : Int) + 1)) r (.slice a1 l1 n1)
      rw [HV.out, show (-((m : Int) + 1)).natAbs - 1 = m from by omega, show sgn (-((m : Int) + 1)) = -1 from if_pos (by omega)] at this
      exact this
  · obtain rfl : x = (m : Int) + 1 := by omega
    have e1 : decide ((m : Int) + 1 < 0) = false := decide_eq_false hneg
    have hi : (m : Int) < (q : Int) := by omega
    have hi0 : (0 : Int) ≤ (m : Int) := by omega
    have hi1 : (m : Int) ≤ (q : Int) := by omega
    have hw1 : IntKind.i64.wrap (m : Int) = (m : Int) := by simp [IntKind.wrap, IntKind.signed, IntKind.bits]; omega
    clear hx hm' hneg
    go_enter Try.func45, Try.ntmps45
    go_wp2_with fail
    clear e1
    have c2d : w.drew.cell? ⟨b, 2, none⟩ = some (.slice (some ⟨g, 0, none⟩) q c) := c2
    go_region_law (go_simp; go_at_call 12; refine HL.out.mono ?_; rintro e w' ⟨rfl, rfl⟩)
    all_goals
      obtain ⟨W, hW⟩ : ∃ W, World.drew (((w.setCell ⟨g, m * 3, none⟩ (.int .i64 1)).setCell ⟨g, m * 3 + 1, none⟩ (.int .i64 lv)).setCell ⟨g, m * 3 + 2, none⟩ (.int .i64 r)) = W := ⟨_, rfl⟩
      rw [hW]
      have M1 := (HM.out.storeF HE.out HT.out.fa (by rw [HQ.out]; exact hmq) (1, (lv : Int), r)).drew
      rw [hW] at M1
      have K1 : Hid (Keep B w W) := Lib.hid (by
        rw [← hW]
        have hg' : ¬ B g := HM.out.nB .fa g (by rw [HE.out]; rfl)
        exact ((((Keep.refl B w).setCell (p := ⟨g, m * 3, none⟩) hg' _).setCell (p := ⟨g, m * 3 + 1, none⟩) hg' _).setCell (p := ⟨g, m * 3 + 2, none⟩) hg' _).drew)
      obtain ⟨la, lc, el⟩ := M1.li (show upS ct .fa _ .li = ints T.lits from HT.out.li)
      obtain ⟨ll, hll⟩ : ∃ ll, T.lits.length = ll := ⟨_, rfl⟩
      rw [hll] at el hl
      have c3 : W.cell? ⟨b, 3, none⟩ = some (val .li) := M1.bcell 3
      have f3 := M1.bfr 3
      rw [el] at c3
      have R0 := (M1.alloc (.cells #[.int .i64 ((m : Int) + 1)] 3)).row .li
      rw [el] at R0
      rw [show upS ct .fa (flatF (T.F.set m (1, (lv : Int), r))) .li = ints T.lits from HT.out.li] at R0
      have RX := Lib.hid (Row.one W 3 (.int .i64 ((m : Int) + 1)))
      have MM := Lib.hid M1
      have RR := Lib.hid R0
      have HLL := Lib.hid hll
      have HEL := Lib.hid el
      clear hW M1 R0 hll el c2 c2d d1 d2 d3 f0 f1 f2 HL
      go_wp2_with (at_builtin; refine wpList_app rfl (.tmp 29) (.tmp 31) rfl (.slice la ll lc) (ints T.lits) [.int .i64 ((m : Int) + 1)] rfl RR.out ⟨W.heap.size, 0, none⟩ 1 1 rfl rfl (fun j u hj => one_at (RX.out) hj) (by simp [Value.oneCell']) (by rw [ints_len, HLL.out]; omega) ?_; intro v1 w2 R1 G1 _; obtain ⟨a1, n1, hv1, _, _⟩ := R1.form; obtain ⟨l1, hl1⟩ : ∃ l1, (ints T.lits ++ [Value.int .i64 ((m : Int) + 1)]).length = l1 := ⟨_, rfl⟩; rw [hl1] at hv1; subst hv1; clear hl1; have M3 := (MM.out.alloc _).grew .li (by rw [HEL.out]; exact G1) R1; have c3' : w2.cell? ⟨b, 3, none⟩ = some (val .li) := M3.bcell 3; have f3' := M3.bfr 3; have HM3 := Lib.hid M3; have K2 : Hid (Keep B w w2) := Lib.hid ((K1.out.alloc MM.out.lt _).grown G1.1 (MM.out.alloc _).lt (fun k hk => MM.out.nB .li k (by rw [HEL.out]; exact hk))); clear R1 G1 M3)
      go_end0
      have M4 := HM3.out.setBox 3 (.slice a1 l1 n1)
      rw [boxOf_li] at M4
      refine ⟨rfl, K2.out.setCell HM.out.base _, _, _, M4, ?_⟩
      have := HT.out.make ((m : Int) + 1) r (.slice a1 l1 n1)
      rw [HV.out, show ((m : Int) + 1).natAbs - 1 = m from by omega, show sgn ((m : Int) + 1) = 1 from if_neg (by omega)] at this
      exact this
theorem make_any {w : World} {B : Nat → Prop} {b : Nat} {T : Tr} (h : TrailAt w B b T) (x r : Int) (hx : 1 ≤ x.natAbs ∧ x.natAbs ≤ T.F.length) (hn : T.F.length ≤ 20000) (hl : T.lits.length ≤ 900000) :
    Calls Try.prog 45 #[.pointer (some ⟨b, 0, none⟩), .int .i64 x, .int .i64 r] w fun e w' => e = .returned (.tuple #[]) ∧ Keep B w w' ∧ TrailAt w' B b (makeT T x r) := by
  obtain ⟨val, ct, h⟩ := h
  exact (make_val ⟨ct, h⟩ x r hx hn hl).mono fun e w' h => by
    obtain ⟨h1, h2, v, h3⟩ := h
    exact ⟨h1, h2, h3.any⟩
end Go.Proofs.Ytngegkgmenfelaa
