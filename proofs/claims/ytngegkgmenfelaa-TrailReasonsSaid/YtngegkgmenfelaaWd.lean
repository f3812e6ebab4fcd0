/-
  Decide.
-/
import Derived.Test.YtngegkgmenfelaaWc
namespace Go.Proofs.Ytngegkgmenfelaa
open Go.RowKit Go.Lib
attribute [local go_sem ↓] Go.wp_at_zero Go.wp_at_succ

def startT (T : Tr) : Tr := { T with starts := T.starts ++ [((T.lits.length : Nat) : Int)] }
def decideT (T : Tr) (x : Int) : Tr := makeT (startT T) x (-1)

theorem boxOf_st (val : Sl → Value) (nx : Nat) (v : Value) : (boxOf val nx).setIfInBounds 4 v = boxOf (upS val .st v) nx := by simp [boxOf, upS]
theorem Tie.start {T : Tr} {val : Sl → Value} {ct : Sl → List Value} (h : Tie T val ct) (v : Value) : Tie (startT T) (upS val .st v) (upS ct .st (ints T.starts ++ [.int .i64 ((T.lits.length : Nat) : Int)])) where
  cl := h.cl
  wa := h.wa
  fa := h.fa
  li := h.li
  st := by rw [upS_same]; simp [startT, ints]
  sh := h.sh
  C := h.C
  W := h.W
theorem Mem.st {w : World} {B : Nat → Prop} {b : Nat} {bx : Array Value} {val : Sl → Value} {ct : Sl → List Value} (h : Mem w B b bx val ct) {xs : List Int} (hl : ct .st = ints xs) : ∃ a c, val .st = .slice a xs.length c := by
  have := h.row .st
  rw [hl] at this
  obtain ⟨a, c, e, _, _⟩ := this.form
  rw [ints_len] at e
  exact ⟨a, c, e⟩

set_option maxRecDepth 100000 in
theorem Decide_arg {w : World} {B : Nat → Prop} {b : Nat} {T : Tr} (h : TrailAt w B b T) (x : Int) (hx : In64 x) (hn : T.F.length ≤ 20000) (hv : isVar T x = false) :
    Calls Try.prog 27 #[.pointer (some ⟨b, 0, none⟩), .int .i64 x] w fun e w' => e = .returned (.int .i64 1) ∧ Below w.heap.size w w' := by
  obtain ⟨f, hf⟩ : ∃ f, factOf T x = f := ⟨_, rfl⟩
  have hO := Lib.hid (of_fact h x hx hn hf)
  rw [hv] at hO
  clear h hf hn hv
  go_enter Try.func27, Try.ntmps27
  go_wp2_with (go_at_call 44; refine hO.out.mono ?_; rintro e w1 ⟨rfl, h1⟩; have B1 := Lib.hid (h1.alloc h1.size (.cells #[.int .i64 f.1, .int .i64 f.2.1, .int .i64 f.2.2] 64)); clear h1)
  go_ret
  exact ⟨rfl, B1.out⟩

set_option maxRecDepth 100000 in
theorem Decide_there {w : World} {B : Nat → Prop} {b : Nat} {T : Tr} (h : TrailAt w B b T) (x : Int) (hx : In64 x) (hn : T.F.length ≤ 20000) (hv : isVar T x = true) (h0 : (factOf T x).1 ≠ 0) :
    Calls Try.prog 27 #[.pointer (some ⟨b, 0, none⟩), .int .i64 x] w fun e w' => e = .returned (.int .i64 7) ∧ Below w.heap.size w w' := by
  obtain ⟨f, hf⟩ : ∃ f, factOf T x = f := ⟨_, rfl⟩
  have hO := Lib.hid (of_fact h x hx hn hf)
  rw [hv] at hO
  rw [hf] at h0
  have hd : (f.1 != 0) = true := by simpa using h0
  clear h hf hn hv h0
  go_enter Try.func27, Try.ntmps27
  go_wp2_with (go_at_call 44; refine hO.out.mono ?_; rintro e w1 ⟨rfl, h1⟩; have B1 := Lib.hid (h1.alloc h1.size (.cells #[.int .i64 f.1, .int .i64 f.2.1, .int .i64 f.2.2] 64)); clear h1)
  go_ret
  exact ⟨rfl, B1.out⟩

set_option maxRecDepth 100000 in
set_option maxHeartbeats 4000000 in
theorem Decide_ok {w : World} {B : Nat → Prop} {b : Nat} {T : Tr} (h : TrailAt w B b T) (x : Int) (hx : In64 x) (hn : T.F.length ≤ 20000) (hv : isVar T x = true) (h0 : (factOf T x).1 = 0) (hl : T.lits.length ≤ 900000) (hs : T.starts.length ≤ 900000) :
    Calls Try.prog 27 #[.pointer (some ⟨b, 0, none⟩), .int .i64 x] w fun e w' => e = .returned (.int .i64 0) ∧ Keep B w w' ∧ TrailAt w' B b (decideT T x) := by
  obtain ⟨f, hf⟩ : ∃ f, factOf T x = f := ⟨_, rfl⟩
  have hO := Lib.hid (of_fact h x hx hn hf)
  rw [hv] at hO
  rw [hf] at h0
  have hd : (f.1 != 0) = false := by simpa using h0
  have hv' : 1 ≤ x.natAbs ∧ x.natAbs ≤ T.F.length := of_decide_eq_true hv
  have HV := Lib.hid hv'
  have HN := Lib.hid hn
  obtain ⟨ll, hll⟩ : ∃ ll, T.lits.length = ll := ⟨_, rfl⟩
  obtain ⟨sl, hsl⟩ : ∃ sl, T.starts.length = sl := ⟨_, rfl⟩
  rw [hll] at hl
  rw [hsl] at hs
  have HLL := Lib.hid hll
  have HSL := Lib.hid hsl
  have H := Lib.hid h
  have HTB : Hid (There B w) := Lib.hid (by obtain ⟨_, _, hm, _⟩ := h; exact hm.lt)
  clear h hf hn hv h0 hv' hll hsl hx
  go_enter Try.func27, Try.ntmps27
  go_wp2_with (go_at_call 44; refine hO.out.mono ?_; rintro e w1 ⟨rfl, h1⟩; have B1 := Lib.hid (h1.alloc h1.size (.cells #[.int .i64 f.1, .int .i64 f.2.1, .int .i64 f.2.2] 64)); clear h1)
  obtain ⟨W, hW⟩ : ∃ W, w1.alloc (.cells #[.int .i64 f.1, .int .i64 f.2.1, .int .i64 f.2.2] 64) = W := ⟨_, rfl⟩
  rw [hW] at B1 ⊢
  clear hW
  obtain ⟨val, ct, hm, ht⟩ := H.out.below B1.out (Nat.le_refl _)
  obtain ⟨la, lc, el⟩ := hm.li ht.li
  obtain ⟨sa, sc, es⟩ := hm.st ht.st
  rw [HLL.out] at el
  rw [HSL.out] at es
  have c3 : W.cell? ⟨b, 3, none⟩ = some (val .li) := hm.bcell 3
  have c4 : W.cell? ⟨b, 4, none⟩ = some (val .st) := hm.bcell 4
  have hb : b < W.heap.size := lt_of_block hm.box
  rw [el] at c3
  rw [es] at c4
  have R0 := (hm.drew.alloc (.cells #[.int .i64 ll] 3)).row .st
  rw [es, ht.st] at R0
  have RR := Lib.hid R0
  have RX := Lib.hid (Row.one W 3 (.int .i64 ll))
  have MM := Lib.hid hm
  have HT := Lib.hid ht
  have HES := Lib.hid es
  clear R0 hm ht es el
  go_region_law (refine step_app rfl (.tmp 24) (.tmp 30) rfl (.slice sa sl sc) (ints T.starts) [.int .i64 ll] rfl RR.out ⟨W.heap.size, 0, none⟩ 1 1 rfl rfl (fun j u hj => one_at (RX.out) hj) (by simp [Value.oneCell']) (by rw [ints_len, HSL.out]; omega) ?_; intro v1 w2 R1 G1; obtain ⟨a1, n1, hv1, _, _⟩ := R1.form; obtain ⟨l1, hl1⟩ : ∃ l1, (ints T.starts ++ [Value.int .i64 ll]).length = l1 := ⟨_, rfl⟩; rw [hl1] at hv1; subst hv1; clear hl1; have M3 := (MM.out.drew.alloc _).grew .st (by rw [HES.out]; exact G1) R1; have c4' : w2.cell? ⟨b, 4, none⟩ = some (val .st) := M3.bcell 4; have f4' := M3.bfr 4; have HM3 := Lib.hid M3; have K2 : Hid (Keep B w w2) := Lib.hid ((((Keep.refl B w).below B1.out HTB.out).drew.alloc MM.out.lt _).grown G1.1 (MM.out.drew.alloc _).lt (fun k hk => MM.out.nB .st k (by rw [HES.out]; exact hk))); clear R1 G1 M3)
  all_goals
    have M4 := HM3.out.setBox 4 (.slice a1 l1 n1)
    rw [boxOf_st] at M4
    have T1 : Hid (TrailAt (w2.setCell ⟨b, 4, none⟩ (.slice a1 l1 n1)) B b (startT T)) := Lib.hid ⟨_, _, M4, by
      have := HT.out.start (.slice a1 l1 n1)
      rw [HLL.out] at this
      exact this⟩
    have K3 : Hid (Keep B w (w2.setCell ⟨b, 4, none⟩ (.slice a1 l1 n1))) := Lib.hid (K2.out.setCell HM3.out.base _)
    clear M4 HM3 K2 c4' f4' RR RX MM c3 c4 hb
    generalize w2.setCell ⟨b, 4, none⟩ (.slice a1 l1 n1) = W4 at *
    go_wp2_with (go_at_call 45; refine (make_any T1.out x (-1) HV.out HN.out (by rw [show (startT T).lits.length = ll from HLL.out]; exact hl)).mono ?_; rintro e w5 ⟨rfl, k5, t5⟩; have K5 := Lib.hid k5; have T5 := Lib.hid t5; clear k5 t5)
    go_ret
    exact ⟨rfl, K3.out.trans K5.out, T5.out⟩
end Go.Proofs.Ytngegkgmenfelaa
