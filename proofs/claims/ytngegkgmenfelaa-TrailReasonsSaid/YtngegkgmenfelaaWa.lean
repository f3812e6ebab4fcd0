/-
  A trail as it lies in memory: its abstract form; side, of, Value, Level, LevelOf, Reason.
-/
import Derived.Test.YtngegkgmenfelaaChecked
import Derived.Test.YtngegkgmenfelaaO
import Derived.ProofKit
import Derived.WalkKit
import Derived.Laws.Cover2
import Derived.Calls
import Derived.Below
import Derived.Deep.RegionHeld3
import Derived.Deep.DrawnRows
import Derived.Outline
import Derived.BigQuiet
import Derived.Laws.ResultCell
import Derived.BigRegion
namespace Go.Proofs.Ytngegkgmenfelaa
open Go.RowKit Go.Lib
attribute [local go_sem ↓] Go.wp_at_zero Go.wp_at_succ

/-- A trail, as it stands. -/
structure Tr where
  L : List (List Int)
  W : List (List Int)
  F : List (Int × Int × Int)
  lits : List Int
  starts : List Int
  nx : Nat
  short : List Int

def ints (xs : List Int) : List Value := xs.map (Value.int .i64)
def flatF (F : List (Int × Int × Int)) : List Value := F.flatMap fun f => [.int .i64 f.1, .int .i64 f.2.1, .int .i64 f.2.2]
theorem flatF_len (F : List (Int × Int × Int)) : (flatF F).length = F.length * 3 := by
  induction F with
  | nil => rfl
  | cons a F ih => simp [flatF] at ih ⊢; omega
theorem flatF_at (F : List (Int × Int × Int)) (i : Nat) (hi : i < F.length) : (flatF F)[i * 3]? = some (.int .i64 (F.getD i (0, 0, 0)).1) ∧ (flatF F)[i * 3 + 1]? = some (.int .i64 (F.getD i (0, 0, 0)).2.1) ∧ (flatF F)[i * 3 + 2]? = some (.int .i64 (F.getD i (0, 0, 0)).2.2) := by
  induction F generalizing i with
  | nil => simp at hi
  | cons a F ih =>
    have e : flatF (a :: F) = .int .i64 a.1 :: .int .i64 a.2.1 :: .int .i64 a.2.2 :: flatF F := rfl
    cases i with
    | zero => rw [e]; simp
    | succ i =>
      have := ih i (by simpa using hi)
      rw [e, show (i + 1) * 3 = i * 3 + 3 from by omega]
      simpa using this

structure Tie (T : Tr) (val : Sl → Value) (ct : Sl → List Value) : Prop where
  cl : ct .cl = (List.range T.L.length).map (fun k => val (.C k))
  wa : ct .wa = (List.range T.W.length).map (fun j => val (.W j))
  fa : ct .fa = flatF T.F
  li : ct .li = ints T.lits
  st : ct .st = ints T.starts
  sh : ct .sh = ints T.short
  C : ∀ k, ct (.C k) = ints (T.L.getD k [])
  W : ∀ j, ct (.W j) = ints (T.W.getD j [])

def boxOf (val : Sl → Value) (nx : Nat) : Array Value := #[val .cl, val .wa, val .fa, val .li, val .st, .int .i64 nx, val .sh]

/-- The trail T at block b; none of it in the blocks of B, which lie there. -/
def TrailAt (w : World) (B : Nat → Prop) (b : Nat) (T : Tr) : Prop := ∃ val ct, Mem w B b (boxOf val T.nx) val ct ∧ Tie T val ct

theorem TrailAt.below {w w' : World} {B : Nat → Prop} {b : Nat} {T : Tr} {n : Nat} (h : TrailAt w B b T) (hb : Below n w w') (hB : w.heap.size ≤ n) : TrailAt w' B b T := by
  obtain ⟨val, ct, h1, h2⟩ := h
  exact ⟨val, ct, h1.below hb hB, h2⟩

/-- A fact's row: where it lies. -/
theorem Row.at3 {w : World} {e : TypeId} {v : Value} {F : List (Int × Int × Int)} (h : Row w e 3 v (flatF F)) (hn : 0 < F.length) :
    ∃ g c, v = .slice (some ⟨g, 0, none⟩) F.length c ∧ F.length ≤ c ∧ c ≤ maxLen ∧ g < w.heap.size ∧ (∀ j u, (flatF F)[j]? = some u → w.cell? ⟨g, j, none⟩ = some u) ∧ ∀ j, w.frozen? ⟨g, j, none⟩ = false := (h.atZ (flatF_len F) (by omega)).2 hn
theorem Row.len3 {w : World} {e : TypeId} {v : Value} {F : List (Int × Int × Int)} (h : Row w e 3 v (flatF F)) : ∃ a c, v = .slice a F.length c := by
  obtain ⟨a, c, e, _⟩ := (h.atZ (flatF_len F) (by omega)).1
  exact ⟨a, c, e⟩

def sideI (x : Int) : Int := if x < 0 then -2 * x - 1 else 2 * x - 2
theorem side_any (x : Int) (w : World) (hx : -1000000 ≤ x ∧ x ≤ 1000000) : Calls Try.prog 59 #[.int .i64 x] w fun e w' => e = .returned (.int .i64 (sideI x)) ∧ w' = w := by
  by_cases h : x < 0
  · rw [show sideI x = -2 * x - 1 from if_pos h]
    have hd : decide (x < 0) = true := decide_eq_true h
    have e1 : IntKind.i64.wrap (-2 * x) = -2 * x := by simp [IntKind.wrap, IntKind.signed, IntKind.bits]; omega
    have e2 : IntKind.i64.wrap (-2 * x - 1) = -2 * x - 1 := by simp [IntKind.wrap, IntKind.signed, IntKind.bits]; omega
    go_enter Try.func59, Try.ntmps59
    go_wp2_with fail
    go_ret
    exact ⟨rfl, rfl⟩
  · rw [show sideI x = 2 * x - 2 from if_neg h]
    have hd : decide (x < 0) = false := decide_eq_false h
    have e1 : IntKind.i64.wrap (2 * x) = 2 * x := by simp [IntKind.wrap, IntKind.signed, IntKind.bits]; omega
    have e2 : IntKind.i64.wrap (2 * x - 2) = 2 * x - 2 := by simp [IntKind.wrap, IntKind.signed, IntKind.bits]; omega
    go_enter Try.func59, Try.ntmps59
    go_wp2_with fail
    go_ret
    exact ⟨rfl, rfl⟩

/-- What is known of a literal's variable. -/
def isVar (T : Tr) (x : Int) : Bool := decide (1 ≤ x.natAbs ∧ x.natAbs ≤ T.F.length)
def factOf (T : Tr) (x : Int) : Int × Int × Int := if isVar T x then T.F.getD (x.natAbs - 1) (0, 0, 0) else (0, -1, -1)
def valOf (T : Tr) (x : Int) : Int := if x < 0 then -(factOf T x).1 else (factOf T x).1

set_option maxRecDepth 100000 in
set_option maxHeartbeats 2000000 in
theorem of_any {w : World} {B : Nat → Prop} {b : Nat} {T : Tr} (h : TrailAt w B b T) (x : Int) (hx : In64 x) (hn : T.F.length ≤ 20000) :
    Calls Try.prog 44 #[.pointer (some ⟨b, 0, none⟩), .int .i64 x] w fun e w' => e = .returned (.tuple #[.agg #[.int .i64 (factOf T x).1, .int .i64 (factOf T x).2.1, .int .i64 (factOf T x).2.2], .bool (isVar T x)]) ∧ Below w.heap.size w w' := by
  obtain ⟨val, ct, hm, ht⟩ := h
  have hf := hm.row .fa
  rw [ht.fa] at hf
  have c2 : w.cell? ⟨b, 2, none⟩ = some (val .fa) := hm.bcell 2
  have hb : b < w.heap.size := lt_of_block hm.box
  have fin : ∀ o, Below w.heap.size w (w.alloc o) := fun o => (Below.refl _ _).alloc (Nat.le_refl _) _
  have FIN := Lib.hid fin
  clear fin
  by_cases hv : isVar T x = true
  · have hv' : 1 ≤ x.natAbs ∧ x.natAbs ≤ T.F.length := of_decide_eq_true hv
    obtain ⟨g, c, e, h1, h2, h3, hc, hfr⟩ := hf.at3 (by omega)
    rw [show factOf T x = T.F.getD (x.natAbs - 1) (0, 0, 0) from if_pos hv]
    rw [hv]
    rw [e] at c2
    obtain ⟨m, hm'⟩ : ∃ m, x.natAbs = m + 1 := ⟨x.natAbs - 1, by omega⟩
    rw [hm', Nat.add_sub_cancel]
    obtain ⟨k1, k2, k3⟩ := flatF_at T.F m (by omega)
    have d1 := hc _ _ k1
    have d2 := hc _ _ k2
    have d3 := hc _ _ k3
    generalize hq : T.F.length = q at *
    generalize T.F.getD m (0, 0, 0) = f at *
    have hmq : m < q := by have := hv'.2; omega
    clear hc hfr e hv hf hq k1 k2 k3 ht hm hv'
    by_cases hneg : x < 0
    · obtain rfl : x = -((m : Int) + 1) := by omega
      have w1 : ¬ ((m : Int) + 1 ≤ -((m : Int) + 1)) := by omega
      go_enter Try.func44, Try.ntmps44
      go_wp2_with fail
      (try simp only [Exit.inBlock, Exit.then])
      refine bodyPost_ret (v := .tuple #[.agg #[.int .i64 f.1, .int .i64 f.2.1, .int .i64 f.2.2], .bool true]) ?_ rfl ⟨rfl, FIN.out _⟩
      rw [results_cell_tmp rfl]; go_simp
    · obtain rfl : x = (m : Int) + 1 := by omega
      have w1 : (-((m : Int) + 1)) ≤ (m : Int) + 1 := by omega
      go_enter Try.func44, Try.ntmps44
      go_wp2_with fail
      (try simp only [Exit.inBlock, Exit.then])
      refine bodyPost_ret (v := .tuple #[.agg #[.int .i64 f.1, .int .i64 f.2.1, .int .i64 f.2.2], .bool true]) ?_ rfl ⟨rfl, FIN.out _⟩
      rw [results_cell_tmp rfl]; go_simp
  · obtain ⟨a, c, e⟩ := hf.len3
    have hv' : ¬ (1 ≤ x.natAbs ∧ x.natAbs ≤ T.F.length) := fun h => hv (decide_eq_true h)
    rw [show factOf T x = (0, -1, -1) from if_neg hv, show isVar T x = false from by simpa using hv]
    rw [e] at c2
    generalize hq : T.F.length = q at *
    clear hf e hq ht hm hv
    by_cases h0 : x = 0
    · subst h0
      go_enter Try.func44, Try.ntmps44
      go_wp2_with fail
      (try simp only [Exit.inBlock, Exit.then])
      refine bodyPost_ret (v := .tuple #[.agg #[.int .i64 0, .int .i64 (-1), .int .i64 (-1)], .bool false]) ?_ rfl ⟨rfl, FIN.out _⟩
      rw [results_cell_tmp rfl]; go_simp
    · by_cases hneg : x < 0
      · by_cases hmin : x = -9223372036854775808
        · subst hmin
          have w1 : wrap64 9223372036854775808 = -9223372036854775808 := by unfold wrap64; omega
          go_enter Try.func44, Try.ntmps44
          go_wp2_with fail
          (try simp only [Exit.inBlock, Exit.then])
          refine bodyPost_ret (v := .tuple #[.agg #[.int .i64 0, .int .i64 (-1), .int .i64 (-1)], .bool false]) ?_ rfl ⟨rfl, FIN.out _⟩
          rw [results_cell_tmp rfl]; go_simp
        · obtain ⟨m, rfl⟩ : ∃ m : Nat, x = -((m : Int) + 1) := ⟨x.natAbs - 1, by omega⟩
          have w1 : ¬ ((m : Int) + 1 ≤ -((m : Int) + 1)) := by omega
          have w2 : (q : Int) < (m : Int) + 1 := by omega
          have w3 : wrap64 ((m : Int) + 1) = (m : Int) + 1 := by have := hx.1; unfold wrap64; omega
          clear hv' hx
          go_enter Try.func44, Try.ntmps44
          go_wp2_with fail
          clear w1 w2 w3
          (try simp only [Exit.inBlock, Exit.then])
          refine bodyPost_ret (v := .tuple #[.agg #[.int .i64 0, .int .i64 (-1), .int .i64 (-1)], .bool false]) ?_ rfl ⟨rfl, FIN.out _⟩
          rw [results_cell_tmp rfl]; go_simp
      · obtain ⟨m, rfl⟩ : ∃ m : Nat, x = (m : Int) + 1 := ⟨x.natAbs - 1, by omega⟩
        have w1 : (-((m : Int) + 1)) ≤ (m : Int) + 1 := by omega
        have w2 : (q : Int) < (m : Int) + 1 := by omega
        have w3 : wrap64 (-((m : Int) + 1)) = -((m : Int) + 1) := by have := hx.2; unfold wrap64; omega
        clear hv' hx
        go_enter Try.func44, Try.ntmps44
        go_wp2_with fail
        clear w1 w2 w3
        (try simp only [Exit.inBlock, Exit.then])
        refine bodyPost_ret (v := .tuple #[.agg #[.int .i64 0, .int .i64 (-1), .int .i64 (-1)], .bool false]) ?_ rfl ⟨rfl, FIN.out _⟩
        rw [results_cell_tmp rfl]; go_simp

theorem of_fact {w : World} {B : Nat → Prop} {b : Nat} {T : Tr} (h : TrailAt w B b T) (x : Int) (hx : In64 x) (hn : T.F.length ≤ 20000) {f : Int × Int × Int} (hf : factOf T x = f) :
    Calls Try.prog 44 #[.pointer (some ⟨b, 0, none⟩), .int .i64 x] w fun e w' => e = .returned (.tuple #[.agg #[.int .i64 f.1, .int .i64 f.2.1, .int .i64 f.2.2], .bool (isVar T x)]) ∧ Below w.heap.size w w' := by
  subst hf; exact of_any h x hx hn

/-- All values are small. -/
def Small (T : Tr) : Prop := ∀ x, -1 ≤ (factOf T x).1 ∧ (factOf T x).1 ≤ 1

set_option maxRecDepth 100000 in
theorem Value_any {w : World} {B : Nat → Prop} {b : Nat} {T : Tr} (h : TrailAt w B b T) (x : Int) (hx : In64 x) (hn : T.F.length ≤ 20000) (hs : Small T) :
    Calls Try.prog 24 #[.pointer (some ⟨b, 0, none⟩), .int .i64 x] w fun e w' => e = .returned (.int .i64 (valOf T x)) ∧ Below w.heap.size w w' := by
  obtain ⟨f, hf⟩ : ∃ f, factOf T x = f := ⟨_, rfl⟩
  have hO := Lib.hid (of_fact h x hx hn hf)
  have hw := hs x
  unfold valOf
  rw [hf] at hw ⊢
  have hw2 : wrap64 (-f.1) = -f.1 := by unfold wrap64; omega
  clear h hf hs hn
  by_cases hneg : x < 0
  · rw [if_pos hneg]
    have hd : decide (x < 0) = true := decide_eq_true hneg
    go_enter Try.func24, Try.ntmps24
    go_wp2_with (go_at_call 44; refine hO.out.mono ?_; rintro e w1 ⟨rfl, h1⟩; have B1 := Lib.hid (h1.alloc h1.size (.cells #[.int .i64 f.1, .int .i64 f.2.1, .int .i64 f.2.2] 64)); clear h1)
    go_ret
    exact ⟨rfl, B1.out⟩
  · rw [if_neg hneg]
    have hd : decide (x < 0) = false := decide_eq_false hneg
    go_enter Try.func24, Try.ntmps24
    go_wp2_with (go_at_call 44; refine hO.out.mono ?_; rintro e w1 ⟨rfl, h1⟩; have B1 := Lib.hid (h1.alloc h1.size (.cells #[.int .i64 f.1, .int .i64 f.2.1, .int .i64 f.2.2] 64)); clear h1)
    go_ret
    exact ⟨rfl, B1.out⟩

theorem LevelOf_any {w : World} {B : Nat → Prop} {b : Nat} {T : Tr} (h : TrailAt w B b T) (x : Int) (hx : In64 x) (hn : T.F.length ≤ 20000) :
    Calls Try.prog 22 #[.pointer (some ⟨b, 0, none⟩), .int .i64 x] w fun e w' => e = .returned (.int .i64 (factOf T x).2.1) ∧ Below w.heap.size w w' := by
  obtain ⟨f, hf⟩ : ∃ f, factOf T x = f := ⟨_, rfl⟩
  have hO := Lib.hid (of_fact h x hx hn hf)
  rw [hf]
  clear h hf hn
  go_enter Try.func22, Try.ntmps22
  go_wp2_with (go_at_call 44; refine hO.out.mono ?_; rintro e w1 ⟨rfl, h1⟩; have B1 := Lib.hid (h1.alloc h1.size (.cells #[.int .i64 f.1, .int .i64 f.2.1, .int .i64 f.2.2] 64)); clear h1)
  go_ret
  exact ⟨rfl, B1.out⟩

theorem Reason_any {w : World} {B : Nat → Prop} {b : Nat} {T : Tr} (h : TrailAt w B b T) (x : Int) (hx : In64 x) (hn : T.F.length ≤ 20000) :
    Calls Try.prog 23 #[.pointer (some ⟨b, 0, none⟩), .int .i64 x] w fun e w' => e = .returned (.int .i64 (factOf T x).2.2) ∧ Below w.heap.size w w' := by
  obtain ⟨f, hf⟩ : ∃ f, factOf T x = f := ⟨_, rfl⟩
  have hO := Lib.hid (of_fact h x hx hn hf)
  rw [hf]
  clear h hf hn
  go_enter Try.func23, Try.ntmps23
  go_wp2_with (go_at_call 44; refine hO.out.mono ?_; rintro e w1 ⟨rfl, h1⟩; have B1 := Lib.hid (h1.alloc h1.size (.cells #[.int .i64 f.1, .int .i64 f.2.1, .int .i64 f.2.2] 64)); clear h1)
  go_ret
  exact ⟨rfl, B1.out⟩

theorem ints_len (xs : List Int) : (ints xs).length = xs.length := by simp [ints]

theorem Level_any {w : World} {B : Nat → Prop} {b : Nat} {T : Tr} (h : TrailAt w B b T) : Calls Try.prog 12 #[.pointer (some ⟨b, 0, none⟩)] w fun e w' => e = .returned (.int .i64 (T.starts.length : Nat)) ∧ w' = w := by
  obtain ⟨val, ct, hm, ht⟩ := h
  have hr := hm.row .st
  rw [ht.st] at hr
  obtain ⟨a, c, e, _, _⟩ := hr.form
  have c4 : w.cell? ⟨b, 4, none⟩ = some (val .st) := hm.bcell 4
  rw [e, ints_len] at c4
  generalize T.starts.length = q at *
  clear e hr ht hm
  go_enter Try.func12, Try.ntmps12
  go_wp2_with fail
  go_ret
  exact ⟨rfl, rfl⟩

theorem Clauses_any {w : World} {B : Nat → Prop} {b : Nat} {T : Tr} (h : TrailAt w B b T) : Calls Try.prog 26 #[.pointer (some ⟨b, 0, none⟩)] w fun e w' => e = .returned (.int .i64 (T.L.length : Nat)) ∧ w' = w := by
  obtain ⟨val, ct, hm, ht⟩ := h
  have hr := hm.row .cl
  obtain ⟨a, c, e, _, _⟩ := hr.form
  have c4 : w.cell? ⟨b, 0, none⟩ = some (val .cl) := hm.bcell 0
  rw [e, ht.cl, List.length_map, List.length_range] at c4
  generalize T.L.length = q at *
  clear e hr ht hm
  go_enter Try.func26, Try.ntmps26
  go_wp2_with fail
  go_ret
  exact ⟨rfl, rfl⟩
end Go.Proofs.Ytngegkgmenfelaa
