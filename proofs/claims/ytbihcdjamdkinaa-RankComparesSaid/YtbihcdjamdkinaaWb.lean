/-
  A queue as it lies in memory; ahead.
-/
import Derived.Test.YtbihcdjamdkinaaO
import Derived.Deep.RegionHeld3
import Derived.Deep.DrawnRows
import Derived.Outline
namespace Go.Proofs.Ytbihcdjamdkinaa
open Go.RowKit Go.Lib
attribute [local go_sem ↓] Go.wp_at_zero Go.wp_at_succ

/-- The queue of a Rank, at block b: its places, by variables; its activities; how often these were scaled. None of it lies in the blocks of B, which lie there. -/
structure QAt (w : World) (B : Nat → Prop) (b : Nat) (lv pv av : Value) (L P A : List Int) (sc : Int) : Prop where
  box : w.heap[b]? = some (.cells #[lv, pv, av, .int .i64 sc] 65 (0, 0))
  l : OwnI w 0 lv L
  p : OwnI w 0 pv P
  a : OwnI w 0 av A
  lp : ApartV lv pv
  la : ApartV lv av
  pa : ApartV pv av
  bl : lv.ownBlock ≠ some b
  bp : pv.ownBlock ≠ some b
  ba : av.ownBlock ≠ some b
  base : ¬ B b
  nl : ∀ k, lv.ownBlock = some k → ¬ B k
  np : ∀ k, pv.ownBlock = some k → ¬ B k
  na : ∀ k, av.ownBlock = some k → ¬ B k
  lt : There B w

theorem QAt.below {w w' : World} {B : Nat → Prop} {b : Nat} {lv pv av : Value} {L P A : List Int} {sc : Int} {B' : Nat} (h : QAt w B b lv pv av L P A sc) (hb : Below B' w w') (hB : w.heap.size ≤ B') : QAt w' B b lv pv av L P A sc :=
  { h with
    box := by rw [hb.block b (by have := lt_of_block h.box; omega)]; exact h.box
    l := h.l.below hb hB
    p := h.p.below hb hB
    a := h.a.below hb hB
    lt := h.lt.below hb }

theorem QAt.c0 {w : World} {B : Nat → Prop} {b : Nat} {lv pv av : Value} {L P A : List Int} {sc : Int} (h : QAt w B b lv pv av L P A sc) : w.cell? ⟨b, 0, none⟩ = some lv := by simp [World.cell?, h.box]
theorem QAt.c1 {w : World} {B : Nat → Prop} {b : Nat} {lv pv av : Value} {L P A : List Int} {sc : Int} (h : QAt w B b lv pv av L P A sc) : w.cell? ⟨b, 1, none⟩ = some pv := by simp [World.cell?, h.box]
theorem QAt.c2 {w : World} {B : Nat → Prop} {b : Nat} {lv pv av : Value} {L P A : List Int} {sc : Int} (h : QAt w B b lv pv av L P A sc) : w.cell? ⟨b, 2, none⟩ = some av := by simp [World.cell?, h.box]
theorem QAt.c3 {w : World} {B : Nat → Prop} {b : Nat} {lv pv av : Value} {L P A : List Int} {sc : Int} (h : QAt w B b lv pv av L P A sc) : w.cell? ⟨b, 3, none⟩ = some (.int .i64 sc) := by simp [World.cell?, h.box]
theorem QAt.fr {w : World} {B : Nat → Prop} {b : Nat} {lv pv av : Value} {L P A : List Int} {sc : Int} (h : QAt w B b lv pv av L P A sc) (o : Nat) : w.frozen? ⟨b, o, none⟩ = false := by simp [World.frozen?, h.box]

/-! ### numbers compared -/
def cmpI (a b : Int) : Int := if a < b then -1 else if b < a then 1 else 0

theorem isNaNI_any (a : Int) (w : World) : Calls Try.prog 57 #[.int .i64 a] w fun e w' => e = .returned (.bool false) ∧ w' = w := by
  have h : (a != a) = false := by simp
  go_enter Try.func57, Try.ntmps57
  go_wp2
  go_ret
  exact ⟨rfl, rfl⟩

theorem cmpI_any (a b : Int) (w : World) : Calls Try.prog 55 #[.int .i64 a, .int .i64 b] w fun e w' => e = .returned (.int .i64 (cmpI a b)) ∧ w' = w := by
  by_cases h1 : a < b
  · rw [show cmpI a b = -1 from if_pos h1]
    go_enter Try.func55, Try.ntmps55
    go_wp2_with (go_at_call 57; refine (isNaNI_any _ _).mono ?_; rintro e w' ⟨rfl, rfl⟩)
    go_ret
    exact ⟨rfl, rfl⟩
  · by_cases h2 : b < a
    · rw [show cmpI a b = 1 from (if_neg h1).trans (if_pos h2)]
      go_enter Try.func55, Try.ntmps55
      go_wp2_with (go_at_call 57; refine (isNaNI_any _ _).mono ?_; rintro e w' ⟨rfl, rfl⟩)
      go_ret
      exact ⟨rfl, rfl⟩
    · rw [show cmpI a b = 0 from (if_neg h1).trans (if_neg h2)]
      go_enter Try.func55, Try.ntmps55
      go_wp2_with (go_at_call 57; refine (isNaNI_any _ _).mono ?_; rintro e w' ⟨rfl, rfl⟩)
      go_ret
      exact ⟨rfl, rfl⟩

def orI (x y : Int) : Int := if x = 0 then y else x
/-- cmp.Or of two numbers. -/
theorem Or_any (g : Nat) (x y : Int) (w : World) (hg : w.heap[g]? = some (.cells #[.int .i64 x, .int .i64 y] 3 (0, 0))) :
    Calls Try.prog 54 #[.slice (some ⟨g, 0, none⟩) 2 2] w fun e w' => e = .returned (.int .i64 (orI x y)) ∧ w' = w := by
  unfold orI
  have c0 : w.cell? ⟨g, 0, none⟩ = some (.int .i64 x) := by simp [World.cell?, hg]
  have c1 : w.cell? ⟨g, 1, none⟩ = some (.int .i64 y) := by simp [World.cell?, hg]
  clear hg
  by_cases hx : x = 0
  · subst hx
    by_cases hy : y = 0
    · subst hy
      go_enter Try.func54, Try.ntmps54
      go_wp2
      refine wp_loop_rounds 3 ?_
      rw [rounds_succ]
      go_wp2
      rw [rounds_succ]
      go_wp2
      rw [rounds_succ]
      go_wp2
      go_ret
      exact ⟨rfl, rfl⟩
    · have h1 : (y != 0) = true := by simpa using hy
      rw [if_pos rfl]
      go_enter Try.func54, Try.ntmps54
      go_wp2
      refine wp_loop_rounds 3 ?_
      rw [rounds_succ]
      go_wp2
      rw [rounds_succ]
      go_wp2
      go_ret
      exact ⟨rfl, rfl⟩
  · rw [if_neg hx]
    have h1 : (x != 0) = true := by simpa using hx
    clear hx
    go_enter Try.func54, Try.ntmps54
    go_wp2
    refine wp_loop_rounds 3 ?_
    rw [rounds_succ]
    go_wp2
    go_ret
    exact ⟨rfl, rfl⟩
end Go.Proofs.Ytbihcdjamdkinaa
