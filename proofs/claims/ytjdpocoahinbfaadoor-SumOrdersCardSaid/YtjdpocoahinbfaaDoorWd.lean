/-
  Add, Mul, Total, Dot: the closures and the functions.
-/
import Derived.Test.YtjdpocoahinbfaaDoorWc
namespace Go.Proofs.YtjdpocoahinbfaaDoor
open Go.RowKit Go.Lib

/-- The sentinel's cell, in a world. -/
def Sent (x : Addr) (w : World) : Prop := w.cell? ⟨0, 0, none⟩ = some (.iface 70 (.pointer (some x)))
theorem Sent.below {x : Addr} {B : Nat} {w w' : World} (h : Sent x w) (hb : Below B w w') (hB : 0 < B) : Sent x w' := (hb.cell (p := ⟨0, 0, none⟩) hB).trans h
theorem Sent.pos {x : Addr} {w : World} (h : Sent x w) : 0 < w.heap.size := by
  unfold Sent at h
  rcases Nat.lt_or_ge 0 w.heap.size with h' | h'
  · exact h'
  · have : w.heap[0]? = none := Array.getElem?_eq_none h'
    simp [World.cell?, this] at h

/-- A world on the way: below what was there nothing has turned; the sentinel lies there. -/
structure Way (w0 : World) (x : Addr) (w : World) : Prop where
  bel : Below w0.heap.size w0 w
  sent : Sent x w
theorem Way.refl {w : World} {x : Addr} (h : Sent x w) : Way w x w := ⟨Below.refl _ _, h⟩
theorem Way.call {w0 w w' : World} {x : Addr} (h : Way w0 x w) (hb : Below w.heap.size w w') : Way w0 x w' := ⟨h.bel.trans (hb.mono h.bel.size), h.sent.below hb h.sent.pos⟩
theorem Way.alloc {w0 w : World} {x : Addr} (h : Way w0 x w) (o : Obj) : Way w0 x (w.alloc o) := h.call ((Below.refl _ _).alloc (Nat.le_refl _) _)
theorem Way.drew {w0 w : World} {x : Addr} (h : Way w0 x w) : Way w0 x w.drew := h.call (Below.refl _ _).drew

theorem enter26 (args : Array Value) (w : World) : (callFunc 26 args).run Tryd.prog w = .ok (.enter 26 args) w := by simp [go_sem]
theorem enter28 (args : Array Value) (w : World) : (callFunc 28 args).run Tryd.prog w = .ok (.enter 28 args) w := by simp [go_sem]
theorem enter30 (args : Array Value) (w : World) : (callFunc 30 args).run Tryd.prog w = .ok (.enter 30 args) w := by simp [go_sem]
theorem enter31 (args : Array Value) (w : World) : (callFunc 31 args).run Tryd.prog w = .ok (.enter 31 args) w := by simp [go_sem]
theorem enter33 (args : Array Value) (w : World) : (callFunc 33 args).run Tryd.prog w = .ok (.enter 33 args) w := by simp [go_sem]

/-- Add's closure. -/
theorem addc_any (p q : Addr) (a b : Int) (x : Addr) (w : World) (ha : In64 a) (hb : In64 b) (hg : Sent x w) (hp : w.cell? p = some (.int .i64 a)) (hq : w.cell? q = some (.int .i64 b)) :
    Calls Tryd.prog 26 #[.pointer (some p), .pointer (some q)] w fun e w' => EndsO x (addO a b) e ∧ w = w' := by
  have hc := Lib.hid (add_any a b x w ha hb hg)
  clear hg
  cases ho : addO a b with
  | some n =>
    rw [ho] at hc
    clear ho
    go_enter Tryd.func26, Tryd.ntmps26
    go_wp2_with (go_at_call 27; refine hc.out.mono ?_; rintro e w' ⟨rfl, rfl⟩)
    go_ret
    exact ⟨rfl, rfl⟩
  | none =>
    rw [ho] at hc
    clear ho
    go_enter Tryd.func26, Tryd.ntmps26
    go_wp2_with (go_at_call 27; refine hc.out.mono ?_; rintro e w' ⟨rfl, rfl⟩)
    exact ⟨rfl, rfl, rfl⟩

/-- Mul's closure. -/
theorem mulc_any (p q : Addr) (a b : Int) (x : Addr) (w : World) (ha : In64 a) (hb : In64 b) (hg : Sent x w) (hp : w.cell? p = some (.int .i64 a)) (hq : w.cell? q = some (.int .i64 b)) :
    Calls Tryd.prog 28 #[.pointer (some p), .pointer (some q)] w fun e w' => EndsO x (mulO a b) e ∧ w = w' := by
  have hc := Lib.hid (mul_any a b x w ha hb hg)
  clear hg
  cases ho : mulO a b with
  | some n =>
    rw [ho] at hc
    clear ho
    go_enter Tryd.func28, Tryd.ntmps28
    go_wp2_with (go_at_call 29; refine hc.out.mono ?_; rintro e w' ⟨rfl, rfl⟩)
    go_ret
    exact ⟨rfl, rfl⟩
  | none =>
    rw [ho] at hc
    clear ho
    go_enter Tryd.func28, Tryd.ntmps28
    go_wp2_with (go_at_call 29; refine hc.out.mono ?_; rintro e w' ⟨rfl, rfl⟩)
    exact ⟨rfl, rfl, rfl⟩

/-- within, of a closure that leaves the world as it was. -/
theorem within_still (G : FuncId) (caps : Array Value) (x : Addr) (o : Option Int) (w : World) (henter : ∀ args w, (callFunc G args).run Tryd.prog w = .ok (.enter G args) w) (hg : Sent x w)
    (hcall : ∀ w1, Below w.heap.size w w1 → Calls Tryd.prog G caps w1 fun e w2 => EndsO x o e ∧ w1 = w2) :
    Calls Tryd.prog 25 #[.func (.func G) #[] caps] w fun e w' => e = .returned (.tuple #[.int .i64 (valO o), .int .i64 (errO o)]) ∧ Below w.heap.size w w' := by
  have hB : Below w.heap.size w ((w.alloc (.cells #[.int .i64 0] 3)).alloc (.cells #[.int .i64 0] 23)) := ((Below.refl _ _).alloc (Nat.le_refl _) _).alloc (by simp) _
  refine (within_any G caps x o (fun w2 => w2 = (w.alloc (.cells #[.int .i64 0] 3)).alloc (.cells #[.int .i64 0] 23)) w henter ?_ ?_ ?_).mono ?_
  · refine (hcall _ hB).mono ?_
    rintro e w2 ⟨h, rfl⟩
    exact ⟨h, rfl⟩
  · rintro w2 rfl
    exact ⟨(Below.heap_alloc _ _ _ (by simp)).trans (heap_alloc_new w _), by simpa using heap_alloc_new (w.alloc (.cells #[.int .i64 0] 3)) (.cells #[.int .i64 0] 23)⟩
  · rintro w2 rfl
    exact hg.below hB hg.pos
  · rintro e w' ⟨rfl, w2, rfl, rfl⟩
    exact ⟨rfl, (hB.setCell (Nat.le_refl _) _).setCell (by simp) _⟩

theorem Add_any (a b : Int) (x : Addr) (w : World) (ha : In64 a) (hb : In64 b) (hg : Sent x w) :
    Calls Tryd.prog 11 #[.int .i64 a, .int .i64 b] w fun e w' => e = .returned (.tuple #[.int .i64 (valO (addO a b)), .int .i64 (errO (addO a b))]) ∧ Below w.heap.size w w' := by
  have hmf : ∀ (fn : Fn) (first cap : Array Value) (w : World), (Instr.makeFunc fn first cap).run Tryd.prog w = .ok (.func fn first cap) w := fun _ _ _ _ => rfl
  have hB : Below w.heap.size w ((w.alloc (.cells #[.int .i64 a] 3)).alloc (.cells #[.int .i64 b] 3)) := ((Below.refl _ _).alloc (Nat.le_refl _) _).alloc (by simp) _
  have hc := within_still 26 #[.pointer (some ⟨w.heap.size, 0, none⟩), .pointer (some ⟨w.heap.size + 1, 0, none⟩)] x (addO a b) ((w.alloc (.cells #[.int .i64 a] 3)).alloc (.cells #[.int .i64 b] 3)) enter26 (hg.below hB hg.pos) (fun w1 h1 => by
    have h1' : Below w.heap.size w w1 := hB.trans (h1.mono (by simp; omega))
    refine addc_any _ _ a b x w1 ha hb (hg.below h1' hg.pos) ?_ ?_
    · rw [h1.cell (by simp; omega)]; simp [go_sem]
    · rw [h1.cell (by simp)]; simp [go_sem])
  have H := Lib.hid hc
  have HB := Lib.hid hB
  clear hc hg hB
  go_enter Tryd.func11, Tryd.ntmps11
  go_wp2_with (go_at_call 25; refine H.out.mono ?_; rintro e w' ⟨rfl, hb'⟩)
  go_ret2
  exact ⟨rfl, HB.out.trans (hb'.mono (by simp; omega))⟩
theorem Mul_any (a b : Int) (x : Addr) (w : World) (ha : In64 a) (hb : In64 b) (hg : Sent x w) :
    Calls Tryd.prog 13 #[.int .i64 a, .int .i64 b] w fun e w' => e = .returned (.tuple #[.int .i64 (valO (mulO a b)), .int .i64 (errO (mulO a b))]) ∧ Below w.heap.size w w' := by
  have hmf : ∀ (fn : Fn) (first cap : Array Value) (w : World), (Instr.makeFunc fn first cap).run Tryd.prog w = .ok (.func fn first cap) w := fun _ _ _ _ => rfl
  have hB : Below w.heap.size w ((w.alloc (.cells #[.int .i64 a] 3)).alloc (.cells #[.int .i64 b] 3)) := ((Below.refl _ _).alloc (Nat.le_refl _) _).alloc (by simp) _
  have hc := within_still 28 #[.pointer (some ⟨w.heap.size, 0, none⟩), .pointer (some ⟨w.heap.size + 1, 0, none⟩)] x (mulO a b) ((w.alloc (.cells #[.int .i64 a] 3)).alloc (.cells #[.int .i64 b] 3)) enter28 (hg.below hB hg.pos) (fun w1 h1 => by
    have h1' : Below w.heap.size w w1 := hB.trans (h1.mono (by simp; omega))
    refine mulc_any _ _ a b x w1 ha hb (hg.below h1' hg.pos) ?_ ?_
    · rw [h1.cell (by simp; omega)]; simp [go_sem]
    · rw [h1.cell (by simp)]; simp [go_sem])
  have H := Lib.hid hc
  have HB := Lib.hid hB
  clear hc hg hB
  go_enter Tryd.func13, Tryd.ntmps13
  go_wp2_with (go_at_call 25; refine H.out.mono ?_; rintro e w' ⟨rfl, hb'⟩)
  go_ret2
  exact ⟨rfl, HB.out.trans (hb'.mono (by simp; omega))⟩
end Go.Proofs.YtjdpocoahinbfaaDoor
