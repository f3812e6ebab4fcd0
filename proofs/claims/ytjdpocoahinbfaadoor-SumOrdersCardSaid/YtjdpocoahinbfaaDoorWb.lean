/-
  within, by the contract of what it is handed; add.
-/
import Derived.Test.YtjdpocoahinbfaaDoorWa
import Derived.Test.YtjdpocoahinbfaaDoorP
namespace Go.Proofs.YtjdpocoahinbfaaDoor
open Go.RowKit

/-- How a call of add, mul, or a closure handed to within ends: with a number, or with a panic with the sentinel. -/
def EndsO (x : Addr) (o : Option Int) (e : Ending) : Prop :=
  match o with
  | some n => e = .returned (.int .i64 n)
  | none => e = .panicked [{ v := .iface 70 (.pointer (some x)), recovered := false }]


theorem within_some (G : FuncId) (caps : Array Value) (n : Int) (Q : World → Prop) (w : World) (henter : ∀ args w, (callFunc G args).run Tryd.prog w = .ok (.enter G args) w)
    (hcall : Calls Tryd.prog G caps ((w.alloc (.cells #[.int .i64 0] 3)).alloc (.cells #[.int .i64 0] 23)) fun e w2 => e = .returned (.int .i64 n) ∧ Q w2)
    (hQ : ∀ w2, Q w2 → w2.heap[w.heap.size]? = some (.cells #[.int .i64 0] 3) ∧ w2.heap[w.heap.size + 1]? = some (.cells #[.int .i64 0] 23)) :
    Calls Tryd.prog 25 #[.func (.func G) #[] caps] w fun e w' => e = .returned (.tuple #[.int .i64 n, .int .i64 0]) ∧ ∃ w2, Q w2 ∧ w' = (w2.setCell ⟨w.heap.size, 0, none⟩ (.int .i64 n)).setCell ⟨w.heap.size + 1, 0, none⟩ (.int .i64 0) := by
  have hmf : ∀ (fn : Fn) (first cap : Array Value) (w : World), (Instr.makeFunc fn first cap).run Tryd.prog w = .ok (.func fn first cap) w := fun _ _ _ _ => rfl
  have H := Lib.hid hcall
  clear hcall
  go_enter_defers Tryd.func25, Tryd.ntmps25
  go_wp2_with fail
  refine H.out.mono ?_
  rintro e w2 ⟨rfl, hq⟩
  obtain ⟨hb0, hb1⟩ := hQ w2 hq
  have c0 := cell_of_one hb0
  have z0 := free_of_one hb0
  have c1 := cell_of_one hb1
  have z1 := free_of_one hb1
  clear hb0 hb1 hQ
  go_wp2
  refine leaves_cons (f := 34) (args := #[.pointer (some ⟨w.heap.size, 0, none⟩), .pointer (some ⟨w.heap.size + 1, 0, none⟩)]) (by simp) (by simp [go_sem]) ?_
  refine (catch_idle _ _ _).mono ?_
  rintro e u' w'' ⟨rfl, rfl, rfl⟩
  have e1 : ((w2.setCell ⟨w.heap.size, 0, none⟩ (.int .i64 n)).setCell ⟨w.heap.size + 1, 0, none⟩ (.int .i64 0)).cell? ⟨w.heap.size, 0, none⟩ = some (.int .i64 n) := by
    rw [World.cell?_setCell_other _ _ _ _ (by simp), World.cell?_setCell_same _ _ _ c0]
  have e2 : ((w2.setCell ⟨w.heap.size, 0, none⟩ (.int .i64 n)).setCell ⟨w.heap.size + 1, 0, none⟩ (.int .i64 0)).cell? ⟨w.heap.size + 1, 0, none⟩ = some (.int .i64 0) := by
    rw [World.cell?_setCell_same _ _ _ (u := .int .i64 0) (by rw [World.cell?_setCell_other _ _ _ _ (by simp)]; exact c1)]
  have hfin : ∃ w2', Q w2' ∧ (w2.setCell ⟨w.heap.size, 0, none⟩ (.int .i64 n)).setCell ⟨w.heap.size + 1, 0, none⟩ (.int .i64 0) = (w2'.setCell ⟨w.heap.size, 0, none⟩ (.int .i64 n)).setCell ⟨w.heap.size + 1, 0, none⟩ (.int .i64 0) := ⟨w2, hq, rfl⟩
  simp [Leaves, settle, results, Tryd.results25, go_sem, e1, e2]
  exact hfin

theorem within_none (G : FuncId) (caps : Array Value) (x : Addr) (Q : World → Prop) (w : World) (henter : ∀ args w, (callFunc G args).run Tryd.prog w = .ok (.enter G args) w)
    (hcall : Calls Tryd.prog G caps ((w.alloc (.cells #[.int .i64 0] 3)).alloc (.cells #[.int .i64 0] 23)) fun e w2 => e = .panicked [{ v := .iface 70 (.pointer (some x)), recovered := false }] ∧ Q w2)
    (hQ : ∀ w2, Q w2 → w2.heap[w.heap.size]? = some (.cells #[.int .i64 0] 3) ∧ w2.heap[w.heap.size + 1]? = some (.cells #[.int .i64 0] 23))
    (hg : ∀ w2, Q w2 → w2.cell? ⟨0, 0, none⟩ = some (.iface 70 (.pointer (some x)))) :
    Calls Tryd.prog 25 #[.func (.func G) #[] caps] w fun e w' => e = .returned (.tuple #[.int .i64 0, .int .i64 2]) ∧ ∃ w2, Q w2 ∧ w' = (w2.setCell ⟨w.heap.size, 0, none⟩ (.int .i64 0)).setCell ⟨w.heap.size + 1, 0, none⟩ (.int .i64 2) := by
  have hmf : ∀ (fn : Fn) (first cap : Array Value) (w : World), (Instr.makeFunc fn first cap).run Tryd.prog w = .ok (.func fn first cap) w := fun _ _ _ _ => rfl
  have H := Lib.hid hcall
  clear hcall
  go_enter_defers Tryd.func25, Tryd.ntmps25
  go_wp2_with fail
  refine H.out.mono ?_
  rintro e w2 ⟨rfl, hq⟩
  obtain ⟨hb0, hb1⟩ := hQ w2 hq
  have c0 := cell_of_one hb0
  have z0 := free_of_one hb0
  have c1 := cell_of_one hb1
  have z1 := free_of_one hb1
  have cg := hg w2 hq
  clear hb0 hb1 hQ hg
  go_wp2
  refine leaves_cons (f := 34) (args := #[.pointer (some ⟨w.heap.size, 0, none⟩), .pointer (some ⟨w.heap.size + 1, 0, none⟩)]) (by simp) (by simp [go_sem]) ?_
  refine (catch_panicking _ x 0 0 [] _ c0 z0 c1 z1 cg).mono ?_
  rintro e u' w'' ⟨rfl, rfl, rfl⟩
  have e1 : ((w2.setCell ⟨w.heap.size, 0, none⟩ (.int .i64 0)).setCell ⟨w.heap.size + 1, 0, none⟩ (.int .i64 2)).cell? ⟨w.heap.size, 0, none⟩ = some (.int .i64 0) := by
    rw [World.cell?_setCell_other _ _ _ _ (by simp), World.cell?_setCell_same _ _ _ c0]
  have e2 : ((w2.setCell ⟨w.heap.size, 0, none⟩ (.int .i64 0)).setCell ⟨w.heap.size + 1, 0, none⟩ (.int .i64 2)).cell? ⟨w.heap.size + 1, 0, none⟩ = some (.int .i64 2) := by
    rw [World.cell?_setCell_same _ _ _ (u := .int .i64 0) (by rw [World.cell?_setCell_other _ _ _ _ (by simp)]; exact c1)]
  have hfin : ∃ w2', Q w2' ∧ (w2.setCell ⟨w.heap.size, 0, none⟩ (.int .i64 0)).setCell ⟨w.heap.size + 1, 0, none⟩ (.int .i64 2) = (w2'.setCell ⟨w.heap.size, 0, none⟩ (.int .i64 0)).setCell ⟨w.heap.size + 1, 0, none⟩ (.int .i64 2) := ⟨w2, hq, rfl⟩
  simp [Leaves, settle, results, Tryd.results25, go_sem, e1, e2]
  exact hfin

/-- within, of a closure that ends as 'o' says. -/
theorem within_any (G : FuncId) (caps : Array Value) (x : Addr) (o : Option Int) (Q : World → Prop) (w : World) (henter : ∀ args w, (callFunc G args).run Tryd.prog w = .ok (.enter G args) w)
    (hcall : Calls Tryd.prog G caps ((w.alloc (.cells #[.int .i64 0] 3)).alloc (.cells #[.int .i64 0] 23)) fun e w2 => EndsO x o e ∧ Q w2)
    (hQ : ∀ w2, Q w2 → w2.heap[w.heap.size]? = some (.cells #[.int .i64 0] 3) ∧ w2.heap[w.heap.size + 1]? = some (.cells #[.int .i64 0] 23))
    (hg : ∀ w2, Q w2 → w2.cell? ⟨0, 0, none⟩ = some (.iface 70 (.pointer (some x)))) :
    Calls Tryd.prog 25 #[.func (.func G) #[] caps] w fun e w' => e = .returned (.tuple #[.int .i64 (valO o), .int .i64 (errO o)]) ∧ ∃ w2, Q w2 ∧ w' = (w2.setCell ⟨w.heap.size, 0, none⟩ (.int .i64 (valO o))).setCell ⟨w.heap.size + 1, 0, none⟩ (.int .i64 (errO o)) := by
  cases o with
  | some n => exact within_some G caps n Q w henter hcall hQ
  | none => exact within_none G caps x Q w henter hcall hQ hg

end Go.Proofs.YtjdpocoahinbfaaDoor
