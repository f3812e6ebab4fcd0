/-
  THE MACHINERY OF sum: errors.Is at the sentinel, the deferred closure, within, add.
-/
import Derived.Test.YtjdpocoahinbfaaDoorChecked
import Derived.WalkKit
import Derived.LaidEql
import Derived.Stop.Asserts
import Derived.RowKitTokens
import Derived.Defers
import Derived.Recover
import Derived.Laws.Pointers
import Derived.WalkLawsBesides
import Derived.Below
import Derived.Lib.Hide
import Derived.OneCell
namespace Go.Proofs.YtjdpocoahinbfaaDoor
open Go.RowKit Go.Extern.Stop Go.Stop Go.Extern

theorem isTypeOf (v : Value) (w : World) : (Extern.ReflectliteType.typeOf #[.iface 70 v]).run Tryd.prog w = .ok (.iface 60 (.agg #[.pointer (some ⟨1, 70, none⟩)])) w := by kernel_rfl
/-- The model's entry for (rtype).Comparable, under a name that the walk's simp does not open. -/
def compEntry : Array Value → Sem Value := Extern.ReflectliteType.method fun t => do Extern.Rtype.noPackHeld "Comparable" t; pure (.bool (← typeInfo t).comparable)
theorem isComparable (w : World) : (compEntry #[.agg #[.pointer (some ⟨1, 70, none⟩)]]).run Tryd.prog w = .ok (.bool true) w := by kernel_rfl
theorem isMethodComparable (v : Value) (w : World) : (Go.method 207 60 v "Comparable").run Tryd.prog w = .ok (60, v) w := by kernel_rfl
theorem isSize : (Tryd.prog.info? 95).map (·.size) = some 1 := by kernel_rfl
theorem isComp : (Tryd.prog.info? 70).map (·.comparable) = some true := by kernel_rfl

/-- errors.Is(x, x), x a pointer to an errors.errorString. -/
theorem is_same (a : Addr) (w : World) :
    Calls Tryd.prog 35 #[.iface 70 (.pointer (some a)), .iface 70 (.pointer (some a))] w fun e w' => e = .returned (.bool true) ∧ w = w' := by
  obtain ⟨i, hi, hcmp⟩ := Option.map_eq_some_iff.1 isComp
  obtain ⟨j, hj, hjs⟩ := Option.map_eq_some_iff.1 isSize
  have h8 := @run_callFunc_extern Tryd.prog 39 _ Extern.ReflectliteType.typeOf Tryd.func39 (by kernel_rfl) (by kernel_rfl) (by kernel_rfl) (by kernel_rfl)
  have h32 := @run_callFunc_extern Tryd.prog 60 _ compEntry Tryd.func60 (by kernel_rfl) (by kernel_rfl) (by kernel_rfl) (by kernel_rfl)
  have tT := isTypeOf
  have cT := isComparable
  have mR := isMethodComparable
  have heq := run_eql_iface_ptr_same (P := Tryd.prog) w a Tryd.underlying46 Tryd.underlying70 hi hcmp hj
  go_enter Tryd.func35, Tryd.ntmps35
  go_wp2
  refine wp_loop_rounds 1 ?_
  rw [rounds_succ]
  go_wp2
  go_ret
  exact ⟨rfl, rfl⟩

theorem isErr (v : Value) (xT : TypeId) (w : World) : (Instr.typeAssert (.iface 70 v) xT 46 true).run Tryd.prog w = .ok (.tuple #[.iface 70 v, .bool true]) w := run_typeAssert_hasB Tryd.underlying46 (by kernel_rfl) v xT w

theorem isErrNil (xT : TypeId) (w : World) : (Instr.typeAssert .nilIface xT 46 true).run Tryd.prog w = .ok (.tuple #[.nilIface, .bool false]) w := by kernel_rfl

/-- The deferred closure, where the frame below panics with the sentinel: it recovers, and lays 0 and 2. -/
theorem catch_panicking (b : Nat) (x : Addr) (n m : Int) (older : List PanicEntry) (w : World) (hp : w.cell? ⟨b, 0, none⟩ = some (.int .i64 n)) (hpz : w.frozen? ⟨b, 0, none⟩ = false)
    (hq : w.cell? ⟨b + 1, 0, none⟩ = some (.int .i64 m)) (hqz : w.frozen? ⟨b + 1, 0, none⟩ = false) (hg : w.cell? ⟨0, 0, none⟩ = some (.iface 70 (.pointer (some x)))) :
    CallsD Tryd.prog 34 #[.pointer (some ⟨b, 0, none⟩), .pointer (some ⟨b + 1, 0, none⟩)] (.panicking ({ v := .iface 70 (.pointer (some x)), recovered := false } :: older)) w fun e u' w' =>
      e = .returned (.tuple #[]) ∧ u' = .panicking ({ v := .iface 70 (.pointer (some x)), recovered := true } :: older) ∧ w' = (w.setCell ⟨b, 0, none⟩ (.int .i64 0)).setCell ⟨b + 1, 0, none⟩ (.int .i64 2) := by
  have hE := isErr
  refine callsD_of_wpS Tryd.func34 rfl fun c₀ cs hu => ?_
  apply wpS_seq
  apply wpS_region
  simp [wpOpsS, go_sem, recoverD, hu, Tryd.ntmps34, Exit.thenS, hE]
  refine wpS_of_wp ?_
  simp only [Array.replicate_succ, Array.replicate_zero, List.push_toArray, List.append_toArray, List.nil_append, List.cons_append, List.setIfInBounds_toArray, List.set_cons_zero, List.set_cons_succ]
  go_wp2_with (go_at_call 35; refine (is_same _ _).mono ?_; rintro e w' ⟨rfl, rfl⟩)
  simp [bodyPostS, results, Tryd.results34]

/-- .. where the frame below returns: nothing is recovered, nothing written. -/
theorem catch_idle (p q : Addr) (w : World) :
    CallsD Tryd.prog 34 #[.pointer (some p), .pointer (some q)] .returning w fun e u' w' => e = .returned (.tuple #[]) ∧ u' = .returning ∧ w' = w := by
  have hN := isErrNil
  refine callsD_of_wpS Tryd.func34 rfl fun c₀ cs hu => ?_
  apply wpS_seq
  apply wpS_region
  simp [wpOpsS, go_sem, recoverD, hu, Tryd.ntmps34, Exit.thenS, hN]
  refine wpS_of_wp ?_
  simp only [Array.replicate_succ, Array.replicate_zero, List.push_toArray, List.append_toArray, List.nil_append, List.cons_append, List.setIfInBounds_toArray, List.set_cons_zero, List.set_cons_succ]
  go_wp2
  cases c₀
  simp_all [bodyPostS, results, Tryd.results34]
end Go.Proofs.YtjdpocoahinbfaaDoor
