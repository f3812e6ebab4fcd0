/-
  New: what it lays.
-/
import Derived.Test.YtngegkgmenfelaaWr
import Derived.Laws.MakeOwn
namespace Go.Proofs.Ytngegkgmenfelaa
open Go.RowKit Go.Lib
attribute [local go_sem ↓] Go.wp_at_zero Go.wp_at_succ

theorem info64 : (Try.prog.info? 64).map (fun i => (i.zero, i.size, i.bytes)) = some (some (.agg #[.int .i64 0, .int .i64 0, .int .i64 0]), 3, 24) := by kernel_rfl

/-- make([][]int, k). -/
theorem make_rows (k : Nat) (hk : k ≤ 1000000) (w : World) : (Instr.makeSlice 22 (.int .i64 k) (.int .i64 k)).run Try.prog w = .ok (.slice (some ⟨w.heap.size, 0, none⟩) k k) (w.alloc (.cells (Array.replicate k (.slice none 0 0)) 23)) := by
  obtain ⟨i0, hi0, hz0, hz1, hz2⟩ := info_parts info23
  have h := run_make (P := Try.prog) w 22 23 i0 (.slice none 0 0) Try.underlying22 hi0 hz0 .i64 .i64 k k (by omega) (Int.le_refl _) (by rw [hz2]; omega) (by omega)
  rw [hz1, Int.toNat_natCast, Nat.mul_one] at h
  rw [h]
  congr 3
  apply Array.ext
  · simp [madeCells]
  · intro j h1 h2
    simp [madeCells, Value.cells, Nat.mod_one]
/-- make([]fact, k). -/
theorem make_facts (k : Nat) (hk : k ≤ 1000000) (w : World) : (Instr.makeSlice 60 (.int .i64 k) (.int .i64 k)).run Try.prog w = .ok (.slice (some ⟨w.heap.size, 0, none⟩) k k) (w.alloc (.cells (Array.replicate (k * 3) (.int .i64 0)) 64)) := by
  obtain ⟨i0, hi0, hz0, hz1, hz2⟩ := info_parts info64
  have h := run_make (P := Try.prog) w 60 64 i0 (.agg #[.int .i64 0, .int .i64 0, .int .i64 0]) Try.underlying60 hi0 hz0 .i64 .i64 k k (by omega) (Int.le_refl _) (by rw [hz2]; omega) (by omega)
  rw [hz1, Int.toNat_natCast] at h
  rw [h]
  congr 3
  apply Array.ext
  · simp [madeCells]
  · intro j h1 h2
    simp only [madeCells, Value.cells, Array.getElem_map, Array.getElem_range, Array.getElem_replicate]
    have : j % 3 < 3 := Nat.mod_lt _ (by omega)
    have e : (#[Value.int .i64 0, .int .i64 0, .int .i64 0] : Array Value).size = 3 := rfl
    rw [e]
    generalize j % 3 = q at this
    match q, this with
    | 0, _ => rfl
    | 1, _ => rfl
    | 2, _ => rfl

def newT (n : Nat) (F : List (Int × Int × Int)) : Tr := { L := [], W := List.replicate (2 * n) [], F := F, lits := [], starts := [], nx := 0, short := [] }
def newVal (n gw gf : Nat) : Sl → Value
  | .wa => .slice (some ⟨gw, 0, none⟩) (2 * n) (2 * n)
  | .fa => .slice (some ⟨gf, 0, none⟩) n n
  | _ => .slice none 0 0
def newCt (n : Nat) : Sl → List Value
  | .wa => List.replicate (2 * n) (.slice none 0 0)
  | .fa => List.replicate (n * 3) (.int .i64 0)
  | _ => []

theorem flatF_zeros (n : Nat) : flatF (List.replicate n (0, 0, 0)) = List.replicate (n * 3) (.int .i64 0) := by
  induction n with
  | zero => rfl
  | succ n ih =>
    show Value.int .i64 0 :: Value.int .i64 0 :: Value.int .i64 0 :: flatF (List.replicate n (0, 0, 0)) = _
    rw [ih, show (n + 1) * 3 = n * 3 + 1 + 1 + 1 from by omega, List.replicate_succ, List.replicate_succ, List.replicate_succ]

theorem new_trail {w w' : World} {B : Nat → Prop} {n b gw gf : Nat} (hB : There B w) (hb : Below w.heap.size w w') (hn : n ≤ 20000)
    (h1 : w'.heap[gw]? = some (.cells (Array.replicate (2 * n) (.slice none 0 0)) 23 (0, 0))) (h2 : w'.heap[gf]? = some (.cells (Array.replicate (n * 3) (.int .i64 0)) 64 (0, 0)))
    (h3 : w'.heap[b]? = some (.cells #[.slice none 0 0, .slice (some ⟨gw, 0, none⟩) (2 * n) (2 * n), .slice (some ⟨gf, 0, none⟩) n n, .slice none 0 0, .slice none 0 0, .int .i64 0, .slice none 0 0] 62 (0, 0)))
    (l1 : w.heap.size ≤ gw) (l2 : w.heap.size ≤ gf) (l3 : w.heap.size ≤ b) (n1 : gw ≠ gf) (n2 : gw ≠ b) (n3 : gf ≠ b) :
    TrailV w' B b (newT n (List.replicate n (0, 0, 0))) (newVal n gw gf) := by
  have nb : ∀ k, w.heap.size ≤ k → ¬ B k := fun k hk hb => by have := hB k hb; omega
  refine ⟨newCt n, ⟨h3, fun s => ?_, fun s t hst => ?_, fun s => ?_, nb b l3, fun s k hk => ?_, hB.below hb⟩, ?_⟩
  · cases s with
    | wa => exact Row.own (n := 2 * n) ⟨by simp [newCt, Sl.z], .inr ⟨gw, 2 * n, _, rfl, Nat.zero_le _, h1, Nat.le_refl _, by unfold maxLen; omega, by simp [Sl.z], by simp [newCt, Sl.z]⟩⟩
    | fa => exact Row.own (n := n) ⟨by simp [newCt, Sl.z], .inr ⟨gf, n, _, rfl, Nat.zero_le _, h2, Nat.le_refl _, by unfold maxLen; omega, by simp [Sl.z], by simp [newCt, Sl.z]⟩⟩
    | cl => exact Row.nil _ _ _
    | li => exact Row.nil _ _ _
    | st => exact Row.nil _ _ _
    | sh => exact Row.nil _ _ _
    | C k => exact Row.nil _ _ _
    | W j => exact Row.nil _ _ _
  · cases s <;> first | exact .inl rfl | (cases t <;> first | exact absurd rfl hst | (refine .inr ?_; simp [newVal, Value.ownBlock]; omega) | (refine .inr ?_; simp [newVal, Value.ownBlock]))
  · cases s <;> simp [newVal, Value.ownBlock] <;> omega
  · cases s <;> simp [newVal, Value.ownBlock] at hk <;> (subst hk; first | exact nb _ l1 | exact nb _ l2)
  · exact {
      cl := rfl
      wa := by
        show List.replicate (2 * n) (Value.slice none 0 0) = (List.range (List.replicate (2 * n) ([] : List Int)).length).map (fun j => Value.slice none 0 0)
        rw [List.length_replicate, List.map_const', List.length_range]
      fa := (flatF_zeros n).symm
      li := rfl
      st := rfl
      sh := rfl
      C := fun k => rfl
      W := fun j => by
        show [] = ints ((List.replicate (2 * n) ([] : List Int)).getD j [])
        have : (List.replicate (2 * n) ([] : List Int)).getD j [] = [] := by
          rw [List.getD_eq_getElem?_getD, List.getElem?_replicate]; split <;> rfl
        rw [this]; rfl }
end Go.Proofs.Ytngegkgmenfelaa
