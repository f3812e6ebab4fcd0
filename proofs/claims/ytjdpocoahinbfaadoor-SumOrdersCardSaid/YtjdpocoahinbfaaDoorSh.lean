/-
  The chapter's examples, at the head of all statements: shown returns true.
-/
import Derived.Test.YtjdpocoahinbfaaDoorWg
namespace Go.Proofs.YtjdpocoahinbfaaDoor
open Go.RowKit Go.Lib

theorem Best_nil (w : World) : Calls Tryd.prog 20 #[.slice none 0 0] w fun e w' => e = .returned (.int .i64 (-1)) ∧ w = w' := by
  go_enter Tryd.func20, Tryd.ntmps20
  go_wp2
  refine wp_loop_rounds 1 ?_
  rw [rounds_succ]
  go_wp2
  go_ret
  exact ⟨rfl, rfl⟩

theorem sh_add (x : Addr) (w : World) (hg : Sent x w) : Calls Tryd.prog 11 #[.int .i64 9223372036854775807, .int .i64 1] w fun e w' => e = .returned (.tuple #[.int .i64 0, .int .i64 2]) ∧ Below w.heap.size w w' :=
  Add_any _ _ x w ⟨by decide, by decide⟩ ⟨by decide, by decide⟩ hg
theorem sh_mul (x : Addr) (w : World) (hg : Sent x w) : Calls Tryd.prog 13 #[.int .i64 (-9223372036854775808), .int .i64 (-1)] w fun e w' => e = .returned (.tuple #[.int .i64 0, .int .i64 2]) ∧ Below w.heap.size w w' :=
  Mul_any _ _ x w ⟨by decide, by decide⟩ ⟨by decide, by decide⟩ hg

theorem isInts_at (w : World) (b : Nat) (cs : Array Value) (es : List Int) (t : TypeId) (hb : w.heap[b]? = some (.cells cs t (0, 0))) (hcs : cs = (es.map (Value.int .i64)).toArray) (h64 : ∀ n ∈ es, In64 n) :
    IsInts w (some ⟨b, 0, none⟩) es.length es := by
  refine ⟨rfl, .inr ⟨b, 0, rfl, lt_of_block hb, fun i hi => ?_⟩, h64⟩
  subst hcs
  simp [World.cell?, hb, hi]

theorem sh_total (x : Addr) (b : Nat) (w : World) (hg : Sent x w) (hb : w.heap[b]? = some (.cells #[.int .i64 9223372036854775807, .int .i64 1, .int .i64 (-1)] 3 (0, 0))) :
    Calls Tryd.prog 15 #[.slice (some ⟨b, 0, none⟩) 3 3] w fun e w' => e = .returned (.tuple #[.int .i64 0, .int .i64 2]) ∧ Below w.heap.size w w' :=
  Total_any _ 3 3 [9223372036854775807, 1, -1] x w (by decide) (isInts_at w b _ [9223372036854775807, 1, -1] 3 hb rfl (by intro n hn; simp at hn; rcases hn with rfl | rfl | rfl <;> exact ⟨by decide, by decide⟩)) hg
theorem sh_dot (x : Addr) (b c : Nat) (w : World) (hg : Sent x w) (hb : w.heap[b]? = some (.cells #[.int .i64 2, .int .i64 3] 3 (0, 0))) (hc : w.heap[c]? = some (.cells #[.int .i64 4, .int .i64 5] 3 (0, 0))) :
    Calls Tryd.prog 17 #[.slice (some ⟨b, 0, none⟩) 2 2, .slice (some ⟨c, 0, none⟩) 2 2] w fun e w' => e = .returned (.tuple #[.int .i64 23, .int .i64 0]) ∧ Below w.heap.size w w' :=
  Dot_any _ _ 2 2 2 [2, 3] [4, 5] x w (by decide) (isInts_at w b _ [2, 3] 3 hb rfl (by intro n hn; simp at hn; rcases hn with rfl | rfl <;> exact ⟨by decide, by decide⟩))
    (isInts_at w c _ [4, 5] 3 hc rfl (by intro n hn; simp at hn; rcases hn with rfl | rfl <;> exact ⟨by decide, by decide⟩)) hg
theorem sh_cmp (w : World) : Calls Tryd.prog 19 #[.agg #[.int .i64 1, .int .i64 2, .int .i64 0, .int .i64 0, .int .i64 0], .agg #[.int .i64 1, .int .i64 3, .int .i64 0, .int .i64 0, .int .i64 0]] w fun e w' => e = .returned (.int .i64 (-1)) ∧ Below w.heap.size w w' :=
  Compare_any ⟨1, 2, 0, 0, 0⟩ ⟨1, 3, 0, 0, 0⟩ w

theorem two_new (w : World) (o p : Obj) : ((w.alloc o).alloc p).heap[w.heap.size]? = some o ∧ ((w.alloc o).alloc p).heap[w.heap.size + 1]? = some p :=
  ⟨(Below.heap_alloc _ _ _ (by simp)).trans (heap_alloc_new w _), by simpa using heap_alloc_new (w.alloc o) p⟩

theorem shown_any (x : Addr) (w : World) (hg : Sent x w) : Calls Tryd.prog 10 #[] w fun e w' => e = .returned (.bool true) ∧ Way w x w' := by
  have H := Lib.hid (Way.refl hg)
  clear hg
  go_enter Tryd.func10, Tryd.ntmps10
  go_wp2_with fail
  refine (sh_add x _ H.out.sent).mono ?_
  rintro e w1 ⟨rfl, b1⟩
  have H1 := Lib.hid (H.out.call b1); clear b1
  go_wp2_with fail
  refine (sh_mul x _ H1.out.sent).mono ?_
  rintro e w2 ⟨rfl, b2⟩
  have H2 := Lib.hid (H1.out.call b2); clear b2
  go_wp2_with fail
  refine (sh_total x _ _ (H2.out.alloc _).sent (heap_alloc_new _ _)).mono ?_
  rintro e w3 ⟨rfl, b3⟩
  have H3 := Lib.hid ((H2.out.alloc _).call b3); clear b3
  go_wp2_with fail
  refine (sh_dot x _ _ _ ((H3.out.alloc _).alloc _).sent (two_new _ _ _).1 (two_new _ _ _).2).mono ?_
  rintro e w4 ⟨rfl, b4⟩
  have H4 := Lib.hid (((H3.out.alloc _).alloc _).call b4); clear b4
  go_wp2_with fail
  refine (sh_cmp _).mono ?_
  rintro e w5 ⟨rfl, b5⟩
  have H5 := Lib.hid (H4.out.call b5); clear b5
  go_wp2_with fail
  refine (Best_nil _).mono ?_
  rintro e w6 ⟨rfl, rfl⟩
  go_wp2_with fail
  go_ret
  exact ⟨rfl, H5.out⟩
end Go.Proofs.YtjdpocoahinbfaaDoor
