/-
  SumTurns: the walk.
-/
import Derived.Test.YtjdpocoahinbfaaDoorL1
import Derived.Outline
namespace Go.Proofs.YtjdpocoahinbfaaDoor
open Go.RowKit Go.Lib

theorem addO_zero {a : Int} (ha : In64 a) : addO a 0 = some a := by unfold In64 at ha; rw [addO_in (by omega) (by omega)]; simp
theorem mulO_one {a : Int} (ha : In64 a) : mulO 1 a = some a := by unfold In64 at ha; rw [mulO_in (by omega) (by omega)]; simp
theorem addO_some {a b n : Int} (h : addO a b = some n) : n = a + b ∧ -9223372036854775808 ≤ a + b ∧ a + b ≤ 9223372036854775807 := by
  unfold addO at h; split at h
  · rename_i hc; simp at h; exact ⟨h.symm, hc⟩
  · simp at h

/-- A contract of a function that hands back a number and an error. -/
def Gives (f : FuncId) (args : Array Value) (x : Addr) (n e : Int) : Prop :=
  ∀ w, Sent x w → Calls Tryd.prog f args w fun r w' => r = .returned (.tuple #[.int .i64 n, .int .i64 e]) ∧ Below w.heap.size w w'

theorem turns_core (a b : Int) (x : Addr) (w : World) (s e k g : Int) (ha : In64 a) (hb : In64 b) (hg : Sent x w)
    (c1 : Gives 11 #[.int .i64 a, .int .i64 b] x s e) (c2 : Gives 11 #[.int .i64 b, .int .i64 a] x s e) (c3 : Gives 13 #[.int .i64 a, .int .i64 b] x k g) (c4 : Gives 13 #[.int .i64 b, .int .i64 a] x k g)
    (c5 : Gives 11 #[.int .i64 a, .int .i64 0] x a 0) (c6 : Gives 13 #[.int .i64 1, .int .i64 a] x a 0)
    (he : (s = 0 ∧ e = 2) ∨ (s = a + b ∧ e = 0 ∧ -9223372036854775808 ≤ a + b ∧ a + b ≤ 9223372036854775807)) :
    Calls Tryd.prog 5 #[.int .i64 a, .int .i64 b] w fun e w' => e = .returned (.bool true) ∧ Below w.heap.size w w' := by
  have ha' : -9223372036854775808 ≤ a ∧ a ≤ 9223372036854775807 := ha
  have hb' : -9223372036854775808 ≤ b ∧ b ≤ 9223372036854775807 := hb
  have e1 : (a + b - a == b) = true := by simp; omega
  have e2 : (a + b - b == a) = true := by simp
  have H := Lib.hid hg
  clear hg
  go_enter Tryd.func5, Tryd.ntmps5
  go_wp2_with fail
  refine (shown_any x _ H.out).mono ?_
  rintro r w1 ⟨rfl, b1⟩
  have H1 := Lib.hid b1; clear b1
  go_wp2_with fail
  refine (c1 _ H1.out.sent).mono ?_
  rintro r w2 ⟨rfl, b2⟩
  have H2 := Lib.hid (H1.out.call b2); clear b2
  go_wp2_with fail
  refine (c2 _ H2.out.sent).mono ?_
  rintro r w3 ⟨rfl, b3⟩
  have H3 := Lib.hid (H2.out.call b3); clear b3
  go_wp2_with fail
  refine (c3 _ H3.out.sent).mono ?_
  rintro r w4 ⟨rfl, b4⟩
  have H4 := Lib.hid (H3.out.call b4); clear b4
  go_wp2_with fail
  refine (c4 _ H4.out.sent).mono ?_
  rintro r w5 ⟨rfl, b5⟩
  have H5 := Lib.hid (H4.out.call b5); clear b5
  go_wp2_with fail
  refine (c5 _ H5.out.sent).mono ?_
  rintro r w6 ⟨rfl, b6⟩
  have H6 := Lib.hid (H5.out.call b6); clear b6
  go_wp2_with fail
  refine (c6 _ H6.out.sent).mono ?_
  rintro r w7 ⟨rfl, b7⟩
  have H7 := Lib.hid (H6.out.call b7); clear b7
  rcases he with ⟨rfl, rfl⟩ | ⟨rfl, rfl, g1, g2⟩
  · go_wp2_with fail
    go_ret
    exact ⟨rfl, H7.out.bel⟩
  · go_wp2_with fail
    go_ret
    exact ⟨rfl, H7.out.bel⟩

theorem turns_walk (a b : Int) (x : Addr) (w : World) (ha : In64 a) (hb : In64 b) (hg : Sent x w) :
    Calls Tryd.prog 5 #[.int .i64 a, .int .i64 b] w fun e w' => e = .returned (.bool true) ∧ Below w.heap.size w w' := by
  refine turns_core a b x w (valO (addO a b)) (errO (addO a b)) (valO (mulO a b)) (errO (mulO a b)) ha hb hg (fun w h => Add_any a b x w ha hb h) (fun w h => ?_) (fun w h => Mul_any a b x w ha hb h) (fun w h => ?_) (fun w h => ?_) (fun w h => ?_) ?_
  · have := Add_any b a x w hb ha h
    rwa [addO_comm b a] at this
  · have := Mul_any b a x w hb ha h
    rwa [mulO_comm b a] at this
  · have := Add_any a 0 x w ha in64_0 h
    rwa [addO_zero ha] at this
  · have := Mul_any 1 a x w ⟨by decide, by decide⟩ ha h
    rwa [mulO_one ha] at this
  · cases ho : addO a b with
    | none => exact .inl ⟨rfl, rfl⟩
    | some n =>
      obtain ⟨rfl, h1, h2⟩ := addO_some ho
      exact .inr ⟨rfl, rfl, h1, h2⟩
end Go.Proofs.YtjdpocoahinbfaaDoor
