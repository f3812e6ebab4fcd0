/-
  is, Has, Of, Scaled, Len: what is read of a Rank.
-/
import Derived.Test.YtbihcdjamdkinaaWg
namespace Go.Proofs.Ytbihcdjamdkinaa
open Go.RowKit Go.Lib

section
variable {w : World} {B : Nat → Prop} {b : Nat} {lv pv av : Value} {L P A : List Int} {sc : Int}

theorem is_yes (h : QAt w B b lv pv av L P A sc) (v : Nat) (h1 : 1 ≤ v) (h2 : v < A.length) : Calls Try.prog 37 #[.pointer (some ⟨b, 0, none⟩), .int .i64 v] w fun e w' => e = .returned (.bool true) ∧ w' = w := by
  obtain ⟨g, c, rfl, _⟩ := h.a.at (by omega)
  have b2 := h.c2
  clear h
  generalize A.length = al at *
  have d1 : decide ((1 : Int) ≤ v) = true := by simp; omega
  have d2 : decide (v < al) = true := by simpa using h2
  go_enter Try.func37, Try.ntmps37
  go_wp2_with fail
  go_ret
  exact ⟨rfl, rfl⟩

theorem is_no (h : QAt w B b lv pv av L P A sc) (v : Int) (h1 : v < 1 ∨ (A.length : Int) ≤ v) : Calls Try.prog 37 #[.pointer (some ⟨b, 0, none⟩), .int .i64 v] w fun e w' => e = .returned (.bool false) ∧ w' = w := by
  obtain ⟨a, c, rfl⟩ := h.a.form
  have b2 := h.c2
  clear h
  generalize A.length = al at *
  by_cases h0 : v < 1
  · have d1 : decide ((1 : Int) ≤ v) = false := by simp; omega
    clear h1 h0
    go_enter Try.func37, Try.ntmps37
    go_wp2_with fail
    go_ret
    exact ⟨rfl, rfl⟩
  · have d1 : decide ((1 : Int) ≤ v) = true := by simp; omega
    have d2 : decide (v < (al : Int)) = false := by simp; omega
    clear h1 h0
    go_enter Try.func37, Try.ntmps37
    go_wp2_with fail
    go_ret
    exact ⟨rfl, rfl⟩

theorem Has_yes (h : QAt w B b lv pv av L P A sc) (v : Nat) (h1 : 1 ≤ v) (h2 : v < A.length) (h3 : v < P.length) : Calls Try.prog 27 #[.pointer (some ⟨b, 0, none⟩), .int .i64 v] w fun e w' => e = .returned (.bool (decide (0 ≤ P.getD v 0))) ∧ w' = w := by
  have I := Lib.hid (is_yes h v h1 h2)
  obtain ⟨g, c, rfl, _, _, _, _, hc, _⟩ := h.p.at (by omega)
  have b1 := h.c1
  have p1 := hc v h3
  clear h hc
  generalize P.getD v 0 = x at *
  generalize P.length = pl at *
  go_enter Try.func27, Try.ntmps27
  go_wp2_with (go_at_call 37; refine I.out.mono ?_; rintro e w' ⟨rfl, rfl⟩)
  go_ret
  exact ⟨rfl, rfl⟩

theorem Has_no (h : QAt w B b lv pv av L P A sc) (v : Int) (h1 : v < 1 ∨ (A.length : Int) ≤ v) : Calls Try.prog 27 #[.pointer (some ⟨b, 0, none⟩), .int .i64 v] w fun e w' => e = .returned (.bool false) ∧ w' = w := by
  have I := Lib.hid (is_no h v h1)
  clear h
  go_enter Try.func27, Try.ntmps27
  go_wp2_with (go_at_call 37; refine I.out.mono ?_; rintro e w' ⟨rfl, rfl⟩)
  go_ret
  exact ⟨rfl, rfl⟩

theorem Of_yes (h : QAt w B b lv pv av L P A sc) (v : Nat) (h1 : 1 ≤ v) (h2 : v < A.length) : Calls Try.prog 17 #[.pointer (some ⟨b, 0, none⟩), .int .i64 v] w fun e w' => e = .returned (.int .i64 (A.getD v 0)) ∧ w' = w := by
  have I := Lib.hid (is_yes h v h1 h2)
  obtain ⟨g, c, rfl, _, _, _, _, hc, _⟩ := h.a.at (by omega)
  have b2 := h.c2
  have p1 := hc v h2
  clear h hc
  generalize A.getD v 0 = x at *
  generalize A.length = pl at *
  go_enter Try.func17, Try.ntmps17
  go_wp2_with (go_at_call 37; refine I.out.mono ?_; rintro e w' ⟨rfl, rfl⟩)
  go_ret
  exact ⟨rfl, rfl⟩

theorem Of_no (h : QAt w B b lv pv av L P A sc) (v : Int) (h1 : v < 1 ∨ (A.length : Int) ≤ v) : Calls Try.prog 17 #[.pointer (some ⟨b, 0, none⟩), .int .i64 v] w fun e w' => e = .returned (.int .i64 0) ∧ w' = w := by
  have I := Lib.hid (is_no h v h1)
  clear h
  go_enter Try.func17, Try.ntmps17
  go_wp2_with (go_at_call 37; refine I.out.mono ?_; rintro e w' ⟨rfl, rfl⟩)
  go_ret
  exact ⟨rfl, rfl⟩

theorem Scaled_any (h : QAt w B b lv pv av L P A sc) : Calls Try.prog 18 #[.pointer (some ⟨b, 0, none⟩)] w fun e w' => e = .returned (.int .i64 sc) ∧ w' = w := by
  have b3 := h.c3
  clear h
  go_enter Try.func18, Try.ntmps18
  go_wp2_with fail
  go_ret
  exact ⟨rfl, rfl⟩

theorem Len_any (h : QAt w B b lv pv av L P A sc) : Calls Try.prog 22 #[.pointer (some ⟨b, 0, none⟩)] w fun e w' => e = .returned (.int .i64 (L.length : Nat)) ∧ w' = w := by
  obtain ⟨a, c, rfl⟩ := h.l.form
  have b0 := h.c0
  clear h
  generalize L.length = ll at *
  go_enter Try.func22, Try.ntmps22
  go_wp2_with fail
  go_ret
  exact ⟨rfl, rfl⟩
end
end Go.Proofs.Ytbihcdjamdkinaa
