/-
  ahead: whether the one at a place must stand ahead of that at another one.
-/
import Derived.Test.YtbihcdjamdkinaaWb
import Derived.Deep.QuietTactic
import Derived.BigQuiet
namespace Go.Proofs.Ytbihcdjamdkinaa
open Go.RowKit Go.Lib
attribute [local go_sem ↓] Go.wp_at_zero Go.wp_at_succ

/-- Must u stand ahead of v? -/
def ahd (A : List Int) (u v : Nat) : Bool := decide (orI (cmpI (A.getD v 0) (A.getD u 0)) (cmpI u v) < 0)

set_option maxRecDepth 100000 in
set_option maxHeartbeats 2000000 in
theorem ahead_any {w : World} {B : Nat → Prop} {b : Nat} {lv pv av : Value} {L P A : List Int} {sc : Int} (h : QAt w B b lv pv av L P A sc) (i k u v : Nat) (hi : i < L.length) (hk : k < L.length) (hu : L.getD i 0 = u) (hv : L.getD k 0 = v) (hu' : u < A.length) (hv' : v < A.length) :
    Calls Try.prog 49 #[.pointer (some ⟨b, 0, none⟩), .int .i64 i, .int .i64 k] w fun e w' => e = .returned (.bool (ahd A u v)) ∧ Below w.heap.size w w' := by
  obtain ⟨g, cl, rfl, _, _, _, gl, hcl, _⟩ := h.l.at (by omega)
  obtain ⟨ga, ca, rfl, _, _, _, gal, hca, _⟩ := h.a.at (by omega)
  have b0 := h.c0
  have b2 := h.c2
  have l1 := hcl i hi
  have l2 := hcl k hk
  have a1 := hca u hu'
  have a2 := hca v hv'
  rw [hu] at l1
  rw [hv] at l2
  have bl : b < w.heap.size := lt_of_block h.box
  clear hcl hca h hu hv
  generalize L.length = ll at *
  generalize A.length = al at *
  have HA : Hid (ahd A u v = decide (orI (cmpI (A.getD v 0) (A.getD u 0)) (cmpI u v) < 0)) := rfl
  generalize ahd A u v = r at *
  generalize A.getD u 0 = x at *
  generalize A.getD v 0 = y at *
  go_enter Try.func49, Try.ntmps49
  go_wp2
  go_quiet (fail)
  go_wp2
  have key : ∀ w', Below w.heap.size w w' → (Hid (Below w.heap.size w w') ∧ w'.cell? ⟨b, 2, none⟩ = some (.slice (some ⟨ga, 0, none⟩) al ca) ∧ w'.cell? ⟨ga, u, none⟩ = some (.int .i64 x) ∧ w'.cell? ⟨ga, v, none⟩ = some (.int .i64 y)) := fun w' h => ⟨Lib.hid h, (h.cell (p := ⟨b, 2, none⟩) bl).trans b2, (h.cell (p := ⟨ga, u, none⟩) gal).trans a1, (h.cell (p := ⟨ga, v, none⟩) gal).trans a2⟩
  have start := key (w.drewN nq).drew (below_drewN (Below.refl _ _) _).drew
  have keyA : ∀ w' o, (Hid (Below w.heap.size w w') ∧ w'.cell? ⟨b, 2, none⟩ = some (.slice (some ⟨ga, 0, none⟩) al ca) ∧ w'.cell? ⟨ga, u, none⟩ = some (.int .i64 x) ∧ w'.cell? ⟨ga, v, none⟩ = some (.int .i64 y)) → (Hid (Below w.heap.size w (w'.alloc o)) ∧ (w'.alloc o).cell? ⟨b, 2, none⟩ = some (.slice (some ⟨ga, 0, none⟩) al ca) ∧ (w'.alloc o).cell? ⟨ga, u, none⟩ = some (.int .i64 x) ∧ (w'.alloc o).cell? ⟨ga, v, none⟩ = some (.int .i64 y)) := fun w' o h => key _ (h.1.out.alloc h.1.out.size o)
  have KA := Lib.hid keyA
  clear key keyA b0 b2 l1 l2 a1 a2 bl gl gal
  go_region_held3 (fun w' => Hid (Below w.heap.size w w') ∧ w'.cell? ⟨b, 2, none⟩ = some (.slice (some ⟨ga, 0, none⟩) al ca) ∧ w'.cell? ⟨ga, u, none⟩ = some (.int .i64 x) ∧ w'.cell? ⟨ga, v, none⟩ = some (.int .i64 y))
    (first | assumption | exact KA.out _ _ (by assumption)) (first
      | (go_at_call 55; refine (cmpI_any _ _ _).mono ?_; rintro e w' ⟨rfl, rfl⟩)
      | (go_at_call 54; refine (Or_any _ _ _ _ (heap_alloc_new _ _)).mono ?_; rintro e w' ⟨rfl, rfl⟩))
  all_goals
    rename_i hfin
    have HF := Lib.hid hfin.1.out
    clear hfin start
    go_wp2_with fail
    go_ret
    exact ⟨by rw [HA.out]; rfl, HF.out⟩
end Go.Proofs.Ytbihcdjamdkinaa
