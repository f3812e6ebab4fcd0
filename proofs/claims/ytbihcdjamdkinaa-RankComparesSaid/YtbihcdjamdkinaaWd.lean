/-
  Stores into a queue; swap.
-/
import Derived.Test.YtbihcdjamdkinaaWc
import Derived.StillTailTactics
import Derived.Deep.RegionHeld3
import Derived.Deep.DrawnRows
namespace Go.Proofs.Ytbihcdjamdkinaa
open Go.RowKit Go.Lib
attribute [local go_sem ↓] Go.wp_at_zero Go.wp_at_succ

theorem OwnI.drew {w : World} {B : Nat} {v : Value} {es : List Int} (h : OwnI w B v es) : OwnI w.drew B v es := h
theorem QAt.drew {w : World} {B : Nat → Prop} {b : Nat} {lv pv av : Value} {L P A : List Int} {sc : Int} (h : QAt w B b lv pv av L P A sc) : QAt w.drew B b lv pv av L P A sc := { h with box := h.box, l := h.l, p := h.p, a := h.a, lt := h.lt }
theorem QAt.drewN {w : World} {B : Nat → Prop} {b : Nat} {lv pv av : Value} {L P A : List Int} {sc : Int} (h : QAt w B b lv pv av L P A sc) (n : Nat) : QAt (w.drewN n) B b lv pv av L P A sc := { h with box := h.box, l := h.l, p := h.p, a := h.a, lt := h.lt }

theorem apart_ne {v u : Value} {g : Nat} (h : ApartV v u) (hv : v.ownBlock = some g) : u.ownBlock ≠ some g := by
  rcases h with h | h
  · rw [h] at hv; cases hv
  · exact fun e => h (by rw [hv, e])

theorem QAt.storeL {w : World} {B : Nat → Prop} {b g n c : Nat} {pv av : Value} {L P A : List Int} {sc : Int} (h : QAt w B b (.slice (some ⟨g, 0, none⟩) n c) pv av L P A sc) (j : Nat) (z : Int) :
    QAt (w.setCell ⟨g, j, none⟩ (.int .i64 z)) B b (.slice (some ⟨g, 0, none⟩) n c) pv av (L.set j z) P A sc :=
  { h with
    box := by
      rw [Below.heap_setCell _ _ _ _ (fun e => h.bl (by rw [e]; rfl))]; exact h.box
    l := h.l.store j z
    p := h.p.setCell (a := ⟨g, j, none⟩) (apart_ne h.lp rfl) _
    a := h.a.setCell (a := ⟨g, j, none⟩) (apart_ne h.la rfl) _
    lt := fun k hk => by have := h.lt k hk; simpa [World.setCell] using this }

theorem QAt.storeP {w : World} {B : Nat → Prop} {b g n c : Nat} {lv av : Value} {L P A : List Int} {sc : Int} (h : QAt w B b lv (.slice (some ⟨g, 0, none⟩) n c) av L P A sc) (j : Nat) (z : Int) :
    QAt (w.setCell ⟨g, j, none⟩ (.int .i64 z)) B b lv (.slice (some ⟨g, 0, none⟩) n c) av L (P.set j z) A sc :=
  { h with
    box := by
      rw [Below.heap_setCell _ _ _ _ (fun e => h.bp (by rw [e]; rfl))]; exact h.box
    l := h.l.setCell (a := ⟨g, j, none⟩) (apart_ne h.lp.symm rfl) _
    p := h.p.store j z
    a := h.a.setCell (a := ⟨g, j, none⟩) (apart_ne h.pa rfl) _
    lt := fun k hk => by have := h.lt k hk; simpa [World.setCell] using this }

theorem QAt.storeA {w : World} {B : Nat → Prop} {b g n c : Nat} {lv pv : Value} {L P A : List Int} {sc : Int} (h : QAt w B b lv pv (.slice (some ⟨g, 0, none⟩) n c) L P A sc) (j : Nat) (z : Int) :
    QAt (w.setCell ⟨g, j, none⟩ (.int .i64 z)) B b lv pv (.slice (some ⟨g, 0, none⟩) n c) L P (A.set j z) sc :=
  { h with
    box := by
      rw [Below.heap_setCell _ _ _ _ (fun e => h.ba (by rw [e]; rfl))]; exact h.box
    l := h.l.setCell (a := ⟨g, j, none⟩) (apart_ne h.la.symm rfl) _
    p := h.p.setCell (a := ⟨g, j, none⟩) (apart_ne h.pa.symm rfl) _
    a := h.a.store j z
    lt := fun k hk => by have := h.lt k hk; simpa [World.setCell] using this }

set_option maxRecDepth 100000 in
set_option maxHeartbeats 2000000 in
theorem swap_any {w : World} {B : Nat → Prop} {b : Nat} {lv pv av : Value} {L P A : List Int} {sc : Int} (h : QAt w B b lv pv av L P A sc) (i k u v : Nat) (hi : i < L.length) (hk : k < L.length) (hu : L.getD i 0 = u) (hv : L.getD k 0 = v) (hu' : u < P.length) (hv' : v < P.length) :
    Calls Try.prog 50 #[.pointer (some ⟨b, 0, none⟩), .int .i64 i, .int .i64 k] w fun e w' => e = .returned (.tuple #[]) ∧ Keep B w w' ∧ QAt w' B b lv pv av ((L.set i v).set k u) ((P.set v i).set u k) A sc := by
  obtain ⟨g, cl, rfl, _, _, _, gl, hcl, hfl⟩ := h.l.at (by omega)
  have hBg : ¬ B g := h.nl g rfl
  have b0 := h.c0
  have l1 := hcl i hi
  have l2 := hcl k hk
  rw [hu] at l1
  rw [hv] at l2
  have f1 := hfl i
  have f2 := hfl k
  have H := Lib.hid h
  clear hcl hfl h
  obtain ⟨ll, hll⟩ : ∃ n, L.length = n := ⟨_, rfl⟩
  have HLL := Lib.hid hll
  rw [hll] at b0 hi hk
  have HU := Lib.hid hu
  have HV := Lib.hid hv
  have HP := Lib.hid hu'
  have HP' := Lib.hid hv'
  clear hll hu hv hu' hv'
  have H2 := Lib.hid (H.out.storeL i v)
  have m2 : ∃ z, (w.setCell ⟨g, i, none⟩ (.int .i64 v)).cell? ⟨g, k, none⟩ = some z := by
    obtain ⟨g', c', e, _, _, _, _, hc, _⟩ := H2.out.l.at (by simp [HLL.out]; omega)
    injection e with e1 _ _
    injection e1 with e1
    injection e1 with e1 _ _
    subst e1
    exact ⟨_, hc k (by simp [HLL.out]; exact hk)⟩
  obtain ⟨z, m2⟩ := m2
  have f3 : (w.setCell ⟨g, i, none⟩ (.int .i64 v)).frozen? ⟨g, k, none⟩ = false := by
    obtain ⟨g', c', e, _, _, _, _, _, hf⟩ := H2.out.l.at (by simp [HLL.out]; omega)
    injection e with e1 _ _
    injection e1 with e1
    injection e1 with e1 _ _
    subst e1
    exact hf k
  go_enter Try.func50, Try.ntmps50
  go_wp2
  have n1 : ¬ g = b := fun e => H.out.bl (by rw [e]; rfl)
  have n2 : ¬ b = g := fun e => n1 e.symm
  refine wp_region_held_drew (S := fun w' => w'.cell? ⟨b, 0, none⟩ = some (.slice (some ⟨g, 0, none⟩) ll cl)) (by kernel_rfl) (by go_keep) (fun hHeld => ?_)
  refine wpAnyH_take (i := 0) (v := ?_) rfl (by kernel_rfl) (by kernel_rfl) (by kernel_rfl) (fun _ _ _ h => h) (Or.inl ⟨by rfl, ?_⟩) (by assumption) ?_
  rotate_left
  · intro w hSw
    (try dsimp only at hSw)
    go_simp
    (try with_reducible rfl)
  (try simp only [Act.put, List.setIfInBounds_toArray, List.set_cons_zero, List.set_cons_succ, List.getElem_toArray, List.getElem_cons_zero])
  refine wpAnyH_take (i := 1) (v := ?_) rfl (by kernel_rfl) (by kernel_rfl) (by kernel_rfl) (fun _ _ _ h => h) (Or.inl ⟨by rfl, ?_⟩) (by assumption) ?_
  rotate_left
  · intro w hSw
    (try dsimp only at hSw)
    go_simp
    (try with_reducible rfl)
  (try simp only [Act.put, List.setIfInBounds_toArray, List.set_cons_zero, List.set_cons_succ, List.getElem_toArray, List.getElem_cons_zero, List.getElem_cons_succ])
  refine wpAnyH_take (i := 2) (v := ?_) rfl (by kernel_rfl) (by kernel_rfl) (by kernel_rfl) (fun _ _ _ h => h) (Or.inl ⟨by rfl, ?_⟩) (by assumption) ?_
  rotate_left
  · intro w hSw
    (try dsimp only at hSw)
    go_simp
    (try with_reducible rfl)
  (try simp only [Act.put, List.setIfInBounds_toArray, List.set_cons_zero, List.set_cons_succ, List.getElem_toArray, List.getElem_cons_zero, List.getElem_cons_succ])
  refine wpAnyH_take (i := 3) (v := ?_) rfl (by kernel_rfl) (by kernel_rfl) (by kernel_rfl) (fun _ _ _ h => h) (Or.inl ⟨by rfl, ?_⟩) (by assumption) ?_
  rotate_left
  · intro w hSw
    (try dsimp only at hSw)
    go_simp
    (try with_reducible rfl)
  (try simp only [Act.put, List.setIfInBounds_toArray, List.set_cons_zero, List.set_cons_succ, List.getElem_toArray, List.getElem_cons_zero, List.getElem_cons_succ])
  refine wpAnyH_take (i := 4) (v := ?_) rfl (by kernel_rfl) (by kernel_rfl) (by kernel_rfl) (fun _ _ _ h => h) (Or.inl ⟨by rfl, ?_⟩) (by assumption) ?_
  rotate_left
  · intro w hSw
    (try dsimp only at hSw)
    go_simp
    (try with_reducible rfl)
  (try simp only [Act.put, List.setIfInBounds_toArray, List.set_cons_zero, List.set_cons_succ, List.getElem_toArray, List.getElem_cons_zero, List.getElem_cons_succ])
  refine wpAnyH_take (i := 5) (v := ?_) rfl (by kernel_rfl) (by kernel_rfl) (by kernel_rfl) (fun _ _ _ h => h) (Or.inl ⟨by rfl, ?_⟩) (by assumption) ?_
  rotate_left
  · intro w hSw
    (try dsimp only at hSw)
    go_simp
    (try with_reducible rfl)
  (try simp only [Act.put, List.setIfInBounds_toArray, List.set_cons_zero, List.set_cons_succ, List.getElem_toArray, List.getElem_cons_zero, List.getElem_cons_succ])
  refine wpAnyH_take (i := 6) (v := ?_) rfl (by kernel_rfl) (by kernel_rfl) (by kernel_rfl) (fun _ _ _ h => h) (Or.inl ⟨by rfl, ?_⟩) (by assumption) ?_
  rotate_left
  · intro w hSw
    (try dsimp only at hSw)
    go_simp
    (try with_reducible rfl)
  (try simp only [Act.put, List.setIfInBounds_toArray, List.set_cons_zero, List.set_cons_succ, List.getElem_toArray, List.getElem_cons_zero, List.getElem_cons_succ])
  refine wpAnyH_take (i := 7) (v := ?_) rfl (by kernel_rfl) (by kernel_rfl) (by kernel_rfl) (fun _ _ _ h => h) (Or.inl ⟨by rfl, ?_⟩) (by assumption) ?_
  rotate_left
  · intro w hSw
    (try dsimp only at hSw)
    go_simp
    (try with_reducible rfl)
  (try simp only [Act.put, List.setIfInBounds_toArray, List.set_cons_zero, List.set_cons_succ, List.getElem_toArray, List.getElem_cons_zero, List.getElem_cons_succ])
  refine wpAnyH_take (i := 8) (v := ?_) rfl (by kernel_rfl) (by kernel_rfl) (by kernel_rfl) (fun _ _ _ h => h) (Or.inl ⟨by rfl, ?_⟩) (by assumption) ?_
  rotate_left
  · intro w hSw
    (try dsimp only at hSw)
    go_simp
    (try with_reducible rfl)
  (try simp only [Act.put, List.setIfInBounds_toArray, List.set_cons_zero, List.set_cons_succ, List.getElem_toArray, List.getElem_cons_zero, List.getElem_cons_succ])
  refine wpAnyH_take (i := 9) (v := ?_) rfl (by kernel_rfl) (by kernel_rfl) (by kernel_rfl) (fun _ _ _ h => h) (Or.inl ⟨by rfl, ?_⟩) (by assumption) ?_
  rotate_left
  · intro w hSw
    (try dsimp only at hSw)
    go_simp
    (try with_reducible rfl)
  (try simp only [Act.put, List.setIfInBounds_toArray, List.set_cons_zero, List.set_cons_succ, List.getElem_toArray, List.getElem_cons_zero, List.getElem_cons_succ])
  refine wpAnyH_take (i := 10) (v := ?_) rfl (by kernel_rfl) (by kernel_rfl) (by kernel_rfl) (fun _ _ _ h => h) (Or.inl ⟨by rfl, ?_⟩) (by assumption) ?_
  rotate_left
  · intro w hSw
    (try dsimp only at hSw)
    go_simp
    (try with_reducible rfl)
  (try simp only [Act.put, List.setIfInBounds_toArray, List.set_cons_zero, List.set_cons_succ, List.getElem_toArray, List.getElem_cons_zero, List.getElem_cons_succ])
  refine wpAnyH_take (i := 11) (v := ?_) rfl (by kernel_rfl) (by kernel_rfl) (by kernel_rfl) (fun _ _ _ h => h) (Or.inl ⟨by rfl, ?_⟩) (by assumption) ?_
  rotate_left
  · intro w hSw
    (try dsimp only at hSw)
    go_simp
    (try with_reducible rfl)
  (try simp only [Act.put, List.setIfInBounds_toArray, List.set_cons_zero, List.set_cons_succ, List.getElem_toArray, List.getElem_cons_zero, List.getElem_cons_succ])
  refine wpAnyH_take (i := 12) (v := ?_) rfl (by kernel_rfl) (by kernel_rfl) (by kernel_rfl) (fun _ _ _ h => h) (Or.inl ⟨by rfl, ?_⟩) (by assumption) ?_
  rotate_left
  · intro w hSw
    (try dsimp only at hSw)
    go_simp
    (try with_reducible rfl)
  (try simp only [Act.put, List.setIfInBounds_toArray, List.set_cons_zero, List.set_cons_succ, List.getElem_toArray, List.getElem_cons_zero, List.getElem_cons_succ])
  refine wpAnyH_take (i := 13) (v := ?_) rfl (by kernel_rfl) (by kernel_rfl) (by kernel_rfl) (fun _ _ _ h => h) (Or.inl ⟨by rfl, ?_⟩) (by assumption) ?_
  rotate_left
  · intro w hSw
    (try dsimp only at hSw)
    go_simp
    (try with_reducible rfl)
  (try simp only [Act.put, List.setIfInBounds_toArray, List.set_cons_zero, List.set_cons_succ, List.getElem_toArray, List.getElem_cons_zero, List.getElem_cons_succ])
  refine wpAnyH_take (i := 14) (v := ?_) rfl (by kernel_rfl) (by kernel_rfl) (by kernel_rfl) (fun _ _ _ h => h) (Or.inl ⟨by rfl, ?_⟩) (by assumption) ?_
  rotate_left
  · intro w hSw
    (try dsimp only at hSw)
    go_simp
    (try with_reducible rfl)
  (try simp only [Act.put, List.setIfInBounds_toArray, List.set_cons_zero, List.set_cons_succ, List.getElem_toArray, List.getElem_cons_zero, List.getElem_cons_succ])
  refine wpAnyH_take (i := 15) (v := ?_) rfl (by kernel_rfl) (by kernel_rfl) (by kernel_rfl) (fun _ _ _ h => h) (Or.inl ⟨by rfl, ?_⟩) (by assumption) ?_
  rotate_left
  · intro w hSw
    (try dsimp only at hSw)
    go_simp
    (try with_reducible rfl)
  (try simp only [Act.put, List.setIfInBounds_toArray, List.set_cons_zero, List.set_cons_succ, List.getElem_toArray, List.getElem_cons_zero, List.getElem_cons_succ])
  refine wpAnyH_take (i := 17) (v := ?_) rfl (by kernel_rfl) (by kernel_rfl) (by kernel_rfl) (fun _ _ _ h => h) (Or.inl ⟨by rfl, ?_⟩) (by assumption) ?_
  rotate_left
  · intro w hSw
    (try dsimp only at hSw)
    go_simp
    (try with_reducible rfl)
  (try simp only [Act.put, List.setIfInBounds_toArray, List.set_cons_zero, List.set_cons_succ, List.getElem_toArray, List.getElem_cons_zero, List.getElem_cons_succ])
  refine wpAnyH_take (i := 18) (v := ?_) rfl (by kernel_rfl) (by kernel_rfl) (by kernel_rfl) (fun _ _ _ h => h) (Or.inl ⟨by rfl, ?_⟩) (by assumption) ?_
  rotate_left
  · intro w hSw
    (try dsimp only at hSw)
    go_simp
    (try with_reducible rfl)
  (try simp only [Act.put, List.setIfInBounds_toArray, List.set_cons_zero, List.set_cons_succ, List.getElem_toArray, List.getElem_cons_zero, List.getElem_cons_succ])
  refine wpAnyH_take (i := 19) (v := ?_) rfl (by kernel_rfl) (by kernel_rfl) (by kernel_rfl) (fun _ _ _ h => h) (Or.inl ⟨by rfl, ?_⟩) (by assumption) ?_
  rotate_left
  · intro w hSw
    (try dsimp only at hSw)
    go_simp
    (try with_reducible rfl)
  (try simp only [Act.put, List.setIfInBounds_toArray, List.set_cons_zero, List.set_cons_succ, List.getElem_toArray, List.getElem_cons_zero, List.getElem_cons_succ])
  refine wpAnyH_take (i := 20) (v := ?_) rfl (by kernel_rfl) (by kernel_rfl) (by kernel_rfl) (fun _ _ _ h => h) (Or.inl ⟨by rfl, ?_⟩) (by assumption) ?_
  rotate_left
  · intro w hSw
    (try dsimp only at hSw)
    go_simp
    (try with_reducible rfl)
  (try simp only [Act.put, List.setIfInBounds_toArray, List.set_cons_zero, List.set_cons_succ, List.getElem_toArray, List.getElem_cons_zero, List.getElem_cons_succ])
  refine wpAnyH_take (i := 21) (v := ?_) rfl (by kernel_rfl) (by kernel_rfl) (by kernel_rfl) (fun _ _ _ h => h) (Or.inl ⟨by rfl, ?_⟩) (by assumption) ?_
  rotate_left
  · intro w hSw
    (try dsimp only at hSw)
    go_simp
    (try with_reducible rfl)
  (try simp only [Act.put, List.setIfInBounds_toArray, List.set_cons_zero, List.set_cons_succ, List.getElem_toArray, List.getElem_cons_zero, List.getElem_cons_succ])
  refine wpAnyH_take (i := 22) (v := ?_) rfl (by kernel_rfl) (by kernel_rfl) (by kernel_rfl) (fun _ _ _ h => h) (Or.inl ⟨by rfl, ?_⟩) (by assumption) ?_
  rotate_left
  · intro w hSw
    (try dsimp only at hSw)
    go_simp
    (try with_reducible rfl)
  (try simp only [Act.put, List.setIfInBounds_toArray, List.set_cons_zero, List.set_cons_succ, List.getElem_toArray, List.getElem_cons_zero, List.getElem_cons_succ])
  refine wpAnyH_ready (rs := [16, 23]) (by kernel_rfl) (by simp) ?_
  refine AllReadyH.cons rfl (fun K hK => ?_) ?_
  rotate_left
  refine AllReadyH.cons rfl (fun K hK => ?_) ?_
  rotate_left
  exact AllReadyH.nil
  focus
    go_simp
    refine hK.out _ _ ?_ (fun hHeld => ?_)
    · go_keep
    clear hK K
    (try simp only [Act.put, List.setIfInBounds_toArray, List.set_cons_zero, List.set_cons_succ, List.getElem_toArray, List.getElem_cons_zero, List.getElem_cons_succ])
    refine wpAnyH_ready (rs := [23]) (by kernel_rfl) (by simp) ?_
    refine AllReadyH.cons rfl (fun K hK => ?_) ?_
    rotate_left
    exact AllReadyH.nil
    focus
      go_simp
      refine hK.out _ _ ?_ (fun hHeld => ?_)
      · go_keep
      clear hK K
      (try simp only [Act.put, List.setIfInBounds_toArray, List.set_cons_zero, List.set_cons_succ, List.getElem_toArray, List.getElem_cons_zero, List.getElem_cons_succ])
      refine wpAnyH_take (i := 24) (v := ?_) rfl (by kernel_rfl) (by kernel_rfl) (by kernel_rfl) (fun _ _ _ h => h) (Or.inl ⟨by rfl, ?_⟩) (by assumption) ?_
      rotate_left
      · intro w hSw
        (try dsimp only at hSw)
        go_simp
        (try with_reducible rfl)
      (try simp only [Act.put, List.setIfInBounds_toArray, List.set_cons_zero, List.set_cons_succ, List.getElem_toArray, List.getElem_cons_zero, List.getElem_cons_succ])
      refine wpAnyH_ready (rs := [25]) (by kernel_rfl) (by simp) ?_
      refine AllReadyH.cons rfl (fun K hK => ?_) ?_
      rotate_left
      exact AllReadyH.nil
      focus
        go_simp
        refine hK.out _ _ ?_ (fun hHeld => ?_)
        · go_keep
        clear hK K
        refine wpAnyH_take (i := 26) (v := ?_) rfl (by kernel_rfl) (by kernel_rfl) (by kernel_rfl) (fun _ _ _ h => h) (Or.inl ⟨by rfl, ?_⟩) (by assumption) ?_
        rotate_left
        · intro w hSw
          (try dsimp only at hSw)
          go_simp
          (try with_reducible rfl)
        (try simp only [Act.put, List.setIfInBounds_toArray, List.set_cons_zero, List.set_cons_succ, List.getElem_toArray, List.getElem_cons_zero, List.getElem_cons_succ])
        refine wpAnyH_ready (rs := [27]) (by kernel_rfl) (by simp) ?_
        refine AllReadyH.cons rfl (fun K hK => ?_) ?_
        rotate_left
        exact AllReadyH.nil
        focus
          go_simp
          refine hK.out _ _ ?_ (fun hHeld => ?_)
          · go_keep
          clear hK K
          refine wpAnyH_done (by kernel_rfl) ?_ _
  rotate_right
  focus
    go_simp
    refine hK.out _ _ ?_ (fun hHeld => ?_)
    · go_keep
    clear hK K
    (try simp only [Act.put, List.setIfInBounds_toArray, List.set_cons_zero, List.set_cons_succ, List.getElem_toArray, List.getElem_cons_zero, List.getElem_cons_succ])
    refine wpAnyH_ready (rs := [16]) (by kernel_rfl) (by simp) ?_
    refine AllReadyH.cons rfl (fun K hK => ?_) ?_
    rotate_left
    exact AllReadyH.nil
    focus
      go_simp
      refine hK.out _ _ ?_ (fun hHeld => ?_)
      · go_keep
      clear hK K
      (try simp only [Act.put, List.setIfInBounds_toArray, List.set_cons_zero, List.set_cons_succ, List.getElem_toArray, List.getElem_cons_zero, List.getElem_cons_succ])
      refine wpAnyH_take (i := 24) (v := ?_) rfl (by kernel_rfl) (by kernel_rfl) (by kernel_rfl) (fun _ _ _ h => h) (Or.inl ⟨by rfl, ?_⟩) (by assumption) ?_
      rotate_left
      · intro w hSw
        (try dsimp only at hSw)
        go_simp
        (try with_reducible rfl)
      (try simp only [Act.put, List.setIfInBounds_toArray, List.set_cons_zero, List.set_cons_succ, List.getElem_toArray, List.getElem_cons_zero, List.getElem_cons_succ])
      refine wpAnyH_ready (rs := [25]) (by kernel_rfl) (by simp) ?_
      refine AllReadyH.cons rfl (fun K hK => ?_) ?_
      rotate_left
      exact AllReadyH.nil
      focus
        go_simp
        refine hK.out _ _ ?_ (fun hHeld => ?_)
        · go_keep
        clear hK K
        refine wpAnyH_take (i := 26) (v := ?_) rfl (by kernel_rfl) (by kernel_rfl) (by kernel_rfl) (fun _ _ _ h => h) (Or.inl ⟨by rfl, ?_⟩) (by assumption) ?_
        rotate_left
        · intro w hSw
          (try dsimp only at hSw)
          go_simp
          (try with_reducible rfl)
        (try simp only [Act.put, List.setIfInBounds_toArray, List.set_cons_zero, List.set_cons_succ, List.getElem_toArray, List.getElem_cons_zero, List.getElem_cons_succ])
        refine wpAnyH_ready (rs := [27]) (by kernel_rfl) (by simp) ?_
        refine AllReadyH.cons rfl (fun K hK => ?_) ?_
        rotate_left
        exact AllReadyH.nil
        focus
          go_simp
          refine hK.out _ _ ?_ (fun hHeld => ?_)
          · go_keep
          clear hK K
          refine wpAnyH_done (by kernel_rfl) ?_ _
  all_goals
    go_wp2_with fail
    have H3 := Lib.hid ((H2.out.storeL k u).drew)
    have HB3 : Hid (Keep B w ((w.setCell ⟨g, i, none⟩ (.int .i64 v)).setCell ⟨g, k, none⟩ (.int .i64 u)).drew) := Lib.hid (((Keep.refl _ _).setCell hBg _).setCell hBg _).drew
    generalize ((w.setCell ⟨g, i, none⟩ (.int .i64 v)).setCell ⟨g, k, none⟩ (.int .i64 u)).drew = W at *
    clear m2 f3 l1 l2 f1 f2 b0 H2 H
    have e1 : ((L.set i (v : Int)).set k (u : Int)).getD i 0 = v := by
      have hu := HU.out
      have hv := HV.out
      have h1 : i < L.length := by rw [HLL.out]; exact hi
      have h2 : k < L.length := by rw [HLL.out]; exact hk
      by_cases e : k = i
      · subst e
        have : u = v := by omega
        subst this
        simp [h1]
      · rw [List.getD_eq_getElem?_getD, List.getElem?_set_ne e]; simp [h1]
    have e2 : ((L.set i (v : Int)).set k (u : Int)).getD k 0 = u := by
      have h2 : k < L.length := by rw [HLL.out]; exact hk
      rw [List.getD_eq_getElem?_getD]; simp [h2]
    have hlen : ((L.set i (v : Int)).set k (u : Int)).length = ll := by simp; exact HLL.out
    obtain ⟨g', c', e, _, _, _, _, hcl, _⟩ := H3.out.l.at (by rw [hlen]; omega)
    injection e with e3 _ _
    injection e3 with e3
    injection e3 with e3 _ _
    subst e3
    obtain ⟨gp, cp, rfl, _, _, _, _, hcp, hfp⟩ := H3.out.p.at (by have := HP.out; omega)
    have hBp : ¬ B gp := H3.out.np gp rfl
    have b0 := H3.out.c0
    have b1 := H3.out.c1
    have l1 := hcl i (by rw [hlen]; exact hi)
    have l2 := hcl k (by rw [hlen]; exact hk)
    rw [e1] at l1
    rw [e2] at l2
    have p1 := hcp u HP.out
    have p2 := hcp v HP'.out
    have f1 := hfp u
    have f2 := hfp v
    have H4 := Lib.hid (H3.out.storeP v i)
    have m2 : ∃ z, (W.setCell ⟨gp, v, none⟩ (.int .i64 i)).cell? ⟨gp, u, none⟩ = some z := by
      obtain ⟨g', c', e, _, _, _, _, hc, _⟩ := H4.out.p.at (by simp; have := HP.out; omega)
      injection e with e1 _ _
      injection e1 with e1
      injection e1 with e1 _ _
      subst e1
      exact ⟨_, hc u (by simp; exact HP.out)⟩
    obtain ⟨z, m2⟩ := m2
    have f3 : (W.setCell ⟨gp, v, none⟩ (.int .i64 i)).frozen? ⟨gp, u, none⟩ = false := by
      obtain ⟨g', c', e, _, _, _, _, _, hf⟩ := H4.out.p.at (by simp; have := HP.out; omega)
      injection e with e1 _ _
      injection e1 with e1
      injection e1 with e1 _ _
      subst e1
      exact hf u
    have hu' := HP.out
    have hv' := HP'.out
    rw [HLL.out] at b0
    generalize hpl : P.length = pl at *
    have HPL := Lib.hid hpl
    clear hpl e1 e2 hlen hcl hcp hfp
    have n3 : ¬ gp = b := fun e => H3.out.bp (by rw [e]; rfl)
    have n4 : ¬ b = gp := fun e => n3 e.symm
    have n5 : ¬ gp = g := fun e => apart_ne H3.out.lp rfl (by rw [e]; rfl)
    have n6 : ¬ g = gp := fun e => n5 e.symm
    go_region_held3 (fun w' => w'.cell? ⟨b, 0, none⟩ = some (.slice (some ⟨g, 0, none⟩) ll cl) ∧ w'.cell? ⟨b, 1, none⟩ = some (.slice (some ⟨gp, 0, none⟩) pl cp) ∧ w'.cell? ⟨g, i, none⟩ = some (.int .i64 v) ∧ w'.cell? ⟨g, k, none⟩ = some (.int .i64 u)) (go_keep) (fail)
    go_wp2_with fail
    have hpl := HPL.out
    subst hpl
    go_end0
    exact ⟨rfl, ((HB3.out.setCell hBp _).setCell hBp _).drew, (H4.out.storeP u k).drew⟩
end Go.Proofs.Ytbihcdjamdkinaa
