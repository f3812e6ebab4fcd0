/-
  look at an empty row; look, said of a trail; single; Follow.
-/
import Derived.Test.YtngegkgmenfelaaGae
namespace Go.Proofs.Ytngegkgmenfelaa
open Go.RowKit Go.Lib
attribute [local go_sem ↓] Go.wp_at_zero Go.wp_at_succ

theorem Below.drewN {m : Nat} {a w : World} (h : Below m a w) (k : Nat) : Below m a (w.drewN k) := h.trans ⟨rfl, rfl, rfl, Nat.le_refl _, fun _ _ => rfl⟩

theorem setW_same (T : Tr) (j : Nat) (hj : j < T.W.length) : setW T j (T.W.getD j []) = T := by
  unfold setW
  have e : T.W.set j (T.W.getD j []) = T.W := by rw [List.getD_eq_getElem?_getD, List.getElem?_eq_getElem hj, Option.getD_some, List.set_getElem_self]
  rw [e]

/-- A watch list's slice is laid again as it was. -/
theorem TrailV.sameW {w : World} {B : Nat → Prop} {b : Nat} {T : Tr} {val : Sl → Value} (h : TrailV w B b T val) {j : Nat} (hj : j < T.W.length) :
    ∃ gw cw, w.cell? ⟨b, 1, none⟩ = some (.slice (some ⟨gw, 0, none⟩) T.W.length cw) ∧ w.frozen? ⟨gw, j, none⟩ = false ∧ w.cell? ⟨gw, j, none⟩ = some (val (.W j)) ∧ gw < w.heap.size ∧ b < w.heap.size ∧
      Hid (TrailAt (w.setCell ⟨gw, j, none⟩ (val (.W j))).drew B b T ∧ Keep B w (w.setCell ⟨gw, j, none⟩ (val (.W j))).drew) ∧
      Hid (∀ w', Below w.heap.size w w' → w'.cell? ⟨b, 1, none⟩ = some (.slice (some ⟨gw, 0, none⟩) T.W.length cw)) ∧ Hid ((w.setCell ⟨gw, j, none⟩ (val (.W j))).drew.cell? ⟨b, 1, none⟩ = some (.slice (some ⟨gw, 0, none⟩) T.W.length cw)) := by
  obtain ⟨ct, M, ht⟩ := h
  obtain ⟨gw, cw, wa, wn, wc, ew, cw1, ewj, cwj, ewl, hgw⟩ := watch_at M ht j hj
  have hw : (ct .wa)[j]? = some (val (.W j)) := by rw [ht.wa, List.getElem?_map, List.getElem?_range hj]; rfl
  obtain ⟨c1, f1⟩ := M.waCell ew hw
  have hB : ¬ B gw := M.nB .wa gw (by rw [ew]; rfl)
  have M2 := (M.store .wa ew j (val (.W j))).drew
  have e : (ct .wa).set j (val (.W j)) = ct .wa := by
    have hl : j < (ct .wa).length := by rw [ht.wa, List.length_map, List.length_range]; exact hj
    rw [List.getElem?_eq_getElem hl] at hw
    injection hw with hw
    rw [← hw, List.set_getElem_self]
  rw [e, upS_self _ _ _ rfl] at M2
  exact ⟨gw, cw, cw1, f1, c1, hgw, lt_of_block M.box, Lib.hid ⟨⟨val, ct, M2, ht⟩, ((Keep.refl B w).setCell hB _).drew⟩, Lib.hid (fun w' hb => ((M.below hb (Nat.le_refl _)).bcell 1).trans (by rw [← ew]; rfl)), Lib.hid ((M2.bcell 1).trans (by rw [← ew]; rfl))⟩

set_option maxRecDepth 100000 in
set_option maxHeartbeats 4000000 in
theorem look_nil {w : World} {B : Nat → Prop} {b : Nat} {T : Tr} {val : Sl → Value} (h : TrailV w B b T val) (x : Int) (n : Nat) (hl : T.W.getD (sideN x) [] = []) (hok : Ok n T) (hx : 1 ≤ x.natAbs ∧ x.natAbs ≤ n) :
    Calls Try.prog 47 #[.pointer (some ⟨b, 0, none⟩), .int .i64 x] w fun e w' => e = .returned (.int .i64 (-1)) ∧ Keep B w w' ∧ TrailAt w' B b T := by
  obtain ⟨j, hj⟩ : ∃ j, sideN x = j := ⟨_, rfl⟩
  have hjw : j < T.W.length := by rw [← hj, hok.wl]; exact side_lt hx
  have hn2 := hok.n2
  have hs0 : sideI x = ((j : Nat) : Int) := by rw [← hj]; unfold sideN; have : 0 ≤ sideI x := by unfold sideI; split <;> omega
                                               omega
  have HSD : Hid (∀ w, Calls Try.prog 59 #[.int .i64 x] w fun e w' => e = .returned (.int .i64 (j : Nat)) ∧ w' = w) := Lib.hid fun w => by rw [← hs0]; exact side_any x w (by omega)
  obtain ⟨a, c, hv⟩ : ∃ a c, val (.W j) = .slice a 0 c := by
    obtain ⟨ct, hm, ht⟩ := h
    have h2 := hm.row (.W j)
    rw [ht.W j, ← hj, hl] at h2
    obtain ⟨a, c, e, _, _⟩ := h2.form
    rw [hj] at e
    exact ⟨a, c, e⟩
  obtain ⟨gw, cw, cw1, fw, cwj, hgw, hbW, HF, HA, HFB⟩ := h.sameW hjw
  have HT := Lib.hid h
  have HV := Lib.hid hv
  rw [hv] at cwj HF HFB
  obtain ⟨wl, hwl⟩ : ∃ wl, T.W.length = wl := ⟨_, rfl⟩
  rw [hwl] at cw1 HA HFB
  have hj1 : (j : Int) < (wl : Int) := by omega
  have hj0 : (0 : Int) ≤ (j : Int) := by omega
  have HJW := Lib.hid hjw
  have HWL := Lib.hid hwl
  clear hl hok hs0 hv hwl hjw hj hn2 hx h fw HF HA HFB
  go_enter Try.func47, Try.ntmps47
  go_wp2_with fail
  go_quiet ((go_at_call 59; exact Calls.quiet_of_same (HSD.out _)))
  go_wp2_with fail
  refine wp_loop_rounds 1 ?_
  rw [rounds_succ]
  go_wp2_with fail
  obtain ⟨gw2, cw2, cx1, fx, cxj, hgx, hbx, HF, HA, HFB⟩ := (HT.out.below (Below.drewN (Below.refl w.heap.size w) nq) (Nat.le_refl _)).sameW HJW.out
  rw [HV.out] at cxj HF HFB
  rw [HWL.out] at cx1 HA HFB
  refine look_store _ _ _ _ _ _ _ _ _ _ _ _ _ _ _ _ _ _ _ _ _ _ _ _ _ _ _ _ _ _ _ _ _ _ _ _ _ _ _ _ _ _ _ _ _ _ _ _ _ _ _ _ _ _ _ _ _ _ _ _ _ _ _ _ _ _ _ _ _ _ _ _ _ _ _ _ _ _ _ _ _ _ _ _ _ _ _ _ _ _ _ _ _ _ _ _ _ _ _ _ hbx hgx cx1 cxj fx hj0 hj1 HA HFB HSD ?_
  intro v94 v95 v96 v97 v98 v99 v100 v101 w9 ew9
  subst ew9
  clear cx1 cxj fx cw1 cwj
  go_wp2_with fail
  go_ret
  obtain ⟨t9, k9⟩ := HF.out
  exact ⟨rfl, (Keep.drewN (Keep.refl B w) nq).trans k9, t9⟩

/-- look, of the next literal. -/
theorem look_T {w : World} {B : Nat → Prop} {b : Nat} {T : Tr} {n : Nat} (h : TrailAt w B b T) (hg : Good n T) (hn : T.nx < T.lits.length) :
    Calls Try.prog 47 #[.pointer (some ⟨b, 0, none⟩), .int .i64 (-(T.lits.getD T.nx 0))] w fun e w' => e = .returned (.int .i64 (lookT T (-(T.lits.getD T.nx 0))).1) ∧ Keep B w w' ∧ TrailAt w' B b (lookT T (-(T.lits.getD T.nx 0))).2 := by
  obtain ⟨val, h⟩ := h
  have hi := hg.lookInv T.nx hn
  generalize -(T.lits.getD T.nx 0) = x at *
  by_cases hl : T.W.getD (sideN x) [] = []
  · have hj : sideN x < T.W.length := by rw [hi.ok.wl]; exact side_lt hi.xok
    have e : lookT T x = (-1, T) := by
      unfold lookT
      rw [hl]
      show ((-1 : Int), setW T (sideN x) []) = (-1, T)
      have := setW_same T (sideN x) hj
      rw [hl] at this
      rw [this]
    rw [e]
    exact look_nil h x n hl hi.ok hi.xok
  · have hp : 0 < (T.W.getD (sideN x) []).length := List.length_pos_iff.2 hl
    have hr := hg.rowLen (sideN x)
    have := hg.ok.ll
    exact look_any h x n 300000 20000 _ rfl hp hi (by omega) (by omega)
end Go.Proofs.Ytngegkgmenfelaa
