/-
  Follow.
-/
import Derived.Test.YtngegkgmenfelaaWo
import Derived.Deep.LoopGhost
namespace Go.Proofs.Ytngegkgmenfelaa
open Go.RowKit Go.Lib
attribute [local go_sem ↓] Go.wp_at_zero Go.wp_at_succ

theorem TrailAt.next {w : World} {B : Nat → Prop} {b : Nat} {T : Tr} (h : TrailAt w B b T) :
    w.cell? ⟨b, 5, none⟩ = some (.int .i64 (T.nx : Nat)) ∧ w.frozen? ⟨b, 5, none⟩ = false ∧ Hid (TrailAt (w.setCell ⟨b, 5, none⟩ (.int .i64 ((T.nx : Int) + 1))) B b (nextT T) ∧ Keep B w (w.setCell ⟨b, 5, none⟩ (.int .i64 ((T.nx : Int) + 1)))) := by
  obtain ⟨val, ct, hm, ht⟩ := h
  have M := hm.setBox 5 (.int .i64 ((T.nx : Int) + 1))
  have e : (boxOf val T.nx).setIfInBounds 5 (.int .i64 ((T.nx : Int) + 1)) = boxOf val (T.nx + 1) := by simp [boxOf]
  rw [e] at M
  exact ⟨hm.bcell 5, hm.bfr 5, Lib.hid ⟨⟨val, ct, M, ⟨ht.cl, ht.wa, ht.fa, ht.li, ht.st, ht.sh, ht.C, ht.W⟩⟩, (Keep.refl B w).setCell hm.base _⟩⟩
theorem TrailAt.litsAt {w : World} {B : Nat → Prop} {b : Nat} {T : Tr} (h : TrailAt w B b T) :
    ∃ a c, w.cell? ⟨b, 3, none⟩ = some (.slice a T.lits.length c) ∧ T.lits.length ≤ c ∧ b < w.heap.size ∧ ∀ i, i < T.lits.length → ∃ g, a = some ⟨g, 0, none⟩ ∧ w.cell? ⟨g, i, none⟩ = some (.int .i64 (T.lits.getD i 0)) ∧ g < w.heap.size := by
  obtain ⟨val, ct, hm, ht⟩ := h
  have h2 := hm.row .li
  rw [ht.li] at h2
  obtain ⟨a, c, e, hle, _⟩ := h2.form
  rw [ints_len] at e hle
  refine ⟨a, c, by rw [← e]; exact hm.bcell 3, hle, lt_of_block hm.box, fun i hi => ?_⟩
  obtain ⟨g, c', e2, _, _, hg, hc, _⟩ := h2.at (by rw [ints_len]; omega)
  rw [e] at e2
  injection e2 with e2 _ _
  exact ⟨g, e2, hc i _ (ints_at hi), hg⟩
theorem TrailAt.there {w : World} {B : Nat → Prop} {b : Nat} {T : Tr} (h : TrailAt w B b T) : There B w := by
  obtain ⟨val, ct, hm, ht⟩ := h
  exact hm.lt

def FollowRel (w0 : World) (B : Nat → Prop) (b n : Nat) (R : (Int × Bool) × Tr) (f : Nat) (wr : World) : Prop := ∃ T, followGo f T = R ∧ Good n T ∧ n + 1 ≤ T.nx + f ∧ TrailAt wr B b T ∧ Keep B w0 wr
def FollowPost (w : World) (B : Nat → Prop) (b : Nat) (R : (Int × Bool) × Tr) (e : Ending) (w' : World) : Prop := e = .returned (.tuple #[.int .i64 R.1.1, .bool R.1.2]) ∧ Keep B w w' ∧ TrailAt w' B b R.2

set_option maxRecDepth 100000 in
set_option maxHeartbeats 4000000 in
theorem Follow_any {w : World} {B : Nat → Prop} {b n : Nat} {T : Tr} (h : TrailAt w B b T) (hg : Good n T) :
    Calls Try.prog 28 #[.pointer (some ⟨b, 0, none⟩)] w fun e w' => FollowPost w B b (followT T) e w' := by
  obtain ⟨R, hR⟩ : ∃ R, followT T = R := ⟨_, rfl⟩
  rw [hR]
  have HS := Lib.hid (single_any h hg)
  have HR := hg.singleT
  unfold followT at hR
  generalize singleT T = S at *
  obtain ⟨s, T1⟩ := S
  have HSR := Lib.hid HR
  have hbW : b < w.heap.size := by obtain ⟨_, _, hm, _⟩ := h; exact lt_of_block hm.box
  obtain ⟨fl, hfl⟩ : ∃ fl, T.F.length = fl := ⟨_, rfl⟩
  rw [hfl] at hR
  have hfn : fl = n := by rw [← hfl]; exact hg.ok.fl
  have HG := Lib.hid hR
  have HFN := Lib.hid hfn
  clear hR h hg HR hfn hfl
  by_cases hs : s = -1
  · subst hs
    have HGO : Hid (followGo (fl + 1) T1 = R) := Lib.hid (by have := HG.out; rw [if_pos rfl] at this; exact this)
    clear HG
    go_enter Try.func28, Try.ntmps28
    go_wp2_with fail
    go_at_call 46
    refine HS.out.mono ?_
    rintro e w1 hp
    obtain ⟨rfl, k1, t1⟩ := hp
    have REL0 : FollowRel w B b n R (fl + 1) w1 := ⟨T1, HGO.out, HSR.out.good, by have := HFN.out; show n + 1 ≤ T1.nx + (fl + 1); omega, t1, k1⟩
    clear k1 t1 HS hbW
    go_wp2_with fail
    as_aux_lemma =>
    go_loopg [2, 3] (fl + 1) (fun f _ _ wr => FollowRel w B b n R f wr)
    case atStart => exact REL0
    case round =>
      clear REL0
      obtain ⟨T2, hgo, g2, hf, t2, k2⟩ := hrel
      obtain ⟨a, c, c3, hac, hbW, hli⟩ := t2.litsAt
      obtain ⟨c5, f5, _⟩ := t2.next
      obtain ⟨ll, hll⟩ : ∃ ll, T2.lits.length = ll := ⟨_, rfl⟩
      rw [hll] at c3 hli
      obtain ⟨nx, hnx⟩ : ∃ nx, T2.nx = nx := ⟨_, rfl⟩
      have hl20 : ll ≤ 20000 := by have := g2.litsLen; have := g2.ok.n2; omega
      rw [hnx] at c5 hf
      have G2 := Lib.hid g2
      have HT2 := Lib.hid t2
      have K2 := Lib.hid k2
      have HLL := Lib.hid hll
      have HNX := Lib.hid hnx
      by_cases hlt : nx < ll
      · obtain ⟨g, rfl, ci, hgW⟩ := hli nx hlt
        have hn1 : (nx : Int) < (ll : Int) := by omega
        have hn0 : (0 : Int) ≤ (nx : Int) := by omega
        have hlm := g2.litVar (mem_getD (d := 0) (show T2.nx < T2.lits.length by omega))
        rw [hnx] at hlm
        have h20 := g2.ok.n2
        have HF : Hid (n + 1 ≤ nx + gk) := Lib.hid hf
        have hgk : 0 < gk := by have := g2.nxl; have := g2.litsLen; omega
        obtain ⟨f, rfl⟩ : ∃ f, gk = f + 1 := ⟨gk - 1, by omega⟩
        unfold followGo at hgo
        have hlt2 : T2.nx < T2.lits.length := by omega
        rw [if_pos hlt2, hnx] at hgo
        have HST := Lib.hid (g2.lookT hlt2)
        have HCL : Hid (∀ w', Below wr.heap.size wr w' → Calls Try.prog 47 #[.pointer (some ⟨b, 0, none⟩), .int .i64 (-(T2.lits.getD nx 0))] w' fun e w2 => e = .returned (.int .i64 (lookT T2 (-(T2.lits.getD nx 0))).1) ∧ Keep B w' w2 ∧ TrailAt w2 B b (lookT T2 (-(T2.lits.getD nx 0))).2) := Lib.hid fun w' hb => by
          have := look_T (t2.below hb (Nat.le_refl _)) g2 hlt2
          rw [hnx] at this; exact this
        rw [hnx] at HST
        clear hli g2 t2 k2 hll hnx hf hlt2
        obtain ⟨x, hx⟩ : ∃ x, T2.lits.getD nx 0 = x := ⟨_, rfl⟩
        rw [hx] at ci hgo HST HCL hlm
        generalize lookT T2 (-x) = S at *
        obtain ⟨s, T3⟩ := S
        have hw1 : IntKind.i64.wrap (-x) = -x := wrap_i64 (by omega)
        have hw2 : wrap64 (-x) = -x := by unfold wrap64; omega
        clear hx
        by_cases hs : s = -1
        · subst hs
          have HGO : Hid (followGo f (nextT T3) = R) := Lib.hid (by rw [if_pos rfl] at hgo; exact hgo)
          clear hgo
          go_wp2_with fail
          go_quiet (fail)
          go_wp2_with fail
          go_quiet (fail)
          go_wp2_with fail
          refine (HCL.out _ (Below.drewN (Below.refl _ _) _)).mono ?_
          rintro e w4 ⟨rfl, k4, t4⟩
          obtain ⟨d5, e5, HN⟩ := t4.next
          have e3 : T3.nx = nx := HST.out.nx.trans HNX.out
          rw [e3] at d5 HN
          have K4 : Hid (Keep B w w4) := Lib.hid ((K2.out.drewN _).trans k4)
          have hbW4 : b < w4.heap.size := by obtain ⟨_, _, hm, _⟩ := t4; exact lt_of_block hm.box
          clear k4 t4 e3 c3 c5 f5 ci HCL
          go_wp2_with fail
          go_roundg f
          case measure => omega
          case rel => exact ⟨nextT T3, HGO.out, HST.out.goodN rfl, by show n + 1 ≤ (T3.nx + 1) + f; have h1 := HST.out.nx; have h2 := HNX.out; have h3 := HF.out; show n + 1 ≤ (T3.nx + 1) + f; have h1 : T3.nx = T2.nx := h1; omega, HN.out.1, K4.out.trans HN.out.2⟩
        · have hd : (s != -1) = true := by simpa using hs
          have HGO : Hid (((s, false), T3) = R) := Lib.hid (by rw [if_neg hs] at hgo; exact hgo)
          clear hgo hs
          go_wp2_with fail
          go_quiet (fail)
          go_wp2_with fail
          go_quiet (fail)
          go_wp2_with fail
          refine (HCL.out _ (Below.drewN (Below.refl _ _) _)).mono ?_
          rintro e w4 ⟨rfl, k4, t4⟩
          have K4 : Hid (Keep B w w4) := Lib.hid ((K2.out.drewN _).trans k4)
          have T4 := Lib.hid t4
          clear k4 t4 c3 c5 f5 ci HCL
          go_wp2_with fail
          go_ret2
          exact ⟨by rw [← HGO.out]; rfl, by rw [← HGO.out]; exact ⟨K4.out, T4.out⟩⟩
      · have hd : decide ((nx : Int) < (ll : Int)) = false := by simp; omega
        have HGO : Hid ((((-1 : Int), true), T2) = R) := Lib.hid (by
          cases gk with
          | zero => exact hgo
          | succ f => unfold followGo at hgo; rw [if_neg (by omega)] at hgo; exact hgo)
        have hge : ll ≤ nx := by omega
        clear hgo hli g2 t2 k2 hll hnx hf hlt
        go_wp2_with fail
        go_quiet (fail)
        go_wp2_with fail
        go_ret2
        exact ⟨by rw [← HGO.out]; rfl, by rw [← HGO.out]; exact ⟨K2.out.drewN _, HT2.out.below (Below.drewN (Below.refl _ _) _) (Nat.le_refl _)⟩⟩
  · have hd : (s != -1) = true := by simpa using hs
    have HGO : Hid (((s, false), T1) = R) := Lib.hid (by have := HG.out; rw [if_neg hs] at this; exact this)
    clear HG hs
    go_enter Try.func28, Try.ntmps28
    go_wp2_with fail
    go_at_call 46
    refine HS.out.mono ?_
    rintro e w1 hp
    obtain ⟨rfl, k1, t1⟩ := hp
    have K1 := Lib.hid k1
    have HT1 := Lib.hid t1
    clear k1 t1
    go_wp2_with fail
    go_ret2
    exact ⟨by rw [← HGO.out]; rfl, by rw [← HGO.out]; exact ⟨K1.out, HT1.out⟩⟩
end Go.Proofs.Ytngegkgmenfelaa
