/-
  put.
-/
import Derived.Test.YtbihcdjamdkinaaWe
import Derived.StillTailTactics

namespace Go.Proofs.Ytbihcdjamdkinaa
open Go.RowKit Go.Lib

theorem heap_set_box {w : World} {b : Nat} {x0 x1 x2 x3 u : Value} {t : TypeId} {f : Nat × Nat} (h : w.heap[b]? = some (.cells #[x0, x1, x2, x3] t f)) : (w.setCell ⟨b, 0, none⟩ u).heap[b]? = some (.cells #[u, x1, x2, x3] t f) := by
  simp [World.setCell, Array.getElem?_modify, h]

theorem QAt.boxg {w w2 : World} {B : Nat → Prop} {b : Nat} {lv lv' pv av : Value} {L P A : List Int} {sc : Int} {o : Obj} (h : QAt w B b lv pv av L P A sc) (hg : Grew (w.alloc o) w2 lv lv') : w2.heap[b]? = some (.cells #[lv, pv, av, .int .i64 sc] 65 (0, 0)) := by
  have hb : b < w.heap.size := lt_of_block h.box
  rw [hg.1.block b (by simp; omega) (fun e => h.bl e.symm), Below.heap_alloc _ _ _ hb]
  exact h.box

theorem QAt.grewL {w w2 : World} {B : Nat → Prop} {b : Nat} {lv lv' pv av : Value} {L L' P A : List Int} {sc : Int} {o : Obj} (h : QAt w B b lv pv av L P A sc) (ho : OwnI w2 0 lv' L') (hg : Grew (w.alloc o) w2 lv lv') :
    QAt (w2.setCell ⟨b, 0, none⟩ lv') B b lv' pv av L' P A sc := by
  have hb : b < w.heap.size := lt_of_block h.box
  have hbox : w2.heap[b]? = some (.cells #[lv, pv, av, .int .i64 sc] 65 (0, 0)) := by
    rw [hg.1.block b (by simp; omega) (fun e => h.bl e.symm), Below.heap_alloc _ _ _ hb]
    exact h.box
  have lb : lv'.ownBlock ≠ some b := by
    rcases hg.2 with e | e
    · rw [e]; exact h.bl
    · rw [e]; simp; omega
  have ap := (h.p.alloc o).grew hg h.lp.symm
  have aa := (h.a.alloc o).grew hg h.la.symm
  exact
    { box := heap_set_box hbox
      l := ho.setCell (a := ⟨b, 0, none⟩) lb _
      p := ap.setCell (a := ⟨b, 0, none⟩) h.bp _
      a := aa.setCell (a := ⟨b, 0, none⟩) h.ba _
      lp := h.lp.grew_left hg (h.p.alloc o)
      la := h.la.grew_left hg (h.a.alloc o)
      pa := h.pa
      bl := lb
      bp := h.bp
      ba := h.ba
      base := h.base
      nl := hg.not (fun k hk => by have := h.lt k hk; simp; omega) h.nl
      np := h.np
      na := h.na
      lt := fun k hk => by
        have h1 := h.lt k hk
        have h2 := hg.1.size
        simp [World.setCell] at h2 ⊢; omega }

set_option maxRecDepth 100000 in
set_option maxHeartbeats 1000000 in
theorem put_any {w : World} {B : Nat → Prop} {b : Nat} {lv pv av : Value} {n : Nat} {L P A : List Int} {sc : Int} (h : QAt w B b lv pv av L P A sc) (v : Nat) (hv : v < P.length) (hs : L.length ≤ 900000)
    (hI : Inv n (L ++ [(v : Int)]) (P.set v L.length) A) :
    Calls Try.prog 36 #[.pointer (some ⟨b, 0, none⟩), .int .i64 v] w fun e w' => e = .returned (.tuple #[]) ∧ Keep B w w' ∧
      ∃ lv', QAt w' B b lv' pv av (upF A (L.length + 1) L.length (L ++ [(v : Int)]) (P.set v L.length)).1 (upF A (L.length + 1) L.length (L ++ [(v : Int)]) (P.set v L.length)).2 A sc := by
  have HS2 : Hid (L.length + 1 ≤ 1000000) := Lib.hid (by omega)
  have HW : Hid (wrap64 (L.length : Int) = ((L.length : Nat) : Int)) := by
    clear h hI
    generalize L.length = q at *
    show wrap64 (q : Int) = q
    unfold wrap64
    omega
  obtain ⟨la, lc, rfl⟩ := h.l.form
  obtain ⟨gp, cp, rfl, _, _, _, _, hcp, hfp⟩ := h.p.at (by omega)
  have hBp : ¬ B gp := h.np gp rfl
  have b0 := h.c0
  have b1 := h.c1
  have p1 := hcp v hv
  have f1 := hfp v
  have H := Lib.hid h
  have HI := Lib.hid hI
  clear hcp hfp h hI
  obtain ⟨ll, hll⟩ : ∃ ll, L.length = ll := ⟨_, rfl⟩
  obtain ⟨pl, hpl⟩ : ∃ pl, P.length = pl := ⟨_, rfl⟩
  rw [hll] at b0 H HI hs ⊢
  rw [hpl] at b1 hv H
  have HLL := Lib.hid hll
  have HPL := Lib.hid hpl
  clear hll hpl
  go_enter Try.func36, Try.ntmps36
  go_wp2
  go_still_tail 11, (by kernel_rfl)
  change wpList _ _ _ _ _ w.drew
  have H' := Lib.hid H.out.drew
  have HB' : Hid (Keep B w w.drew) := Lib.hid ((Keep.refl _ _).drew)
  clear b0 b1 p1 f1 H
  generalize w.drew = W at *
  obtain ⟨gp', cp', e, _, _, _, _, hcp, hfp⟩ := H'.out.p.at (by rw [HPL.out]; omega)
  injection e with e1 _ _
  injection e1 with e1
  injection e1 with e1 _ _
  subst e1
  have p1 := hcp v (by rw [HPL.out]; exact hv)
  have f1 := hfp v
  clear hcp hfp
  have H1 := Lib.hid (H'.out.storeP v ll)
  have c0 := H1.out.c0
  have f0 := H1.out.fr 0
  have HB1 : Hid (Keep B w (W.setCell ⟨gp, v, none⟩ (.int .i64 ll))) := Lib.hid (HB'.out.setCell hBp _)
  have AH : Hid (((W.setCell ⟨gp, v, none⟩ (.int .i64 ll)).alloc (.cells #[.int .i64 v] 3)).heap[W.heap.size]? = some (.cells #[.int .i64 v] 3 (0, 0))) := by
    have h := heap_alloc_new (W.setCell ⟨gp, v, none⟩ (.int .i64 ll)) (.cells #[.int .i64 v] 3)
    have e : (W.setCell ⟨gp, v, none⟩ (.int .i64 ll)).heap.size = W.heap.size := by simp [World.setCell]
    rw [e] at h
    exact h
  have HB9 : Hid (There B ((W.setCell ⟨gp, v, none⟩ (.int .i64 ll)).alloc (.cells #[.int .i64 v] 3))) := Lib.hid fun k hk => by
    have := H1.out.lt k hk; simp [World.setCell] at this ⊢; omega
  go_wp2_with (at_builtin; refine wpList_app1 rfl (.tmp 19) (.tmp 21) rfl 0 (.slice la ll lc) L v rfl (H1.out.l.alloc _) W.heap.size 1 rfl AH.out (by have := HLL.out; omega) (Nat.zero_le _) ?_; intro v1 w2 O1 G1; obtain ⟨l1, k1, rfl⟩ := O1.form; have hb2 := H1.out.boxg G1; have c2 : w2.cell? ⟨b, 0, none⟩ = some (.slice la ll lc) := (by simp [World.cell?, hb2]); have f2 : w2.frozen? ⟨b, 0, none⟩ = false := (by simp [World.frozen?, hb2]); have HO1 := Lib.hid O1; have HG1 := Lib.hid G1; clear O1 G1 hb2)
  have HQ := H1.out.grewL HO1.out HG1.out
  have HBL : Keep B w (w2.setCell ⟨b, 0, none⟩ (.slice l1 (L ++ [(v : Int)]).length k1)) :=
    (Grew.keep (HB1.out.alloc H1.out.lt _) HG1.out HB9.out H1.out.nl).setCell H1.out.base _
  have hl : (L ++ [(v : Int)]).length = L.length + 1 := by simp
  rw [hl] at HQ HBL
  have hw := HW.out
  rw [hw]
  refine (up_any HQ HI.out L.length (by rw [hl]; exact Nat.lt_succ_self _) (by rw [hl]; exact HS2.out)).mono ?_
  rintro r w3 ⟨rfl, b3, q3⟩
  have HF := Lib.hid (HBL.trans b3)
  have Q3 := Lib.hid q3
  clear HQ HBL hl hw b3 q3
  go_wp2_with fail
  go_end0
  have hll := HLL.out
  subst hll
  have hpl := HPL.out
  subst hpl
  exact ⟨rfl, HF.out, _, Q3.out⟩
end Go.Proofs.Ytbihcdjamdkinaa
