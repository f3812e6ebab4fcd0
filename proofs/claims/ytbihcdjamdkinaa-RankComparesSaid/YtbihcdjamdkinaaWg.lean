/-
  take.
-/
import Derived.Test.YtbihcdjamdkinaaWf
import Derived.BigRegion
namespace Go.Proofs.Ytbihcdjamdkinaa
open Go.RowKit Go.Lib

theorem OwnI.cut {w : World} {B g n c k : Nat} {es : List Int} (h : OwnI w B (.slice (some ⟨g, 0, none⟩) n c) es) (hk : k ≤ es.length) : OwnI w B (.slice (some ⟨g, 0, none⟩) k c) (es.take k) := by
  obtain ⟨h1, h2⟩ := h
  have e : (es.take k).length = k := by simp; omega
  rcases h2 with ⟨hv, _⟩ | ⟨g', cap, cur, hv, hB, hg, hle, hcap, hsz, htk⟩
  · cases hv
  · injection hv with e1 e2 e3
    injection e1 with e1
    injection e1 with e1 _ _
    subst e1 e2 e3
    refine ⟨?_, .inr ⟨g, c, cur, by rw [e], hB, hg, by rw [e]; omega, hcap, hsz, ?_⟩⟩
    · simp
    · rw [e]
      have := congrArg (List.take k) htk
      rw [List.take_take] at this
      simp at this ⊢
      rw [← this]
      congr 1
      omega

theorem QAt.cut {w : World} {B : Nat → Prop} {b g n c k : Nat} {pv av : Value} {L P A : List Int} {sc : Int} (h : QAt w B b (.slice (some ⟨g, 0, none⟩) n c) pv av L P A sc) (hk : k ≤ L.length) :
    QAt (w.setCell ⟨b, 0, none⟩ (.slice (some ⟨g, 0, none⟩) k c)) B b (.slice (some ⟨g, 0, none⟩) k c) pv av (L.take k) P A sc :=
  { box := heap_set_box h.box
    l := (h.l.cut hk).setCell (a := ⟨b, 0, none⟩) h.bl _
    p := h.p.setCell (a := ⟨b, 0, none⟩) h.bp _
    a := h.a.setCell (a := ⟨b, 0, none⟩) h.ba _
    lp := h.lp
    la := h.la
    pa := h.pa
    bl := h.bl
    bp := h.bp
    ba := h.ba
    base := h.base
    nl := h.nl
    np := h.np
    na := h.na
    lt := fun k hk => by have := h.lt k hk; simpa [World.setCell] using this }

/-- What is left behind a take, ahead of down. -/
def cutL (L : List Int) : List Int := (swL L 0 (L.length - 1)).take (L.length - 1)
def cutP (L P : List Int) : List Int := (swP L P 0 (L.length - 1)).set (at_ L 0) (-1)

theorem Inv.cut {n : Nat} {L P A : List Int} (h : Inv n L P A) (hl : 0 < L.length) : Inv n (cutL L) (cutP L P) A := by
  have hs := h.swap (i := 0) (k := L.length - 1) hl (by omega)
  obtain ⟨e0, a1, a2, a3⟩ := h.var hl
  obtain ⟨ek, _, _, k3⟩ := h.var (i := L.length - 1) (by omega)
  refine ⟨by unfold cutP; rw [List.length_set]; exact hs.lenP, hs.lenA, fun j hj => ?_⟩
  unfold cutL at hj ⊢
  have hj' : j < L.length - 1 := by simp [swL] at hj; omega
  obtain ⟨v, e, v1, v2, v3⟩ := hs.at_ j (by rw [swL_len]; omega)
  refine ⟨v, ?_, v1, v2, ?_⟩
  · rw [List.getD_eq_getElem?_getD, List.getElem?_take_of_lt hj', ← List.getD_eq_getElem?_getD]; exact e
  · unfold cutP
    have hne : Ytbihcdjamdkinaa.at_ L 0 ≠ v := by
      intro e'
      subst e'
      have h3 : (swP L P 0 (L.length - 1)).getD (Ytbihcdjamdkinaa.at_ L 0) 0 = (L.length - 1 : Nat) := by
        unfold swP
        exact getD_set_eq (by rw [List.length_set, h.lenP]; omega)
      rw [h3] at v3
      omega
    rw [getD_set_ne hne]
    exact v3

set_option maxRecDepth 100000 in
set_option maxHeartbeats 1000000 in
theorem take_any {w : World} {B : Nat → Prop} {b : Nat} {lv pv av : Value} {n : Nat} {L P A : List Int} {sc : Int} (h : QAt w B b lv pv av L P A sc) (hI : Inv n L P A) (hl : 0 < L.length) (hs : L.length ≤ 900000) (f : Nat) (hf : L.length ≤ f) :
    Calls Try.prog 41 #[.pointer (some ⟨b, 0, none⟩)] w fun e w' => e = .returned (.int .i64 (at_ L 0)) ∧ Keep B w w' ∧
      ∃ lv', QAt w' B b lv' pv av (downF A f 0 (cutL L) (cutP L P)).1 (downF A f 0 (cutL L) (cutP L P)).2 A sc := by
  obtain ⟨g, cl, rfl, _, _, _, _, hcl, _⟩ := h.l.at hl
  obtain ⟨gp, cp, rfl, _, _, _, _, _, _⟩ := h.p.at (by rw [hI.lenP]; omega)
  have hBp : ¬ B gp := h.np gp rfl
  have b0 := h.c0
  have l0 := hcl 0 hl
  rw [(hI.var hl).1] at l0
  have H := Lib.hid h
  have HI := Lib.hid hI
  have HS := Lib.hid (swap_inv (i := 0) (k := L.length - 1) (h.drewN 0) hI hl (by omega))
  have HC := Lib.hid (hI.cut hl)
  have hva : at_ L 0 < P.length := by rw [hI.lenP]; have := (hI.var hl).2.2.1; omega
  have HVA := Lib.hid hva
  clear h hI hcl hva HS
  obtain ⟨lp, hlp⟩ : ∃ lp, L.length = lp + 1 := ⟨L.length - 1, by omega⟩
  have HL := Lib.hid hlp
  rw [hlp] at b0 hs hl hf
  have SW := Lib.hid (fun w' (hq : QAt w' B b (.slice (some ⟨g, 0, none⟩) (lp + 1) cl) (.slice (some ⟨gp, 0, none⟩) P.length cp) av L P A sc) => swap_inv (i := 0) (k := lp) hq HI.out (by rw [hlp]; omega) (by rw [hlp]; omega))
  rw [hlp] at H
  clear hlp
  go_enter Try.func41, Try.ntmps41
  go_wp2
  go_quiet (fail)
  go_wp2_with (go_at_call 50; with_reducible refine Calls.mono (SW.out _ (H.out.drewN _)) ?_; rintro e w1 ⟨rfl, b1, q1⟩; have B1 := Lib.hid (((Keep.refl B w).drewN _).trans b1); have Q1 := Lib.hid q1; clear b1 q1)
  have c0 := Q1.out.c0
  have c1 := Q1.out.c1
  have f0 := Q1.out.fr 0
  have hk : lp ≤ (swL L 0 lp).length := by rw [swL_len, HL.out]; omega
  have Q2 := Lib.hid (Q1.out.cut (k := lp) hk)
  have d1 := Q2.out.c1
  have hq : at_ L 0 < (swP L P 0 lp).length := by rw [swP_len]; exact HVA.out
  obtain ⟨gp', cp', e, _, _, _, _, hcp, hfp⟩ := Q2.out.p.at (by omega)
  injection e with e1 _ _
  injection e1 with e1
  injection e1 with e1 _ _
  subst e1
  have m1 := hcp _ hq
  have f1 := hfp (at_ L 0)
  obtain ⟨gp'', cp'', e', _, _, _, _, hcp', hfp'⟩ := Q1.out.p.at (by omega)
  injection e' with e1 _ _
  injection e1 with e1
  injection e1 with e1 _ _
  subst e1
  have m2 := hcp' _ hq
  have f2 := hfp' (at_ L 0)
  have n3 : ¬ gp = b := fun e => Q1.out.bp (by rw [e]; rfl)
  have n4 : ¬ b = gp := fun e => n3 e.symm
  have hva := HVA.out
  obtain ⟨va, hvae⟩ : ∃ va, at_ L 0 = va := ⟨_, rfl⟩
  have HVE := Lib.hid hvae
  rw [hvae] at m1 m2 f1 f2 hva ⊢
  obtain ⟨pl, hpl⟩ : ∃ pl, P.length = pl := ⟨_, rfl⟩
  have HPL := Lib.hid hpl
  rw [hpl] at c1 d1 hva
  clear hcp hfp hcp' hfp' hk hq hvae hpl l0 b0
  have Q3 := Lib.hid ((Q2.out.storeP va (-1)).drew)
  have B3 : Hid (Keep B w (((w1.setCell ⟨b, 0, none⟩ (.slice (some ⟨g, 0, none⟩) lp cl)).setCell ⟨gp, va, none⟩ (.int .i64 (-1))).drew)) := Lib.hid (((B1.out.setCell Q1.out.base _).setCell hBp _).drew)
  have hcap : lp ≤ cl := by have := Q1.out.l.cap.2.1; omega
  have DN := Lib.hid (fun w' (hq : QAt w' B b (.slice (some ⟨g, 0, none⟩) lp cl) (.slice (some ⟨gp, 0, none⟩) P.length cp) av (cutL L) (cutP L P) A sc) => down_any hq HC.out 0 (by omega) (by
    have e : (cutL L).length = lp := by unfold cutL; simp [swL, HL.out]
    omega) f (by
    have e : (cutL L).length = lp := by unfold cutL; simp [swL, HL.out]
    omega) (by omega))
  have HE : Hid ((swL L 0 lp).take lp = cutL L ∧ (swP L P 0 lp).set va (-1) = cutP L P) := by
    unfold cutL cutP
    rw [HL.out, HVE.out]
    exact ⟨rfl, rfl⟩
  go_region
  all_goals
    go_wp2_with fail
    have q3 := Q3.out
    have hpl := HPL.out
    subst hpl
    rw [HE.out.1, HE.out.2] at q3
    refine (DN.out _ q3).mono ?_
    rintro e w4 ⟨rfl, b4, q4⟩
    have B4 := Lib.hid (B3.out.trans b4)
    have Q4 := Lib.hid q4
    clear b4 q4 q3
    go_wp2_with fail
    go_ret
    exact ⟨by rw [HVE.out]; rfl, B4.out, _, Q4.out⟩
end Go.Proofs.Ytbihcdjamdkinaa
