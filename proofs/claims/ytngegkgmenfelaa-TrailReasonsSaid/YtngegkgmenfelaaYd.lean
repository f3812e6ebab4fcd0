/-
  The statements' helper does: an act, of both.
-/
import Derived.Test.YtngegkgmenfelaaYc
namespace Go.Proofs.Ytngegkgmenfelaa
open Go.RowKit Go.Lib
attribute [local go_sem ↓] Go.wp_at_zero Go.wp_at_succ

variable {W w w' : World} {M S : Nat → Prop} {b p n : Nat} {T T' : Tr} {R R' : Ref}

def DoesPost (W : World) (S : Nat → Prop) (b p n : Nat) (R : Ref) (e : Ending) (w' : World) : Prop :=
  ∃ (on : Bool) (T' : Tr) (R' : Ref) (M' S' : Nat → Prop), e = .returned (.tuple #[.bool true, .bool on]) ∧ Both W w' M' S' b p T' R' ∧ Good n T' ∧ (on = true → RelA n T' R') ∧ R'.L.length ≤ R.L.length + 1 ∧ ∀ k, S k → S' k

/-- The box of an act. -/
def actObj (op x : Int) (s : Value) : Obj := .cells #[.int .i64 op, .int .i64 x, s] 44
theorem act_box {S1 : Nat → Prop} (w : World) (op x : Int) (s : Value) (hq : S1 w.heap.size) {w2 : World} (hk : Keep S1 (w.alloc (actObj op x s)) w2) :
    w2.cell? ⟨w.heap.size, 0, none⟩ = some (.int .i64 op) ∧ w2.cell? ⟨w.heap.size, 1, none⟩ = some (.int .i64 x) ∧ w2.cell? ⟨w.heap.size, 2, none⟩ = some s := by
  have h1 := (hk.block _ hq).trans (heap_alloc_new w (actObj op x s))
  exact ⟨cell_of_row w2 _ 0 _ 44 (0, 0) h1, cell_of_row w2 _ 1 _ 44 (0, 0) h1, cell_of_row w2 _ 2 _ 44 (0, 0) h1⟩

theorem RefAt.nClauses (h : RefAt w M S p R) : ∃ a c, w.cell? ⟨p, 1, none⟩ = some (.slice a R.L.length c) := by
  obtain ⟨a, c, h1, _⟩ := h.clauses
  exact ⟨a, c, h1⟩

set_option maxRecDepth 1000000 in
set_option maxHeartbeats 16000000 in
theorem does_any (h : Both W w M S b p T R) (hg : Good n T) (hr : RelA n T R) (hL : R.L.length ≤ 1000) (a : ActV) {s : Value} (hs : Stays S w fun w2 => Reads w2 s a.c) (ha : a.ok) (hal : a.c.length ≤ 1000) :
    Calls Try.prog 19 #[.pointer (some ⟨b, 0, none⟩), .pointer (some ⟨p, 0, none⟩), .agg #[.int .i64 a.op, .int .i64 a.n, s]] w (DoesPost W S b p n R) := by
  obtain ⟨ha1, ha2, ha3⟩ := ha
  obtain ⟨op, x, c⟩ := a
  have ha1 : In64 op := ha1
  have ha2 : In64 x := ha2
  have ha3 : ∀ y ∈ c, In64 y := ha3
  have hs : Stays S w fun w2 => Reads w2 s c := hs
  have hal : c.length ≤ 1000 := hal
  show Calls Try.prog 19 #[.pointer (some ⟨b, 0, none⟩), .pointer (some ⟨p, 0, none⟩), .agg #[.int .i64 op, .int .i64 x, s]] w _
  obtain ⟨sa, sc, rfl⟩ := hs.now.form
  obtain ⟨sl, hsl⟩ : ∃ sl, c.length = sl := ⟨_, rfl⟩
  rw [hsl] at hs ⊢
  have H1 := Lib.hid (h.moreS (actObj op x (.slice sa sl sc)))
  have BOX := Lib.hid (fun w2 hk => act_box (S1 := fun k => S k ∨ k = w.heap.size) w op x (.slice sa sl sc) (.inr rfl) (w2 := w2) hk)
  have HST : Hid (Stays (fun k => S k ∨ k = w.heap.size) (w.alloc (actObj op x (.slice sa sl sc))) fun w2 => Reads w2 (.slice sa sl sc) c) := Lib.hid fun w2 hk => by
    have hb : Below w.heap.size w (w.alloc (actObj op x (.slice sa sl sc))) := (Below.refl _ _).alloc (Nat.le_refl _) _
    have ht : There S w := by obtain ⟨_, _, _, hm, _⟩ := h.r; exact hm.tS
    exact hs w2 (((Keep.refl S w).below hb ht).trans (hk.mono fun k hk => .inl hk))
  unfold actObj at H1 BOX HST
  have PK := Lib.hid (fun w => pick_any op 8 w ha1 (by omega) (by omega))
  have hk8 := pickI_lt (c := op) (n := 8) (by omega)
  obtain ⟨cb0, cb1, cb2⟩ := BOX.out _ (Keep.refl _ _)
  have G := Lib.hid hg
  have RA := Lib.hid hr
  have HL := Lib.hid hL
  have A2 := Lib.hid ha2
  have A3 := Lib.hid ha3
  have HAL : Hid (c.length ≤ 1000) := Lib.hid hal
  have GR := Lib.hid (hr.toRelD.goodR hg)
  clear h hg hr hL hs ha1 ha2 ha3 hal hsl
  generalize pickI op 8 = k at *
  go_enter Try.func19, Try.ntmps19
  go_wp2_with fail
  go_at_call 38
  refine (PK.out _).mono ?_
  rintro e w9 ⟨rfl, hw⟩
  obtain rfl := hw.symm
  clear hw PK
  generalize hq : w.heap.size = q at *
  generalize hW1 : w.alloc (Obj.cells #[Value.int IntKind.i64 op, Value.int IntKind.i64 x, Value.slice sa sl sc] 44) = w1 at *
  generalize hS1 : (fun k => S k ∨ k = q) = S1 at *
  have SS : Hid (∀ k, S k → S1 k) := Lib.hid (by rw [← hS1]; exact fun k hk => .inl hk)
  clear hS1 hW1 hq
  have hcase : (k = 0 ∨ k = 1 ∨ k = 2) ∨ (k = 3 ∨ k = 4 ∨ k = 5) ∨ k = 6 ∨ k = 7 := by omega
  rcases hcase with hk | hk | rfl | rfl
  · skip
    have FIN : Hid (∀ w2 w3, MPost W w2 S1 b p (decS T x) (decMS R x) w3 → DoesPost W S b p n R (.returned (.tuple #[.bool true, .bool true])) w3) := Lib.hid fun w2 w3 hM => by
      obtain ⟨M', S', h3, hS, _⟩ := hM
      exact ⟨true, _, _, M', S', rfl, h3, G.out.decS x, fun _ => (RA.out.decide' G.out x).2, by rw [decMS_L]; omega, fun k hk => hS k (SS.out k hk)⟩
    have HT : Hid (Calls Try.prog 27 #[.pointer (some ⟨b, 0, none⟩), .int .i64 x] w1.drew fun e w2 => ∃ o1 : Int, e = .returned (.int .i64 o1) ∧ w2.cell? ⟨q, 1, none⟩ = some (.int .i64 x) ∧
        Hid (Calls Try.prog 42 #[.pointer (some ⟨p, 0, none⟩), .int .i64 x] w2 fun e w3 => e = .returned (.int .i64 o1) ∧ w3.cell? ⟨q, 1, none⟩ = some (.int .i64 x) ∧ Hid (DoesPost W S b p n R (.returned (.tuple #[.bool true, .bool true])) w3))) := Lib.hid (by
      have hB := H1.out.below (Below.refl w1.heap.size w1).drew
      have hD : Keep S1 w1 w1.drew := (Keep.refl S1 w1).drew
      obtain ⟨eD, _⟩ := RA.out.decide' G.out x
      refine (Decide_all hB G.out x A2.out).mono ?_
      rintro e w2 ⟨rfl, k2, h2⟩
      have k12 := hD.trans k2
      refine ⟨_, rfl, (BOX.out w2 k12).2.1, Lib.hid ?_⟩
      have hdl : R.D.length ≤ 900000 := by rw [RA.out.Dl]; have h1 := G.out.startsLen; have h2 := G.out.litsLen; have h3 := G.out.ok.n2; omega
      refine (DecideM_all h2 GR.out hdl x A2.out).mono ?_
      rintro e w3 ⟨rfl, hM⟩
      refine ⟨by rw [eD], ?_, Lib.hid (FIN.out _ _ hM)⟩
      obtain ⟨_, _, _, _, k3⟩ := hM
      exact (BOX.out w3 (k12.trans k3)).2.1)
    have cd1 : w1.drew.cell? ⟨q, 1, none⟩ = some (.int .i64 x) := cb1
    clear BOX HST H1 RA GR
    rcases hk with rfl | rfl | rfl <;>
    · go_wp2_with fail
      refine does_decide _ _ _ _ _ _ _ _ _ _ _ _ _ _ _ _ _ _ _ _ _ _ _ _ _ _ _ _ _ _ _ _ _ _ _ _ _ _ _ _ _ _ _ _ _ _ _ _ _ _ _ _ _ _ _ _ _ _ _ _ _ _ _ _ _ _ _ _ _ _ _ _ _ _ _ _ _ _ _ _ _ _ _ _ _ _ _ _ _ _ _ _ _ _ _ _ _ _ _ _ _ _ _ _ _ _ _ _ _ cd1 HT ?_
      intro v102 v103 v104 v105 v106 v107 v108 v109 v110 w3 hM
      have HM := Lib.hid hM
      clear hM HT FIN cb0 cb1 cb2 cd1
      go_wp2_with fail
      go_ret2
      exact HM.out
  · have RF := Lib.hid (RA.out.follow G.out)
    have HSP := Lib.hid (G.out.followSpec RA.out.L)
    have HT := Lib.hid (Follow_all H1.out G.out)
    have HN := Lib.hid RA.out.en
    obtain ⟨ll, hll⟩ : ∃ ll, R.L.length = ll := ⟨_, rfl⟩
    have HLL := Lib.hid hll
    clear hll
    generalize followT T = F at *
    obtain ⟨⟨fk, on⟩, T2⟩ := F
    cases on with
    | true =>
      obtain ⟨q1, q2, -⟩ := RF.out
      have r1 : ¬ Bad n R.L (givenTo R.A R.A.length) := q1.1 rfl
      have r2 : ∀ A', Told n R.L (givenTo R.A R.A.length) A' → RelA n T2 (knownM R A') := q2 rfl
      clear q1 q2
      have hfk : fk = -1 := (HSP.out.yes rfl).1
      have g2 : Good n T2 := HSP.out.good
      subst hfk
      have HR1 := Lib.hid r1
      have HR2 := Lib.hid r2
      have HG2 := Lib.hid g2
      clear r1 r2 g2 RF HSP BOX HST RA
      rcases hk with rfl | rfl | rfl <;>
      · go_wp2_with fail
        go_at_call 28
        refine HT.out.mono ?_
        rintro e w2 ⟨rfl, k2, h2⟩
        have H2 := Lib.hid h2
        have HM := Lib.hid (FollowM_all h2 GR.out)
        clear k2 h2 HT cb0 cb1 cb2
        go_wp2_with fail
        go_at_call 39
        refine HM.out.mono ?_
        rintro e w3 hcase
        rcases hcase with ⟨rfl, hbad, _⟩ | ⟨A', rfl, htold, M', S', h3, hS, _⟩
        · exact absurd (HN.out ▸ hbad) HR1.out
        · have FIN : Hid (DoesPost W S b p n R (.returned (.tuple #[.bool true, .bool true])) w3) := Lib.hid
            ⟨true, T2, _, M', S', rfl, h3, HG2.out, fun _ => HR2.out A' (HN.out ▸ htold), Nat.le_succ _, fun k hk => hS k (SS.out k hk)⟩
          clear htold h3 hS HM H2
          go_wp2_with fail
          go_ret2
          exact FIN.out
    | false =>
      obtain ⟨q1, -, q3⟩ := RF.out
      have r1 : Bad n R.L (givenTo R.A R.A.length) := Classical.byContradiction fun h => by have := q1.2 h; cases this
      have r3 : RelD n T2 R := q3
      clear q1 q3
      have g2 : Good n T2 := HSP.out.good
      obtain ⟨m, hm, hml, hz⟩ := HSP.out.no rfl
      have hm : fk = (m : Nat) := hm
      have hml : m < T2.L.length := hml
      have hz : ∀ z ∈ cl T2 m, valOf T2 z = -1 := hz
      subst hm
      have hmll : m < ll := by rw [← HLL.out, ← r3.L.1]; exact hml
      have HR1 := Lib.hid r1
      have HR3 := Lib.hid r3
      have HG2 := Lib.hid g2
      have HML := Lib.hid hml
      have HZ := Lib.hid hz
      have hm0 : decide ((m : Int) < 0) = false := decide_eq_false (by omega)
      have hm1 : decide ((ll : Int) ≤ (m : Int)) = false := decide_eq_false (by omega)
      have hm1n : decide (ll ≤ m) = false := decide_eq_false (by omega)
      have PK := Lib.hid (fun (w : World) (l : Nat) (h0 : 0 < l) (h1 : l ≤ 1000000) => pick_any x l w A2.out h0 h1)
      have HLV : Hid (T2.starts.length ≤ 20000) := Lib.hid (by have h1 := g2.startsLen; have h2 := g2.litsLen; have h3 := g2.ok.n2; omega)
      have CBX : Hid (∀ w2, Keep S1 w1 w2 → w2.cell? ⟨q, 1, none⟩ = some (.int .i64 x)) := Lib.hid fun w2 hk => (BOX.out w2 hk).2.1
      clear r1 r3 g2 RF HSP HST RA BOX hml hz hmll
      rcases hk with rfl | rfl | rfl <;>
      · go_wp2_with fail
        go_at_call 28
        refine HT.out.mono ?_
        rintro e w2 ⟨rfl, k2, h2⟩
        have HM := Lib.hid (FollowM_all h2 GR.out)
        have K2 := Lib.hid k2
        clear k2 h2 HT cb0 cb1 cb2
        go_wp2_with fail
        go_at_call 39
        refine HM.out.mono ?_
        rintro e w3 hcase
        rcases hcase with ⟨rfl, _, M', S', h3, hS, k3⟩ | ⟨A', rfl, htold, _⟩
        · obtain ⟨la, lc, cL⟩ := h3.r.nClauses
          rw [HLL.out] at cL
          have hpw := h3.r.sizeP
          have H3 := Lib.hid h3
          have HS3 := Lib.hid hS
          have K3 := Lib.hid (K2.out.trans k3)
          have HFA := Lib.hid (fails_any h3.t HG2.out m HML.out HZ.out)
          clear h3 hS k3 HM K2
          go_wp2_with fail
          go_at_call 29
          refine HFA.out.mono ?_
          rintro e w4 ⟨rfl, b4⟩
          have H4 := Lib.hid (H3.out.below b4)
          have hth : There S1 w3 := fun k hk => H3.out.r.there k (.inr (HS3.out k hk))
          have K4 := Lib.hid (K3.out.below b4 hth)
          have HLVL := Lib.hid (Level_any H4.out.t)
          have cq := CBX.out w4 K4.out
          clear b4 hth HFA H3 K3 cL hpw
          generalize hlv : T2.starts.length = lv at HLVL
          have ELV := Lib.hid hlv
          clear hlv
          go_wp2_with fail
          go_at_call 12
          refine HLVL.out.mono ?_
          rintro e w9 ⟨rfl, hw⟩
          obtain rfl := hw.symm
          clear hw
          by_cases h0 : lv = 0
          · subst h0
            have FIN : Hid (DoesPost W S b p n R (.returned (.tuple #[.bool true, .bool false])) w4) := Lib.hid
              ⟨false, T2, R, M', S', rfl, H4.out, HG2.out, (fun h => by cases h), Nat.le_succ _, fun k hk => HS3.out k (SS.out k hk)⟩
            clear cq HLVL
            go_wp2_with fail
            go_ret2
            exact FIN.out
          · have hlz : ((lv : Int) == 0) = false := by simp; omega
            have hlp : 0 < lv := by omega
            have HPI := Lib.hid (fun w => PK.out w lv hlp (by have := HLV.out; have := ELV.out; omega))
            have hpl := pickI_lt (c := x) hlp
            have LQ : Hid (∀ k, Calls Try.prog 12 #[.pointer (some ⟨b, 0, none⟩)] (w4.drewN k) fun e w' => e = .returned (.int .i64 (lv : Nat)) ∧ w' = w4.drewN k) := Lib.hid fun k => by
              rw [← ELV.out]; exact Level_any (H4.out.below (Below.drewN (Below.refl w4.heap.size w4) k)).t
            have NEXT : Hid (∀ k, Calls Try.prog 14 #[.pointer (some ⟨b, 0, none⟩), .int .i64 (pickI x lv : Nat)] (w4.drewN k) fun e w5 => ∃ o1 : Int, e = .returned (.int .i64 o1) ∧ Hid (Calls Try.prog 40 #[.pointer (some ⟨p, 0, none⟩), .int .i64 (pickI x lv : Nat)] w5 fun e w6 => e = .returned (.int .i64 o1) ∧ Hid (DoesPost W S b p n R (.returned (.tuple #[.bool true, .bool true])) w6))) := Lib.hid fun k => by
              obtain ⟨rB, eB⟩ := HR3.out.backZ HG2.out (pickI x lv) (by rw [ELV.out]; exact hpl)
              refine (Back_all (H4.out.below (Below.drewN (Below.refl w4.heap.size w4) k)) HG2.out (pickI x lv : Nat)).mono ?_
              rintro e w5 ⟨rfl, k5, h5⟩
              refine ⟨_, rfl, Lib.hid ?_⟩
              refine (BackM_all h5 GR.out (pickI x lv : Nat)).mono ?_
              rintro e w6 ⟨rfl, M6, S6, h6, hS6, _⟩
              exact ⟨by rw [eB], Lib.hid ⟨true, _, _, M6, S6, rfl, h6, HG2.out.backZ _, fun _ => rB, by rw [backMZ_L]; omega, fun k hk => hS6 k (HS3.out k (SS.out k hk))⟩⟩
            generalize pickI x lv = v at *
            clear h0 H4 HLVL H1 HR3
            go_wp2_with fail
            go_quiet ((first | (go_at_call 12; exact Calls.quiet_of_same (LQ.out _)) | (go_at_call 38; exact Calls.quiet_of_same (HPI.out _))))
            go_wp2_with fail
            go_at_call 14
            refine (NEXT.out _).mono ?_
            rintro e w5 ⟨o1, rfl, H5⟩
            clear NEXT LQ HPI cq
            go_wp2_with fail
            go_at_call 40
            refine H5.out.mono ?_
            rintro e w6 ⟨rfl, HF⟩
            clear H5
            go_wp2_with fail
            go_ret2
            exact HF.out
        · exact absurd HR1.out (HN.out ▸ htold).notBad
  · have NEXT : Hid (∀ lv : Int, Calls Try.prog 14 #[.pointer (some ⟨b, 0, none⟩), .int .i64 lv] w1 fun e w2 => ∃ o1 : Int, e = .returned (.int .i64 o1) ∧ Hid (Calls Try.prog 40 #[.pointer (some ⟨p, 0, none⟩), .int .i64 lv] w2 fun e w3 => e = .returned (.int .i64 o1) ∧ Hid (DoesPost W S b p n R (.returned (.tuple #[.bool true, .bool true])) w3))) := Lib.hid fun lv => by
      obtain ⟨rB, eB⟩ := RA.out.backZ G.out lv
      refine (Back_all H1.out G.out lv).mono ?_
      rintro e w2 ⟨rfl, k2, h2⟩
      refine ⟨_, rfl, Lib.hid ?_⟩
      refine (BackM_all h2 GR.out lv).mono ?_
      rintro e w3 ⟨rfl, M', S', h3, hS, _⟩
      exact ⟨by rw [eB], Lib.hid ⟨true, _, _, M', S', rfl, h3, G.out.backZ lv, fun _ => rB, by rw [backMZ_L]; omega, fun k hk => hS k (SS.out k hk)⟩⟩
    clear BOX HST H1 RA GR
    by_cases hx : 0 < x
    · have hd : decide (0 < x) = true := decide_eq_true hx
      clear hx
      go_wp2_with fail
      go_at_call 14
      refine (NEXT.out _).mono ?_
      rintro e w2 ⟨o1, rfl, H2⟩
      clear NEXT cb0 cb1 cb2
      go_wp2_with fail
      go_at_call 40
      refine H2.out.mono ?_
      rintro e w3 ⟨rfl, HF⟩
      clear H2
      go_wp2_with fail
      go_ret2
      exact HF.out
    · have hd : decide (0 < x) = false := decide_eq_false hx
      clear hx
      go_wp2_with fail
      go_at_call 14
      refine (NEXT.out _).mono ?_
      rintro e w2 ⟨o1, rfl, H2⟩
      clear NEXT cb0 cb1 cb2
      go_wp2_with fail
      go_at_call 40
      refine H2.out.mono ?_
      rintro e w3 ⟨rfl, HF⟩
      clear H2
      go_wp2_with fail
      go_ret2
      exact HF.out
  · skip
    have FIN : Hid (∀ w2 w3, MPost W w2 S1 b p (addS T c (rightB n [c])) (addMS R c (rightB R.n [c])) w3 → DoesPost W S b p n R (.returned (.tuple #[.bool true, .bool true])) w3) := Lib.hid fun w2 w3 hM => by
      obtain ⟨M', S', h3, hS, _⟩ := hM
      obtain ⟨g4, r4⟩ := RA.out.add' G.out (c := c) (by have := HL.out; omega)
      exact ⟨true, _, _, M', S', rfl, h3, g4, fun _ => r4, addMS_L _ _ _, fun k hk => hS k (SS.out k hk)⟩
    have HT : Hid (Calls Try.prog 33 #[.pointer (some ⟨b, 0, none⟩), .slice sa sl sc] w1.drew fun e w2 => ∃ o1 : Int, e = .returned (.int .i64 o1) ∧ w2.cell? ⟨q, 2, none⟩ = some (.slice sa sl sc) ∧
        Hid (Calls Try.prog 41 #[.pointer (some ⟨p, 0, none⟩), .slice sa sl sc] w2 fun e w3 => e = .returned (.int .i64 o1) ∧ w3.cell? ⟨q, 2, none⟩ = some (.slice sa sl sc) ∧ Hid (DoesPost W S b p n R (.returned (.tuple #[.bool true, .bool true])) w3))) := Lib.hid (by
      have hB := H1.out.below (Below.refl w1.heap.size w1).drew
      have hD : Keep S1 w1 w1.drew := (Keep.refl S1 w1).drew
      refine (Add_all hB G.out (HST.out _ hD) A3.out).mono ?_
      rintro e w2 ⟨rfl, k2, h2⟩
      have k12 := hD.trans k2
      refine ⟨_, rfl, (BOX.out w2 k12).2.2, Lib.hid ?_⟩
      refine (AddM_all h2 (HST.out.step k12) A3.out (by have := HAL.out; omega) (by have := HL.out; omega)).mono ?_
      rintro e w3 ⟨rfl, hM⟩
      refine ⟨by rw [RA.out.en], ?_, Lib.hid (FIN.out _ _ hM)⟩
      obtain ⟨_, _, _, _, k3⟩ := hM
      exact (BOX.out w3 (k12.trans k3)).2.2)
    have cd2 : w1.drew.cell? ⟨q, 2, none⟩ = some (.slice sa sl sc) := cb2
    clear BOX HST H1 RA GR
    go_wp2_with fail
    refine does_add _ _ _ _ _ _ _ _ _ _ _ _ _ _ _ _ _ _ _ _ _ _ _ _ _ _ _ _ _ _ _ _ _ _ _ _ _ _ _ _ _ _ _ _ _ _ _ _ _ _ _ _ _ _ _ _ _ _ _ _ _ _ _ _ _ _ _ _ _ _ _ _ _ _ _ _ _ _ _ _ _ _ _ _ _ _ _ _ _ _ _ _ _ _ _ _ _ _ _ _ _ _ _ _ _ _ _ _ _ cd2 HT ?_
    intro v93 v94 v95 v96 v97 v98 v99 v100 v101 w3 hM
    have HM := Lib.hid hM
    clear hM HT FIN cb0 cb1 cb2 cd2
    go_wp2_with fail
    go_ret2
    exact HM.out
end Go.Proofs.Ytngegkgmenfelaa
