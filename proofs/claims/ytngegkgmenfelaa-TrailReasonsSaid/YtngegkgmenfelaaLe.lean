/-
  The walk of TrailReasons.
-/
import Derived.Test.YtngegkgmenfelaaLd
import Derived.Test.YtngegkgmenfelaaYf
namespace Go.Proofs.Ytngegkgmenfelaa
open Go.RowKit Go.Lib
attribute [local go_sem ↓] Go.wp_at_zero Go.wp_at_succ

variable {W w w' : World} {M S : Nat → Prop} {b p n : Nat} {T T' : Tr} {R R' : Ref}

theorem RefAt.decRow (h : RefAt w M S p R) : ∃ a c, w.cell? ⟨p, 2, none⟩ = some (.slice a R.D.length c) ∧ Reads w (.slice a R.D.length c) R.D := by
  obtain ⟨val, ct, vA, hm, ht⟩ := h
  have hr := hm.row .D
  rw [ht.D] at hr
  have hr : Row w 3 1 (val .D) (ints R.D) := hr
  obtain ⟨a, c, e⟩ := hr.reads.form
  refine ⟨a, c, (hm.bcell 2).trans (by rw [← e]; rfl), ?_⟩
  rw [← e]
  exact hr.reads

set_option maxRecDepth 1000000 in
set_option maxHeartbeats 8000000 in
theorem TrailReasons_walk {W : World} (n : Int) (s u : Value) (L : List (List Int)) (A : List ActV) (hn : In64 n) (hL : ReadsL W s L) (hLx : In64L L) (hA : ReadsA W u A) (hAx : ∀ c ∈ A, c.ok) :
    Calls Try.prog 5 #[.int .i64 n, s, u] W fun e W' => e = .returned (.bool true) ∧ Below W.heap.size W W' := by
  have HS := Lib.hid (shown_any W)
  have HL := Lib.hid hL
  have HLX := Lib.hid hLx
  have HA := Lib.hid hA
  have HAX := Lib.hid hAx
  obtain ⟨sa, sc, rfl⟩ := hL.form
  obtain ⟨aa, ac, rfl⟩ := hA.form
  obtain ⟨q, hq⟩ : ∃ q, L.length = q := ⟨_, rfl⟩
  obtain ⟨aq, haq⟩ : ∃ q, A.length = q := ⟨_, rfl⟩
  have HQ := Lib.hid hq
  have HAQ := Lib.hid haq
  rw [hq] at HL ⊢
  rw [haq] at HA ⊢
  clear hL hLx hA hAx hq haq
  go_enter Try.func5, Try.ntmps5
  go_wp2_with fail
  go_at_call 8
  refine HS.out.mono ?_
  rintro e w1 ⟨rfl, b1⟩
  have HSM := Lib.hid (small_any (readsL_old HL.out b1))
  have HFW := Lib.hid (few_any (HA.out.below b1 (Nat.le_refl _)))
  have B1 := Lib.hid b1
  clear b1 HS
  go_wp2_with fail
  go_at_call 9
  refine HSM.out.mono ?_
  rintro e w2 ⟨rfl, hw⟩
  obtain rfl := hw.symm
  clear HSM hw
  go_wp2_with fail
  go_at_call 17
  refine HFW.out.mono ?_
  rintro e w2 ⟨rfl, hw⟩
  obtain rfl := hw.symm
  clear HFW hw
  cases hsm : smallB L with
  | false =>
    go_wp2_with fail
    go_ret
    exact ⟨rfl, B1.out⟩
  | true =>
    obtain ⟨hl1, hl20⟩ := smallB_yes hsm
    rw [HQ.out] at hl1
    have HL20 := Lib.hid hl20
    clear hsm hl20
    cases hfw : fewB A with
    | false =>
      go_wp2_with fail
      go_ret
      exact ⟨rfl, B1.out⟩
    | true =>
      obtain ⟨ha1, ha20⟩ := fewB_yes hfw
      rw [HAQ.out] at ha1
      have HA20 := Lib.hid ha20
      clear hfw ha20
      by_cases hn1 : 100 < n
      · have hdn : decide (100 < n) = true := decide_eq_true hn1
        go_wp2_with fail
        go_ret
        exact ⟨rfl, B1.out⟩
      · have hdn : decide (100 < n) = false := decide_eq_false hn1
        have HN := Lib.hid (New_law n HL.out HLX.out (by rw [HQ.out]; exact hl1) B1.out)
        go_wp2_with fail
        go_at_call 10
        refine HN.out.mono ?_
        rintro e w2 ⟨b2, hcase⟩
        rcases hcase with ⟨hr, rfl⟩ | ⟨m, b, T0, rfl, hr, rfl, -, t2, g0, l0, e0, s0⟩
        · have HM := Lib.hid (NewM_no n (readsL_old HL.out b2) HLX.out (by rw [HQ.out]; omega) (fun c hc => by have := HL20.out c hc; omega) hr)
          have B2 := Lib.hid b2
          clear b2 HN hr
          go_wp2_with fail
          go_at_call 18
          refine HM.out.mono ?_
          rintro e w3 ⟨rfl, hw⟩
          obtain rfl := hw.symm
          clear hw
          go_wp2_with fail
          go_ret
          exact ⟨rfl, B2.out⟩
        · have HM := Lib.hid (NewM_law HL.out HLX.out (by rw [HQ.out]; exact hl1) HL20.out b2 hr t2)
          have HRA := Lib.hid (new_relA' g0 l0 e0 s0 hr (by rw [HQ.out]; omega))
          have G0 := Lib.hid g0
          clear b2 HN hr t2 g0 l0 e0 s0 B1
          go_wp2_with fail
          go_at_call 18
          refine HM.out.mono ?_
          rintro e w3 ⟨p, M, S, rfl, hboth⟩
          have REL0 : PlayRel W b p m 0 w3 := ⟨T0, _, M, S, hboth, G0.out, HRA.out, by show L.length ≤ 60 + 0; rw [HQ.out]; omega⟩
          clear hboth HM HRA G0
          have hm100 : m ≤ 100 := by omega
          clear hdn hn1
          go_wp2_with fail
          clear hn
          as_aux_lemma =>
          go_loopw [6, 14, 15, 16, 17] (fun _ v14 _ _ _ wr => ∃ i : Nat, i ≤ aq ∧ v14 = .int .i64 i ∧ PlayRel W b p m i wr) (fun _ v14 _ _ _ _ => aq - (intOf v14).toNat)
          case atStart => exact ⟨0, Nat.zero_le _, rfl, REL0⟩
          case round =>
            clear REL0
            obtain ⟨i, hi, rfl, T, R, M2, S2, hB, g, rA, hLL⟩ := hrel
            by_cases hlt : i < aq
            · have hiA : i < A.length := by rw [HAQ.out]; exact hlt
              obtain ⟨ab, off, da, dc, rfl, hc, hst⟩ := act_at HA.out hiA
              obtain ⟨c0, c1, c2⟩ := hc wr hB.be
              have hmem : A.getD i a0 ∈ A := mem_getD hiA
              have HD := Lib.hid (does_any hB g rA (by omega) (A.getD i a0) (hst S2 wr hB.o hB.be) (HAX.out _ hmem) (by have := HA20.out _ hmem; omega))
              have hi1 : (i : Int) < (aq : Int) := by omega
              have hi0 : (0 : Int) ≤ (i : Int) := by omega
              have HLL := Lib.hid hLL
              clear hB g rA hLL hc hst hmem hiA
              generalize A.getD i a0 = act at *
              generalize act.c.length = cl at *
              as_aux_lemma =>
              go_wp2_with fail
              go_at_call 19
              refine HD.out.mono ?_
              rintro e w4 ⟨on, T4, R4, M4, S4, rfl, hB4, g4, rA4, hL4, hS4⟩
              cases on with
              | false =>
                have HF := Lib.hid hB4.be
                clear hB4 g4 rA4 hL4 hS4 HD c0 c1 c2
                go_wp2_with fail
                go_ret
                exact ⟨rfl, HF.out⟩
              | true =>
                have rA4 := rA4 rfl
                have HB4 := Lib.hid hB4
                obtain ⟨xa, xc, cD, hDr⟩ := hB4.r.decRow
                have hp4 := hB4.r.sizeP
                have HRE := Lib.hid (reasons_any hB4.t g4 rA4.toRelD hDr)
                have REL1 : Hid (∀ w5, Below w4.heap.size w4 w5 → PlayRel W b p m (i + 1) w5) := Lib.hid fun w5 b5 => ⟨T4, R4, M4, S4, hB4.below b5, g4, rA4, by have := HLL.out; omega⟩
                generalize R4.D.length = dl at *
                clear hB4 g4 rA4 hL4 hS4 HD c0 c1 c2 hDr
                go_wp2_with fail
                go_at_call 21
                refine HRE.out.mono ?_
                rintro e w5 ⟨rfl, b5⟩
                have REL2 := Lib.hid (REL1.out w5 b5)
                clear b5 REL1 cD
                go_wp2_with fail
                go_roundw
                case rel => exact ⟨i + 1, by omega, by go_num, REL2.out⟩
                case measure => simp [intOf]; omega
            · obtain rfl : i = aq := by omega
              have H := Lib.hid hB
              have G := Lib.hid g
              have hfl : T.F.length ≤ 20000 := by rw [g.ok.fl]; exact g.ok.n2
              have HLV := Lib.hid (LevelOf_any hB.t 0 (by unfold In64; omega) hfl)
              have f0 : factOf T 0 = (0, -1, -1) := factOf_out (by simp)
              rw [f0] at HLV
              have HRS := Lib.hid (fun w2 (hb : Below wr.heap.size wr w2) => Reason_any ((hB.below hb).t) 0 (by unfold In64; omega) hfl)
              rw [f0] at HRS
              have vN : valOf T ((m : Int) + 1) = 0 := by
                unfold valOf
                rw [factOf_out (by rw [g.ok.fl]; omega)]
                split <;> rfl
              have HVA := Lib.hid (fun w2 (hb : Below wr.heap.size wr w2) => Value_any ((hB.below hb).t) ((m : Int) + 1) (by unfold In64; omega) hfl g.ok.small)
              rw [vN] at HVA
              have HC1 := Lib.hid (fun w2 (hb : Below wr.heap.size wr w2) => Clause_no ((hB.below hb).t) (-1) (.inl (by omega)))
              have HCC := Lib.hid (fun w2 (hb : Below wr.heap.size wr w2) => Clauses_any ((hB.below hb).t))
              have HC2 := Lib.hid (fun w2 (hb : Below wr.heap.size wr w2) => Clause_no ((hB.below hb).t) (T.L.length : Nat) (.inr (by omega)))
              generalize T.L.length = ll at *
              have BW := Lib.hid hB.be
              have hwn : IntKind.i64.wrap ((m : Int) + 1) = (m : Int) + 1 := wrap_i64 (by omega)
              clear hB g rA hLL f0 vN hfl
              as_aux_lemma =>
              go_wp2_with fail
              go_at_call 22
              refine HLV.out.mono ?_
              rintro e w2 ⟨rfl, b2⟩
              have B2 := Lib.hid b2
              clear b2
              go_wp2_with fail
              go_at_call 23
              refine (HRS.out w2 B2.out).mono ?_
              rintro e w3 ⟨rfl, b3⟩
              have B3 := Lib.hid (B2.out.trans (b3.mono B2.out.size))
              clear b3
              go_wp2_with fail
              go_at_call 24
              refine (HVA.out w3 B3.out).mono ?_
              rintro e w4 ⟨rfl, b4⟩
              have B4 := Lib.hid (B3.out.trans (b4.mono B3.out.size))
              clear b4
              go_wp2_with fail
              go_at_call 25
              refine (HC1.out w4 B4.out).mono ?_
              rintro e w9 ⟨rfl, hw⟩
              obtain rfl := hw.symm
              clear hw
              go_wp2_with fail
              go_at_call 26
              refine (HCC.out w4 B4.out).mono ?_
              rintro e w9 ⟨rfl, hw⟩
              obtain rfl := hw.symm
              clear hw
              go_wp2_with fail
              go_at_call 25
              refine (HC2.out w4 B4.out).mono ?_
              rintro e w9 ⟨rfl, hw⟩
              obtain rfl := hw.symm
              clear hw
              go_wp2_with fail
              go_ret
              exact ⟨rfl, BW.out.trans (B4.out.mono BW.out.size)⟩
end Go.Proofs.Ytngegkgmenfelaa
