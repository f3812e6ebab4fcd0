/-
  The statements' helper reasons.
-/
import Derived.Test.YtngegkgmenfelaaYe
import Derived.Test.YtngegkgmenfelaaGn
namespace Go.Proofs.Ytngegkgmenfelaa
open Go.RowKit Go.Lib
attribute [local go_sem ↓] Go.wp_at_zero Go.wp_at_succ

variable {W w w' : World} {M S : Nat → Prop} {b p n : Nat} {T T' : Tr} {R R' : Ref}

theorem Reads.prefix {w : World} {a : Option Addr} {q c i : Nat} {xs : List Int} (h : Reads w (.slice a q c) xs) (hq : xs.length = q) (hi : i ≤ q) : Reads w (.slice a i c) (xs.take i) := by
  rcases h with ⟨⟨a', c', e⟩, h0⟩ | ⟨b, off, c', e, hb, hc⟩
  · injection e with e1 e2 e3
    have : i = 0 := by omega
    subst this
    exact .inl ⟨⟨_, _, rfl⟩, by simp⟩
  · injection e with e1 e2 e3
    have hl : (xs.take i).length = i := by rw [List.length_take]; omega
    refine .inr ⟨b, off, c, by rw [hl, e1], hb, fun j hj => ?_⟩
    rw [hl] at hj
    rw [hc j (by omega)]
    simp only [List.getD_eq_getElem?_getD]
    rw [List.getElem?_take, if_pos hj]

set_option maxRecDepth 1000000 in
set_option maxHeartbeats 16000000 in
theorem reasons_any (h : TrailAt w (fun k => M k ∨ S k) b T) (hg : Good n T) (hr : RelD n T R) {s : Value} (hD : Reads w s R.D) :
    Calls Try.prog 21 #[.pointer (some ⟨b, 0, none⟩), s] w fun e w' => e = .returned (.bool true) ∧ Below w.heap.size w w' := by
  have h20 := hg.ok.n2
  have hll := hg.litsLen
  have hsl := hg.startsLen
  obtain ⟨da, dc, rfl⟩ := hD.form
  have HLI := Lib.hid (Lits_any h (by omega))
  have H := Lib.hid h
  have G := Lib.hid hg
  have RD := Lib.hid hr
  have HD := Lib.hid hD
  have hdl := hr.Dl
  obtain ⟨dl, hdq⟩ : ∃ q, R.D.length = q := ⟨_, rfl⟩
  rw [hdq] at HD hdl ⊢
  have HDQ := Lib.hid hdq
  have HDL := Lib.hid hdl
  clear h hg hr hD hdq hdl
  go_enter Try.func21, Try.ntmps21
  go_wp2_with fail
  go_at_call 13
  refine HLI.out.mono ?_
  rintro e w1 ⟨v, rfl, hrow, -, b1⟩
  have HL := Lib.hid hrow.reads
  obtain ⟨la, lc, ev, hcap, _⟩ := hrow.form
  rw [ints_len] at ev hcap
  subst ev
  have B1 := Lib.hid b1
  have T1 := Lib.hid (H.out.below b1 (Nat.le_refl _))
  have D1 := Lib.hid (HD.out.below b1 (Nat.le_refl _))
  obtain ⟨q, hq⟩ : ∃ q, T.lits.length = q := ⟨_, rfl⟩
  rw [hq] at HL hll hsl hcap ⊢
  have HQ := Lib.hid hq
  clear hrow b1 hq HLI
  go_wp2_with fail
  as_aux_lemma =>
  go_loopw [4, 6, 7, 8, 9, 10, 11, 12] (fun _ v6 v7 _ _ _ _ _ wr => ∃ i : Nat, i ≤ q ∧ v7 = .int .i64 i ∧ v6 = .int .i64 (atOf T i : Nat) ∧ Hid (Below w1.heap.size w1 wr)) (fun _ _ v7 _ _ _ _ _ _ => q - (intOf v7).toNat)
  case atStart => exact ⟨0, Nat.zero_le _, rfl, by rw [G.out.atZero]; rfl, Lib.hid (Below.refl _ _)⟩
  case round =>
    obtain ⟨i, hi, rfl, rfl, HB⟩ := hrel
    by_cases hlt : i < q
    · have hiL : i < T.lits.length := by rw [HQ.out]; exact hlt
      obtain ⟨lb, lo, rfl, _⟩ := HL.out.get hiL
      have CL : Hid (∀ w2, Below w1.heap.size w1 w2 → w2.cell? ⟨lb, lo + i, none⟩ = some (.int .i64 (T.lits.getD i 0))) := Lib.hid fun w2 hb => by
        obtain ⟨lb', lo', e, h⟩ := (HL.out.below hb (Nat.le_refl _)).get hiL
        injection e with e; injection e with e1 e2 _; subst e1 e2; exact h
      have hlv := G.out.litVar (mem_getD (d := 0) hiL)
      have hx : In64 (T.lits.getD i 0) := by unfold In64; omega
      have hxn : In64 (-(T.lits.getD i 0)) := by unfold In64; omega
      have hval := (G.out.lit _).1 (mem_getD (d := 0) hiL)
      have hfl : T.F.length ≤ 20000 := by rw [G.out.ok.fl]; exact h20
      have C23 := Lib.hid (fun w2 (hb : Below w1.heap.size w1 w2) => Reason_any (T1.out.below hb (Nat.le_refl _)) (T.lits.getD i 0) hx hfl)
      have C22 := Lib.hid (fun w2 (hb : Below w1.heap.size w1 w2) => LevelOf_any (T1.out.below hb (Nat.le_refl _)) (T.lits.getD i 0) hx hfl)
      have C23n := Lib.hid (fun w2 (hb : Below w1.heap.size w1 w2) => Reason_any (T1.out.below hb (Nat.le_refl _)) (-(T.lits.getD i 0)) hxn hfl)
      have C22n := Lib.hid (fun w2 (hb : Below w1.heap.size w1 w2) => LevelOf_any (T1.out.below hb (Nat.le_refl _)) (-(T.lits.getD i 0)) hxn hfl)
      have C24 := Lib.hid (fun w2 (hb : Below w1.heap.size w1 w2) => Value_any (T1.out.below hb (Nat.le_refl _)) (T.lits.getD i 0) hx hfl G.out.ok.small)
      rw [factOf_neg] at C23n C22n
      rw [hval] at C24
      rw [G.out.atLevel hiL] at C22 C22n
      have hw1 : IntKind.i64.wrap (-(T.lits.getD i 0)) = -(T.lits.getD i 0) := wrap_i64 (by omega)
      have hw2 : wrap64 (-(T.lits.getD i 0)) = -(T.lits.getD i 0) := by unfold wrap64; omega
      have hsucc := G.out.atSucc i
      have hrs := G.out.rs i hiL
      have hi1 : (i : Int) < (q : Int) := by omega
      have hi0 : (0 : Int) ≤ (i : Int) := by omega
      rcases hrs with ⟨hst, hk⟩ | ⟨hst, m, hm, hk, hown, hoth⟩
      · obtain ⟨hat, hdc⟩ := RD.out.decidedAt G.out hst
        rw [if_pos hst] at hsucc
        rw [hk] at C23 C23n
        rw [hsucc] at C22 C22n
        obtain ⟨db, dof, rfl, _⟩ := D1.out.get hat
        have CD : Hid (∀ w2, Below w1.heap.size w1 w2 → w2.cell? ⟨db, dof + atOf T i, none⟩ = some (.int .i64 (T.lits.getD i 0))) := Lib.hid fun w2 hb => by
          obtain ⟨db', do', e, h⟩ := (D1.out.below hb (Nat.le_refl _)).get hat
          injection e with e; injection e with e1 e2 _; subst e1 e2; rw [← hdc]; exact h
        have HSU := Lib.hid hsucc
        rw [HDQ.out] at hat
        have hal := Good.atLe T i
        generalize atOf T i = at' at *
        generalize T.lits.getD i 0 = x at *
        have hd1 : decide (dl ≤ at') = false := decide_eq_false (by omega)
        have hd2 : decide ((dl : Int) ≤ (at' : Int)) = false := decide_eq_false (by omega)
        have hd3 : (at' : Int) < (dl : Int) := by omega
        have hd0 : (0 : Int) ≤ (at' : Int) := by omega
        have hat20 : at' ≤ 20000 := by omega
        have hcast : ((at' + 1 : Nat) : Int) = (at' : Int) + 1 := by omega
        rw [hcast] at C22 C22n
        have hwa : IntKind.i64.wrap ((at' : Int) + 1) = (at' : Int) + 1 := wrap_i64 (by omega)
        clear hst hk hdc hlv hx hxn hval hfl hiL hsucc hal
        as_aux_lemma =>
        have cl0 := CL.out wr HB.out
        go_wp2_with fail
        go_at_call 23
        refine (C23.out wr HB.out).mono ?_
        rintro e w2 ⟨rfl, b2⟩
        have B2 := Lib.hid (HB.out.trans (b2.mono HB.out.size))
        have cl2 := CL.out w2 B2.out
        clear b2
        go_wp2_with fail
        go_at_call 22
        refine (C22.out w2 B2.out).mono ?_
        rintro e w3 ⟨rfl, b3⟩
        have B3 := Lib.hid (B2.out.trans (b3.mono B2.out.size))
        have cl3 := CL.out w3 B3.out
        clear b3 cl2
        go_wp2_with fail
        go_at_call 23
        refine (C23n.out w3 B3.out).mono ?_
        rintro e w4 ⟨rfl, b4⟩
        have B4 := Lib.hid (B3.out.trans (b4.mono B3.out.size))
        have cl4 := CL.out w4 B4.out
        clear b4 cl3
        go_wp2_with fail
        go_at_call 22
        refine (C22n.out w4 B4.out).mono ?_
        rintro e w5 ⟨rfl, b5⟩
        have B5 := Lib.hid (B4.out.trans (b5.mono B4.out.size))
        have cl5 := CL.out w5 B5.out
        clear b5 cl4
        go_wp2_with fail
        go_at_call 24
        refine (C24.out w5 B5.out).mono ?_
        rintro e w6 ⟨rfl, b6⟩
        have B6 := Lib.hid (B5.out.trans (b6.mono B5.out.size))
        have cl6 := CL.out w6 B6.out
        have cd6 := CD.out w6 B6.out
        clear b6 cl5 cl0
        go_wp2_with fail
        go_quiet (fail)
        go_wp2_with fail
        have B7 := Lib.hid (Below.drewN B6.out nq)
        go_roundw
        case rel => exact ⟨i + 1, by omega, by go_num, by rw [HSU.out] <;> go_num, B7⟩
        case measure => simp [intOf]; omega
      · rw [if_neg hst, Nat.add_zero] at hsucc
        rw [hk] at C23 C23n
        rw [hsucc] at C22 C22n
        have HSU := Lib.hid hsucc
        have hal := Good.atLe T i
        have hcl20 : (cl T m).length ≤ 20000 := (G.out.ok.clause m).1
        have C25 := Lib.hid (fun w2 (hb : Below w1.heap.size w1 w2) => Clause_at (T1.out.below hb (Nat.le_refl _)) m hm (by show (cl T m).length ≤ 1000000; omega))
        have ecl : T.L.getD m [] = cl T m := rfl
        rw [ecl] at C25
        have HY : Hid (∀ y ∈ cl T m, 1 ≤ y.natAbs ∧ y.natAbs ≤ n) := Lib.hid (G.out.ok.clause m).2
        have HOWN := Lib.hid hown
        have HOTH := Lib.hid hoth
        have HAMO : Hid (∀ w2, Below w1.heap.size w1 w2 → ∀ y, y ∈ cl T m → y ≠ T.lits.getD i 0 → Calls Try.prog 36 #[.slice (some ⟨lb, lo, none⟩) i lc, .int .i64 (-y)] w2 fun e w' => e = .returned (.bool true) ∧ w' = w2) := Lib.hid fun w2 hb y hy hyx => by
          have := among_any ((HL.out.below hb (Nat.le_refl _)).prefix HQ.out (Nat.le_of_lt hlt)) (-y) (by have := List.length_take_le i T.lits; omega)
          rw [decide_eq_true (hoth y hy hyx)] at this
          exact this
        generalize atOf T i = at' at *
        generalize cl T m = c at *
        generalize T.lits.getD i 0 = x at *
        have hm0 : decide ((m : Int) < 0) = false := decide_eq_false (by omega)
        have hat20 : at' ≤ 20000 := by omega
        have hil : (i : Int) ≤ (lc : Int) := by omega
        clear hst hk hlv hx hxn hval hfl hiL hsucc hal hown hoth ecl hm
        as_aux_lemma =>
        have cl0 := CL.out wr HB.out
        go_wp2_with fail
        go_at_call 23
        refine (C23.out wr HB.out).mono ?_
        rintro e w2 ⟨rfl, b2⟩
        have B2 := Lib.hid (HB.out.trans (b2.mono HB.out.size))
        have cl2 := CL.out w2 B2.out
        clear b2
        go_wp2_with fail
        go_at_call 22
        refine (C22.out w2 B2.out).mono ?_
        rintro e w3 ⟨rfl, b3⟩
        have B3 := Lib.hid (B2.out.trans (b3.mono B2.out.size))
        have cl3 := CL.out w3 B3.out
        clear b3 cl2
        go_wp2_with fail
        go_at_call 23
        refine (C23n.out w3 B3.out).mono ?_
        rintro e w4 ⟨rfl, b4⟩
        have B4 := Lib.hid (B3.out.trans (b4.mono B3.out.size))
        have cl4 := CL.out w4 B4.out
        clear b4 cl3
        go_wp2_with fail
        go_at_call 22
        refine (C22n.out w4 B4.out).mono ?_
        rintro e w5 ⟨rfl, b5⟩
        have B5 := Lib.hid (B4.out.trans (b5.mono B4.out.size))
        have cl5 := CL.out w5 B5.out
        clear b5 cl4
        go_wp2_with fail
        go_at_call 24
        refine (C24.out w5 B5.out).mono ?_
        rintro e w6 ⟨rfl, b6⟩
        have B6 := Lib.hid (B5.out.trans (b6.mono B5.out.size))
        clear b6 cl5 cl0
        go_wp2_with fail
        go_at_call 25
        refine (C25.out w6 B6.out).mono ?_
        rintro e w7 ⟨v, rfl, hrow, -, b7⟩
        have B7 := Lib.hid (B6.out.trans (b7.mono B6.out.size))
        have HC := Lib.hid hrow.reads
        obtain ⟨ca, cc, rfl⟩ := HC.out.form
        obtain ⟨cq, hcq⟩ : ∃ q, c.length = q := ⟨_, rfl⟩
        rw [hcq] at HC hcl20 ⊢
        have HCQ := Lib.hid hcq
        clear hrow b7 hcq C22 C22n C23 C23n C24 C25
        go_wp2_with fail
        as_aux_lemma =>
        go_loopw [4, 11, 12] (fun _ v11 v12 wz => ∃ (j : Nat) (own : Bool), j ≤ cq ∧ v12 = .int .i64 j ∧ v11 = .bool own ∧ Hid (own = decide (x ∈ c.take j)) ∧ Hid (Below w7.heap.size w7 wz)) (fun _ _ v12 _ => cq - (intOf v12).toNat)
        case atStart => exact ⟨0, false, Nat.zero_le _, rfl, rfl, Lib.hid (by rw [List.take_zero]; rfl), Lib.hid (Below.refl _ _)⟩
        case round =>
          obtain ⟨j, own, hj, rfl, rfl, HO, HBZ⟩ := hrel
          have HB1 := Lib.hid (B7.out.trans (HBZ.out.mono B7.out.size))
          by_cases hltj : j < cq
          · have hjc : j < c.length := by rw [HCQ.out]; exact hltj
            obtain ⟨cb, co, rfl, cj⟩ := (HC.out.below HBZ.out (Nat.le_refl _)).get hjc
            have hmem : c.getD j 0 ∈ c := mem_getD hjc
            have hyb := HY.out _ hmem
            have cli := CL.out wr HB1.out
            have HTS := Lib.hid (take_snoc hjc)
            have HAMY : Hid (c.getD j 0 ≠ x → ∀ w2, Below w1.heap.size w1 w2 → Calls Try.prog 36 #[.slice (some ⟨lb, lo, none⟩) i lc, .int .i64 (-(c.getD j 0))] w2 fun e w' => e = .returned (.bool true) ∧ w' = w2) := Lib.hid fun hne w2 hb => HAMO.out w2 hb _ hmem hne
            generalize c.getD j 0 = y at *
            have hwy : IntKind.i64.wrap (-y) = -y := wrap_i64 (by omega)
            have hwy2 : wrap64 (-y) = -y := by unfold wrap64; omega
            have hj1 : (j : Int) < (cq : Int) := by omega
            have hj0 : (0 : Int) ≤ (j : Int) := by omega
            have CJ : Hid (∀ w2, Below wr.heap.size wr w2 → w2.cell? ⟨cb, co + j, none⟩ = some (.int .i64 y) ∧ w2.cell? ⟨lb, lo + i, none⟩ = some (.int .i64 x)) := Lib.hid fun w2 hb =>
              ⟨(hb.cell (p := ⟨cb, co + j, none⟩) (block_lt cj)).trans cj, (hb.cell (p := ⟨lb, lo + i, none⟩) (block_lt cli)).trans cli⟩
            clear hjc hmem hyb
            by_cases hyx : y = x
            · subst hyx
              have HN : Hid (true = decide (y ∈ c.take (j + 1))) := Lib.hid (by rw [HTS.out]; simp)
              cases own with
              | true =>
                as_aux_lemma =>
                go_wp2_with fail
                go_quiet (fail)
                have B8 : Hid (Below wr.heap.size wr (wr.drewN nq)) := Lib.hid (Below.drewN (Below.refl wr.heap.size wr) nq)
                generalize wr.drewN nq = w8 at *
                obtain ⟨cj8, cl8⟩ := CJ.out w8 B8.out
                clear cj cli
                go_wp2_with fail
                go_quiet (fail)
                have B9 : Hid (Below w7.heap.size w7 (w8.drewN nq)) := Lib.hid (Below.drewN (HBZ.out.trans (B8.out.mono HBZ.out.size)) nq)
                go_wp2_with fail
                go_roundw
                case rel => exact ⟨j + 1, true, by omega, by go_num, rfl, HN, B9⟩
                case measure => simp [intOf]; omega
              | false =>
                as_aux_lemma =>
                go_wp2_with fail
                go_quiet (fail)
                have B8 : Hid (Below wr.heap.size wr (wr.drewN nq)) := Lib.hid (Below.drewN (Below.refl wr.heap.size wr) nq)
                generalize wr.drewN nq = w8 at *
                obtain ⟨cj8, cl8⟩ := CJ.out w8 B8.out
                clear cj cli
                go_wp2_with fail
                go_quiet (fail)
                have B9 : Hid (Below w7.heap.size w7 (w8.drewN nq)) := Lib.hid (Below.drewN (HBZ.out.trans (B8.out.mono HBZ.out.size)) nq)
                go_wp2_with fail
                go_roundw
                case rel => exact ⟨j + 1, true, by omega, by go_num, by simp, HN, B9⟩
                case measure => simp [intOf]; omega
            · have hd1 : (y == x) = false := by simpa using hyx
              have hd2 : (y != x) = true := by simpa using hyx
              have HAM := Lib.hid (HAMY.out hyx)
              have HN : Hid (own = decide (x ∈ c.take (j + 1))) := Lib.hid (by
                rw [HO.out, HTS.out]
                have : x ≠ y := fun e => hyx e.symm
                simp [this])
              clear hyx
              cases own with
              | true =>
                as_aux_lemma =>
                go_wp2_with fail
                go_quiet (fail)
                have B8 : Hid (Below wr.heap.size wr (wr.drewN nq)) := Lib.hid (Below.drewN (Below.refl wr.heap.size wr) nq)
                generalize wr.drewN nq = w8 at *
                obtain ⟨cj8, cl8⟩ := CJ.out w8 B8.out
                have HA8 : Hid (∀ k, Calls Try.prog 36 #[.slice (some ⟨lb, lo, none⟩) i lc, .int .i64 (-y)] (w8.drewN k) fun e w' => e = .returned (.bool true) ∧ w' = w8.drewN k) := Lib.hid fun k => HAM.out _ (Below.drewN (HB1.out.trans (B8.out.mono HB1.out.size)) k)
                clear cj cli
                go_wp2_with fail
                go_quiet ((go_at_call 36; exact Calls.quiet_of_same (HA8.out _)))
                have B9 : Hid (Below w7.heap.size w7 (w8.drewN nq)) := Lib.hid (Below.drewN (HBZ.out.trans (B8.out.mono HBZ.out.size)) nq)
                go_wp2_with fail
                go_roundw
                case rel => exact ⟨j + 1, true, by omega, by go_num, rfl, HN, B9⟩
                case measure => simp [intOf]; omega
              | false =>
                as_aux_lemma =>
                go_wp2_with fail
                go_quiet (fail)
                have B8 : Hid (Below wr.heap.size wr (wr.drewN nq)) := Lib.hid (Below.drewN (Below.refl wr.heap.size wr) nq)
                generalize wr.drewN nq = w8 at *
                obtain ⟨cj8, cl8⟩ := CJ.out w8 B8.out
                have HA8 : Hid (∀ k, Calls Try.prog 36 #[.slice (some ⟨lb, lo, none⟩) i lc, .int .i64 (-y)] (w8.drewN k) fun e w' => e = .returned (.bool true) ∧ w' = w8.drewN k) := Lib.hid fun k => HAM.out _ (Below.drewN (HB1.out.trans (B8.out.mono HB1.out.size)) k)
                clear cj cli
                go_wp2_with fail
                go_quiet ((go_at_call 36; exact Calls.quiet_of_same (HA8.out _)))
                have B9 : Hid (Below w7.heap.size w7 (w8.drewN nq)) := Lib.hid (Below.drewN (HBZ.out.trans (B8.out.mono HBZ.out.size)) nq)
                go_wp2_with fail
                go_roundw
                case rel => exact ⟨j + 1, false, by omega, by go_num, rfl, HN, B9⟩
                case measure => simp [intOf]; omega
          · obtain rfl : j = cq := by omega
            obtain rfl : own = true := by rw [HO.out, take_all HCQ.out]; exact decide_eq_true HOWN.out
            as_aux_lemma =>
            go_wp2_with fail
            go_roundw
            case rel => exact ⟨i + 1, by omega, by go_num, by rw [HSU.out]; rfl, HB1⟩
            case measure => simp [intOf]; omega
    · obtain rfl : i = q := by omega
      have he := G.out.atEnd
      rw [HQ.out] at he
      rw [← HDL.out] at he
      generalize atOf T i = at' at *
      subst he
      as_aux_lemma =>
      go_wp2_with fail
      go_ret
      exact ⟨by simp, B1.out.trans (HB.out.mono B1.out.size)⟩
end Go.Proofs.Ytngegkgmenfelaa
