/-
  The statements' helper alike.
-/
import Derived.Test.YtngegkgmenfelaaYd
namespace Go.Proofs.Ytngegkgmenfelaa
open Go.RowKit Go.Lib
attribute [local go_sem ↓] Go.wp_at_zero Go.wp_at_succ

variable {W w w' : World} {M S : Nat → Prop} {b p n : Nat} {T T' : Tr} {R R' : Ref}

/-- How many variables are known. -/
def manyTo (T : Tr) (k : Nat) : Nat := ((List.range k).filter fun (i : Nat) => decide (valOf T ((i : Int) + 1) ≠ 0)).length
theorem manyTo_succ (T : Tr) (k : Nat) : manyTo T (k + 1) = manyTo T k + if valOf T ((k : Int) + 1) = 0 then 0 else 1 := by
  unfold manyTo
  rw [List.range_succ, List.filter_append, List.length_append]
  by_cases h : valOf T ((k : Int) + 1) = 0
  · simp [h]
  · simp [h]
theorem manyTo_le (T : Tr) (k : Nat) : manyTo T k ≤ k := by
  unfold manyTo
  have := List.length_filter_le (fun (i : Nat) => decide (valOf T ((i : Int) + 1) ≠ 0)) (List.range k)
  rw [List.length_range] at this; exact this
theorem Good.many (h : Good n T) : manyTo T n = T.lits.length := by
  have hp : List.Perm ((List.range n).filter fun (i : Nat) => decide (valOf T ((i : Int) + 1) ≠ 0)) (T.lits.map fun x => x.natAbs - 1) := by
    rw [List.perm_ext_iff_of_nodup]
    · intro i
      rw [List.mem_filter, List.mem_range, List.mem_map]
      constructor
      · rintro ⟨hi, hv⟩
        have hv := of_decide_eq_true hv
        have h3 := valOf_three h.ok.small ((i : Int) + 1)
        by_cases h1 : valOf T ((i : Int) + 1) = 1
        · exact ⟨_, (h.lit _).2 h1, by omega⟩
        · refine ⟨-((i : Int) + 1), (h.lit _).2 (by rw [valOf_neg]; omega), by omega⟩
      · rintro ⟨x, hx, rfl⟩
        have hb := h.litVar hx
        have hv := (h.lit x).1 hx
        refine ⟨by omega, decide_eq_true ?_⟩
        by_cases h0 : x < 0
        · rw [show (((x.natAbs - 1 : Nat) : Int) + 1) = -x from by omega, valOf_neg, hv]; omega
        · rw [show (((x.natAbs - 1 : Nat) : Int) + 1) = x from by omega, hv]; omega
    · exact List.Pairwise.filter _ List.nodup_range
    · refine List.Pairwise.map _ (fun a b => ?_) (List.pairwise_iff_getElem.2 fun i j hi hj hij => ?_) (R := fun a b => a ∈ T.lits ∧ b ∈ T.lits ∧ a ≠ b)
      · rintro ⟨ha, hb, hab⟩ e
        have h1 := h.litVar ha
        have h2 := h.litVar hb
        have e2 : a = -b := by omega
        subst e2
        exact h.consistent hb ha
      · refine ⟨List.getElem_mem _, List.getElem_mem _, fun e => ?_⟩
        exact absurd (List.pairwise_iff_getElem.1 h.nd i j hi hj hij) (by simp [e])
  unfold manyTo
  rw [hp.length_eq, List.length_map]

theorem Both.drewN (h : Both W w M S b p T R) (k : Nat) : Both W (w.drewN k) M S b p T R := h.below (Below.drewN (Below.refl w.heap.size w) k)

set_option maxRecDepth 1000000 in
set_option maxHeartbeats 4000000 in
theorem alike_any (h : Both W w M S b p T R) (hg : Good n T) (hr : RelA n T R) :
    Calls Try.prog 20 #[.pointer (some ⟨b, 0, none⟩), .pointer (some ⟨p, 0, none⟩)] w fun e w' => e = .returned (.bool true) ∧ Below w.heap.size w w' := by
  have hn20 := hg.ok.n2
  have H := Lib.hid h
  have G := Lib.hid hg
  have RA := Lib.hid hr
  obtain ⟨da, dc, c2⟩ := h.r.dec
  obtain ⟨la, lc, c1⟩ := h.r.nClauses
  have c0 := h.r.nAt
  have hp := h.r.sizeP
  have HLV := Lib.hid (fun k => Level_any (h.drewN k).t)
  have HCL := Lib.hid (fun k => Clauses_any (h.drewN k).t)
  have e1 := hr.L.1
  have e2 := hr.Dl
  have e3 := hr.en
  rw [e3] at c0
  generalize R.D.length = lv at *
  generalize T.starts.length = lv2 at *
  subst e2
  generalize R.L.length = ll at *
  generalize T.L.length = ll2 at *
  subst e1
  clear h hg hr e3
  go_enter Try.func20, Try.ntmps20
  go_wp2_with fail
  go_quiet ((first | (go_at_call 12; exact Calls.quiet_of_same (HLV.out _)) | (go_at_call 26; exact Calls.quiet_of_same (HCL.out _))))
  go_wp2_with fail
  have HB0 : Hid (Below w.heap.size w (w.drewN nq)) := Lib.hid (Below.drewN (Below.refl w.heap.size w) nq)
  clear c0 c1 c2 HLV HCL
  generalize w.drewN nq = w1 at *
  as_aux_lemma =>
  go_loopw [4, 5, 6] (fun _ v5 v6 wr => ∃ k : Nat, k ≤ n ∧ v6 = .int .i64 ((k : Int) + 1) ∧ v5 = .int .i64 (manyTo T k : Nat) ∧ Hid (Below w.heap.size w wr)) (fun _ _ v6 _ => n + 1 - (intOf v6).toNat)
  case atStart => exact ⟨0, Nat.zero_le _, rfl, rfl, HB0⟩
  case round =>
    clear HB0
    obtain ⟨k, hk, rfl, rfl, HB⟩ := hrel
    have HR := Lib.hid (H.out.below HB.out)
    have c0 := HR.out.r.nAt
    rw [RA.out.en] at c0
    have hpr := HR.out.r.sizeP
    by_cases hlt : k < n
    · have hi : In64 ((k : Int) + 1) := by unfold In64; omega
      have hin : In64 (-((k : Int) + 1)) := by unfold In64; omega
      have HVT := Lib.hid (fun w2 hb => Value_any ((HR.out.below (w' := w2) hb).t) ((k : Int) + 1) hi (by rw [G.out.ok.fl]; exact G.out.ok.n2) G.out.ok.small)
      have HVN := Lib.hid (fun w2 hb => Value_any ((HR.out.below (w' := w2) hb).t) (-((k : Int) + 1)) hin (by rw [G.out.ok.fl]; exact G.out.ok.n2) G.out.ok.small)
      have HVM := Lib.hid (fun w2 hb => ValueM_any ((HR.out.below (w' := w2) hb).r) RA.out.A3 (by rw [RA.out.Al]; exact G.out.ok.n2) ((k : Int) + 1) hi)
      rw [RA.out.val G.out] at HVM
      rw [valOf_neg] at HVN
      have hms := manyTo_succ T k
      have hml := manyTo_le T k
      have h3 := valOf_three G.out.ok.small ((k : Int) + 1)
      have hk1 : (k : Int) + 1 ≤ (n : Int) := by omega
      have hk0 : (0 : Int) ≤ (k : Int) := by omega
      have hw1 : wrap64 (-((k : Int) + 1)) = -((k : Int) + 1) := by unfold wrap64; omega
      have hw2 : IntKind.i64.wrap (-((k : Int) + 1)) = -((k : Int) + 1) := wrap_i64 (by omega)
      generalize valOf T ((k : Int) + 1) = y at *
      have HMS := Lib.hid hms
      clear hms
      generalize manyTo T k = mk at *
      obtain ⟨mk1, hmk1⟩ : ∃ m, m = manyTo T (k + 1) := ⟨_, rfl⟩
      rw [← hmk1] at HMS
      clear hi hin
      have HMK : Hid (manyTo T (k + 1) = mk1) := Lib.hid hmk1.symm
      clear hmk1
      rcases h3 with rfl | rfl | rfl
      · obtain rfl : mk1 = mk + 1 := by have := HMS.out; simpa using this
        as_aux_lemma =>
        go_wp2_with fail
        go_at_call 24
        refine (HVT.out wr (Below.refl _ _)).mono ?_
        rintro e w2 ⟨rfl, b2⟩
        have B2 := Lib.hid b2
        clear b2
        go_wp2_with fail
        go_at_call 43
        refine (HVM.out w2 B2.out).mono ?_
        rintro e w9 ⟨rfl, hw⟩
        obtain rfl := hw.symm
        clear hw
        go_wp2_with fail
        go_at_call 24
        refine (HVN.out w2 B2.out).mono ?_
        rintro e w3 ⟨rfl, b3⟩
        have B3 := Lib.hid (B2.out.trans (b3.mono B2.out.size))
        clear b3
        go_wp2_with fail
        go_at_call 43
        refine (HVM.out w3 B3.out).mono ?_
        rintro e w9 ⟨rfl, hw⟩
        obtain rfl := hw.symm
        clear hw
        go_wp2_with fail
        go_at_call 43
        refine (HVM.out w3 B3.out).mono ?_
        rintro e w9 ⟨rfl, hw⟩
        obtain rfl := hw.symm
        clear hw
        go_wp2_with fail
        refine ⟨⟨k + 1, by omega, by go_num, by rw [HMK.out] <;> go_num, Lib.hid (HB.out.trans (B3.out.mono HB.out.size))⟩, ?_⟩
        simp [intOf]; omega
      · obtain rfl : mk1 = mk := by have := HMS.out; simpa using this
        as_aux_lemma =>
        go_wp2_with fail
        go_at_call 24
        refine (HVT.out wr (Below.refl _ _)).mono ?_
        rintro e w2 ⟨rfl, b2⟩
        have B2 := Lib.hid b2
        clear b2
        go_wp2_with fail
        go_at_call 43
        refine (HVM.out w2 B2.out).mono ?_
        rintro e w9 ⟨rfl, hw⟩
        obtain rfl := hw.symm
        clear hw
        go_wp2_with fail
        go_at_call 24
        refine (HVN.out w2 B2.out).mono ?_
        rintro e w3 ⟨rfl, b3⟩
        have B3 := Lib.hid (B2.out.trans (b3.mono B2.out.size))
        clear b3
        go_wp2_with fail
        go_at_call 43
        refine (HVM.out w3 B3.out).mono ?_
        rintro e w9 ⟨rfl, hw⟩
        obtain rfl := hw.symm
        clear hw
        go_wp2_with fail
        go_at_call 43
        refine (HVM.out w3 B3.out).mono ?_
        rintro e w9 ⟨rfl, hw⟩
        obtain rfl := hw.symm
        clear hw
        go_wp2_with fail
        refine ⟨⟨k + 1, by omega, by go_num, by rw [HMK.out] <;> go_num, Lib.hid (HB.out.trans (B3.out.mono HB.out.size))⟩, ?_⟩
        simp [intOf]; omega
      · obtain rfl : mk1 = mk + 1 := by have := HMS.out; simpa using this
        as_aux_lemma =>
        go_wp2_with fail
        go_at_call 24
        refine (HVT.out wr (Below.refl _ _)).mono ?_
        rintro e w2 ⟨rfl, b2⟩
        have B2 := Lib.hid b2
        clear b2
        go_wp2_with fail
        go_at_call 43
        refine (HVM.out w2 B2.out).mono ?_
        rintro e w9 ⟨rfl, hw⟩
        obtain rfl := hw.symm
        clear hw
        go_wp2_with fail
        go_at_call 24
        refine (HVN.out w2 B2.out).mono ?_
        rintro e w3 ⟨rfl, b3⟩
        have B3 := Lib.hid (B2.out.trans (b3.mono B2.out.size))
        clear b3
        go_wp2_with fail
        go_at_call 43
        refine (HVM.out w3 B3.out).mono ?_
        rintro e w9 ⟨rfl, hw⟩
        obtain rfl := hw.symm
        clear hw
        go_wp2_with fail
        go_at_call 43
        refine (HVM.out w3 B3.out).mono ?_
        rintro e w9 ⟨rfl, hw⟩
        obtain rfl := hw.symm
        clear hw
        go_wp2_with fail
        refine ⟨⟨k + 1, by omega, by go_num, by rw [HMK.out] <;> go_num, Lib.hid (HB.out.trans (B3.out.mono HB.out.size))⟩, ?_⟩
        simp [intOf]; omega
    · obtain rfl : k = n := by omega
      have HLI := Lib.hid (Lits_any HR.out.t (by have h1 := G.out.litsLen; omega))
      have hm := G.out.many
      generalize manyTo T k = mk at *
      subst hm
      as_aux_lemma =>
      go_wp2_with fail
      go_at_call 13
      refine HLI.out.mono ?_
      rintro e w2 ⟨v, rfl, hrow, -, b2⟩
      obtain ⟨va, vc, rfl⟩ := hrow.reads.form
      have HB2 : Hid (Below w.heap.size w w2) := Lib.hid (HB.out.trans (b2.mono HB.out.size))
      clear hrow b2 HLI
      go_wp2_with fail
      go_ret
      exact ⟨by simp, HB2.out⟩
end Go.Proofs.Ytngegkgmenfelaa
