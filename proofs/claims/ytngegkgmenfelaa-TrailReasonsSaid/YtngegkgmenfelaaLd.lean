/-
  The walk of TrailPlays.
-/
import Derived.Test.YtngegkgmenfelaaYe
namespace Go.Proofs.Ytngegkgmenfelaa
open Go.RowKit Go.Lib
attribute [local go_sem ↓] Go.wp_at_zero Go.wp_at_succ

variable {W w w' : World} {M S : Nat → Prop} {b p n : Nat} {T T' : Tr} {R R' : Ref}

theorem fewB_yes {L : List ActV} (h : fewB L = true) : L.length ≤ 80 ∧ ∀ c ∈ L, c.c.length ≤ 20 := of_decide_eq_true h
/-- The document's New, for a statement. -/
def NewMPost (W w : World) (b : Nat) (T : Tr) (n : Nat) (L : List (List Int)) (e : Ending) (w' : World) : Prop :=
  ∃ (p : Nat) (M S : Nat → Prop), e = .returned (.tuple #[.pointer (some ⟨p, 0, none⟩), .int .i64 0]) ∧ Both W w' M S b p T (newR n L)
theorem NewM_law {s : Value} {L : List (List Int)} (h : ReadsL W s L) (hx : In64L L) (hl : L.length ≤ 60) (hcl : ∀ c ∈ L, c.length ≤ 20) (hb : Below W.heap.size W w) (hr : rightB (n : Int) L = true) (ht : TrailAt w (Old W) b T) :
    Calls Try.prog 18 #[.int .i64 (n : Nat), s] w (NewMPost W w b T n L) := by
  refine (NewM_ok (S := Old W) n h hb (fun _ h => h) (old_there hb) hx hl (fun c hc => by have := hcl c hc; omega) hr).mono ?_
  rintro e w' ⟨p, rfl, M', S', hR, hb', hS, hn⟩
  exact ⟨p, M', S', rfl, ht.only (Only.ofBelow (M := fun _ => False) hb') (fun _ h => h.elim) hn hR.there, hR, hS, hb.trans (hb'.mono hb.size)⟩
theorem new_relA' {L : List (List Int)} {T : Tr} (hg : Good n T) (hL : SameL T L) (hl : T.lits = []) (hs : T.starts = []) (hr : rightB (n : Int) L = true) (hL6 : L.length ≤ 300000) : RelA n T (newR n L) := by
  have h := new_relA hr hL6
  refine ⟨⟨rfl, hL, hr, by rw [hs]; rfl, fun i hi => ?_, by rw [hs]; rfl, fun i hi => ?_, h.Al, h.A3⟩, fun x => ?_⟩
  · rw [hs] at hi; exact absurd hi (Nat.not_lt_zero _)
  · rw [hs] at hi; exact absurd hi (Nat.not_lt_zero _)
  · rw [h.A x, hl]
    obtain ⟨_, _, e1, _⟩ := new_facts hr hL6
    rw [e1]

def PlayRel (W : World) (b p n i : Nat) (wr : World) : Prop := ∃ T R M S, Both W wr M S b p T R ∧ Good n T ∧ RelA n T R ∧ R.L.length ≤ 60 + i

/-- The act at hand. -/
theorem act_at {aa : Option Addr} {aq ac : Nat} {A : List ActV} (h : ReadsA W (.slice aa aq ac) A) {i : Nat} (hi : i < A.length) :
    ∃ ab off da dc, aa = some ⟨ab, off, none⟩ ∧ (∀ w, Below W.heap.size W w → w.cell? ⟨ab, off + i * 3, none⟩ = some (.int .i64 (A.getD i a0).op) ∧ w.cell? ⟨ab, off + i * 3 + 1, none⟩ = some (.int .i64 (A.getD i a0).n) ∧ w.cell? ⟨ab, off + i * 3 + 2, none⟩ = some (.slice da (A.getD i a0).c.length dc)) ∧
      ∀ S w, (∀ k, Old W k → S k) → Below W.heap.size W w → Stays S w fun w2 => Reads w2 (.slice da (A.getD i a0).c.length dc) (A.getD i a0).c := by
  obtain ⟨ab, off, da, dc, e, h0, h1, h2, h3⟩ := h.get hi
  have hlt : ab < W.heap.size := block_lt h0
  refine ⟨ab, off, da, dc, e, fun w hb => ⟨(hb.cell (p := ⟨ab, _, none⟩) hlt).trans h0, (hb.cell (p := ⟨ab, _, none⟩) hlt).trans h1, (hb.cell (p := ⟨ab, _, none⟩) hlt).trans h2⟩, fun S w hO hb w2 hk => ?_⟩
  exact h3.below (old_keep hb (hk.mono hO)) (Nat.le_refl _)

set_option maxRecDepth 1000000 in
set_option maxHeartbeats 8000000 in
theorem TrailPlays_walk {W : World} (n : Int) (s u : Value) (L : List (List Int)) (A : List ActV) (hn : In64 n) (hL : ReadsL W s L) (hLx : In64L L) (hA : ReadsA W u A) (hAx : ∀ c ∈ A, c.ok) :
    Calls Try.prog 4 #[.int .i64 n, s, u] W fun e W' => e = .returned (.bool true) ∧ Below W.heap.size W W' := by
  have HS := Lib.hid (shown_any W)
  have HL := Lib.hid hL
  have HLX := Lib.hid hLx
  have HA := Lib.hid hA
  have HAX := Lib.hid hAx
  obtain ⟨sa, sc, rfl⟩ := hL.form
  obtain ⟨aa, ac, rfl⟩ := hA.form
  obtain ⟨q, hq⟩ : ∃ q, L.length = q := ⟨_, rfl⟩
  obtain ⟨aq, haq⟩ : ∃ q, A.length = q := ⟨_, rfl⟩
  have HQ := Lib.hid hq
  have HAQ := Lib.hid haq
  rw [hq] at HL ⊢
  rw [haq] at HA ⊢
  clear hL hLx hA hAx hq haq
  go_enter Try.func4, Try.ntmps4
  go_wp2_with fail
  go_at_call 8
  refine HS.out.mono ?_
  rintro e w1 ⟨rfl, b1⟩
  have HSM := Lib.hid (small_any (readsL_old HL.out b1))
  have HFW := Lib.hid (few_any (HA.out.below b1 (Nat.le_refl _)))
  have B1 := Lib.hid b1
  clear b1 HS
  go_wp2_with fail
  go_at_call 9
  refine HSM.out.mono ?_
  rintro e w2 ⟨rfl, hw⟩
  obtain rfl := hw.symm
  clear HSM hw
  go_wp2_with fail
  go_at_call 17
  refine HFW.out.mono ?_
  rintro e w2 ⟨rfl, hw⟩
  obtain rfl := hw.symm
  clear HFW hw
  cases hsm : smallB L with
  | false =>
    go_wp2_with fail
    go_ret
    exact ⟨rfl, B1.out⟩
  | true =>
    obtain ⟨hl1, hl20⟩ := smallB_yes hsm
    rw [HQ.out] at hl1
    have HL20 := Lib.hid hl20
    clear hsm hl20
    cases hfw : fewB A with
    | false =>
      go_wp2_with fail
      go_ret
      exact ⟨rfl, B1.out⟩
    | true =>
      obtain ⟨ha1, ha20⟩ := fewB_yes hfw
      rw [HAQ.out] at ha1
      have HA20 := Lib.hid ha20
      clear hfw ha20
      by_cases hn1 : 100 < n
      · have hdn : decide (100 < n) = true := decide_eq_true hn1
        go_wp2_with fail
        go_ret
        exact ⟨rfl, B1.out⟩
      · have hdn : decide (100 < n) = false := decide_eq_false hn1
        have HN := Lib.hid (New_law n HL.out HLX.out (by rw [HQ.out]; exact hl1) B1.out)
        go_wp2_with fail
        go_at_call 10
        refine HN.out.mono ?_
        rintro e w2 ⟨b2, hcase⟩
        rcases hcase with ⟨hr, rfl⟩ | ⟨m, b, T0, rfl, hr, rfl, -, t2, g0, l0, e0, s0⟩
        · have HM := Lib.hid (NewM_no n (readsL_old HL.out b2) HLX.out (by rw [HQ.out]; omega) (fun c hc => by have := HL20.out c hc; omega) hr)
          have B2 := Lib.hid b2
          clear b2 HN hr
          go_wp2_with fail
          go_at_call 18
          refine HM.out.mono ?_
          rintro e w3 ⟨rfl, hw⟩
          obtain rfl := hw.symm
          clear hw
          go_wp2_with fail
          go_ret
          exact ⟨rfl, B2.out⟩
        · have HM := Lib.hid (NewM_law HL.out HLX.out (by rw [HQ.out]; exact hl1) HL20.out b2 hr t2)
          have HRA := Lib.hid (new_relA' g0 l0 e0 s0 hr (by rw [HQ.out]; omega))
          have G0 := Lib.hid g0
          clear b2 HN hr t2 g0 l0 e0 s0 B1
          go_wp2_with fail
          go_at_call 18
          refine HM.out.mono ?_
          rintro e w3 ⟨p, M, S, rfl, hboth⟩
          have REL0 : PlayRel W b p m 0 w3 := ⟨T0, _, M, S, hboth, G0.out, HRA.out, by show L.length ≤ 60 + 0; rw [HQ.out]; omega⟩
          clear hboth HM HRA G0
          clear hdn hn1
          go_wp2_with fail
          clear hn
          as_aux_lemma =>
          go_loopw [6, 14, 15, 16, 17] (fun _ v14 _ _ _ wr => ∃ i : Nat, i ≤ aq ∧ v14 = .int .i64 i ∧ PlayRel W b p m i wr) (fun _ v14 _ _ _ _ => aq - (intOf v14).toNat)
          case atStart => exact ⟨0, Nat.zero_le _, rfl, REL0⟩
          case round =>
            clear REL0
            obtain ⟨i, hi, rfl, T, R, M2, S2, hB, g, rA, hLL⟩ := hrel
            by_cases hlt : i < aq
            · have hiA : i < A.length := by rw [HAQ.out]; exact hlt
              obtain ⟨ab, off, da, dc, rfl, hc, hst⟩ := act_at HA.out hiA
              obtain ⟨c0, c1, c2⟩ := hc wr hB.be
              have hmem : A.getD i a0 ∈ A := mem_getD hiA
              have HD := Lib.hid (does_any hB g rA (by omega) (A.getD i a0) (hst S2 wr hB.o hB.be) (HAX.out _ hmem) (by have := HA20.out _ hmem; omega))
              have hi1 : (i : Int) < (aq : Int) := by omega
              have hi0 : (0 : Int) ≤ (i : Int) := by omega
              have HLL := Lib.hid hLL
              clear hB g rA hLL hc hst hmem hiA
              generalize A.getD i a0 = act at *
              generalize act.c.length = cl at *
              as_aux_lemma =>
              go_wp2_with fail
              go_at_call 19
              refine HD.out.mono ?_
              rintro e w4 ⟨on, T4, R4, M4, S4, rfl, hB4, g4, rA4, hL4, hS4⟩
              cases on with
              | false =>
                have HF := Lib.hid hB4.be
                clear hB4 g4 rA4 hL4 hS4 HD c0 c1 c2
                go_wp2_with fail
                go_ret
                exact ⟨rfl, HF.out⟩
              | true =>
                have rA4 := rA4 rfl
                have HB4 := Lib.hid hB4
                have HAL := Lib.hid (alike_any hB4 g4 rA4)
                have REL1 : Hid (∀ w5, Below w4.heap.size w4 w5 → PlayRel W b p m (i + 1) w5) := Lib.hid fun w5 b5 => ⟨T4, R4, M4, S4, hB4.below b5, g4, rA4, by have := HLL.out; omega⟩
                clear hB4 g4 rA4 hL4 hS4 HD c0 c1 c2
                go_wp2_with fail
                go_at_call 20
                refine HAL.out.mono ?_
                rintro e w5 ⟨rfl, b5⟩
                have REL2 := Lib.hid (REL1.out w5 b5)
                clear b5 REL1
                go_wp2_with fail
                go_roundw
                case rel => exact ⟨i + 1, by omega, by go_num, REL2.out⟩
                case measure => simp [intOf]; omega
            · obtain rfl : i = aq := by omega
              have HF := Lib.hid hB.be
              clear hB g rA hLL
              as_aux_lemma =>
              go_wp2_with fail
              go_ret
              exact ⟨rfl, HF.out⟩
end Go.Proofs.Ytngegkgmenfelaa
