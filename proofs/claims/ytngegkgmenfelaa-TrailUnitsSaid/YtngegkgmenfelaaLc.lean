/-
  The walk of TrailUnits.
-/
import Derived.Test.YtngegkgmenfelaaLb
namespace Go.Proofs.Ytngegkgmenfelaa
open Go.RowKit Go.Lib
attribute [local go_sem ↓] Go.wp_at_zero Go.wp_at_succ

/-- What Units told, for a statement. -/
def UnLaw (B : Nat → Prop) (m : Nat) (L : List (List Int)) (G : List Int) (fine : Bool) (v : Value) (w : World) : Prop :=
  (fine = false ∧ Bad m L G) ∨ ∃ A, fine = true ∧ Told m L G A ∧ Stays B w fun w2 => Reads w2 v A
/-- The trail, as it goes. -/
def UnT (W : World) (B : Nat → Prop) (b m : Nat) (L : List (List Int)) (G : List Int) (i : Nat) (on : Bool) (wr : World) : Prop :=
  ∃ T, TrailAt wr B b T ∧ Good m T ∧ SameL T L ∧ (∀ x ∈ T.lits, Der L (fun y => y ∈ G) x) ∧ (∀ x ∈ G.take i, x ∈ T.lits) ∧ (on = true → Closed T) ∧ (on = false → Bad m L G) ∧ Below W.heap.size W wr

theorem UnT.follow {W w' : World} {B : Nat → Prop} {b m i : Nat} {L : List (List Int)} {G : List Int} {T : Tr} {R : (Int × Bool) × Tr} (S : FollowSpec m L T R) (sub : ∀ x ∈ T.lits, Der L (fun y => y ∈ G) x) (all : ∀ x ∈ G.take i, x ∈ T.lits) (ht : TrailAt w' B b R.2) (hb : Below W.heap.size W w') : UnT W B b m L G i R.1.2 w' := by
  obtain ⟨more, em⟩ := S.more
  exact ⟨R.2, ht, S.good, S.same, units_sub sub S, fun x hx => by rw [em]; exact List.mem_append_left _ (all x hx), fun h => (S.yes h).2, fun h => units_conflict sub S h, hb⟩

theorem decE_seven {n : Nat} {T : Tr} (h : Good n T) {x : Int} (h0 : decE T x ≠ 0) (h1 : decE T x ≠ 1) : decE T x = 7 ∧ (valOf T x = 1 ∨ valOf T x = -1) := by
  unfold decE at *
  split at h0
  · rename_i hv
    rw [if_pos hv] at h1 ⊢
    split at h0
    · omega
    · rename_i hf
      rw [if_neg hf]
      refine ⟨rfl, ?_⟩
      have h3 := valOf_three h.ok.small x
      have : valOf T x ≠ 0 := fun e => hf (val_fact e)
      omega
  · rename_i hv
    rw [if_neg hv] at h1
    omega
theorem lits_decS {T : Tr} {x : Int} : (∀ y ∈ T.lits, y ∈ (decS T x).lits) ∧ (∀ y ∈ (decS T x).lits, y ∈ T.lits ∨ y = x) ∧ (decE T x = 0 → x ∈ (decS T x).lits) := by
  by_cases h0 : decE T x = 0
  · rw [(decS_lits h0).1]
    refine ⟨fun y hy => List.mem_append_left _ hy, fun y hy => ?_, fun _ => by simp⟩
    rcases List.mem_append.1 hy with hy | hy
    · exact .inl hy
    · exact .inr (List.mem_singleton.1 hy)
  · rw [decS_no h0]
    exact ⟨fun y hy => hy, fun y hy => .inl hy, fun h => absurd h h0⟩

set_option maxRecDepth 1000000 in
set_option maxHeartbeats 8000000 in
theorem TrailUnits_walk {W : World} (n : Int) (s u : Value) (L : List (List Int)) (G : List Int) (hn : In64 n) (hL : ReadsL W s L) (hLx : In64L L) (hG : Reads W u G) (hGx : ∀ x ∈ G, In64 x) :
    Calls Try.prog 7 #[.int .i64 n, s, u] W fun e W' => e = .returned (.bool true) ∧ Below W.heap.size W W' := by
  have HS := Lib.hid (shown_any W)
  have HL := Lib.hid hL
  have HLX := Lib.hid hLx
  have HG := Lib.hid hG
  have HGX := Lib.hid hGx
  obtain ⟨sa, sc, rfl⟩ := hL.form
  obtain ⟨ua, uc, rfl⟩ := hG.form
  obtain ⟨q, hq⟩ : ∃ q, L.length = q := ⟨_, rfl⟩
  obtain ⟨gq, hgq⟩ : ∃ q, G.length = q := ⟨_, rfl⟩
  have HQ := Lib.hid hq
  have HGQ := Lib.hid hgq
  rw [hq] at HL ⊢
  rw [hgq] at HG ⊢
  clear hL hLx hG hGx hq hgq
  go_enter Try.func7, Try.ntmps7
  go_wp2_with fail
  go_at_call 8
  refine HS.out.mono ?_
  rintro e w1 ⟨rfl, b1⟩
  have HSM := Lib.hid (small_any (readsL_old HL.out b1))
  have B1 := Lib.hid b1
  clear b1 HS
  go_wp2_with fail
  go_at_call 9
  refine HSM.out.mono ?_
  rintro e w2 ⟨rfl, hw⟩
  obtain rfl := hw.symm
  clear HSM hw
  cases hsm : smallB L with
  | false =>
    go_wp2_with fail
    go_ret
    exact ⟨rfl, B1.out⟩
  | true =>
    obtain ⟨hl1, hl20⟩ := smallB_yes hsm
    rw [HQ.out] at hl1
    have HL20 := Lib.hid hl20
    clear hsm hl20
    by_cases hn1 : 100 < n
    · have hdn : decide (100 < n) = true := decide_eq_true hn1
      go_wp2_with fail
      go_ret
      exact ⟨rfl, B1.out⟩
    · have hdn : decide (100 < n) = false := decide_eq_false hn1
      by_cases hg1 : 60 < gq
      · have hd : decide ((60 : Int) < (gq : Int)) = true := decide_eq_true (by omega)
        go_wp2_with fail
        go_ret
        exact ⟨rfl, B1.out⟩
      · have hg2 : decide ((60 : Int) < (gq : Int)) = false := decide_eq_false (by omega)
        have HN := Lib.hid (New_law n HL.out HLX.out (by rw [HQ.out]; exact hl1) B1.out)
        go_wp2_with fail
        go_at_call 10
        refine HN.out.mono ?_
        rintro e w2 ⟨b2, hcase⟩
        rcases hcase with ⟨hr, rfl⟩ | ⟨m, b, T0, rfl, hr, rfl, -, t2, g0, l0, e0, -⟩
        · have HR := Lib.hid (Right_any n (readsL_old HL.out b2) HLX.out)
          rw [hr] at HR
          have B2 := Lib.hid b2
          clear b2 HN hr
          go_wp2_with fail
          go_at_call 31
          refine HR.out.mono ?_
          rintro e w3 ⟨rfl, b3⟩
          have B3 := Lib.hid (B2.out.trans (b3.mono B2.out.size))
          clear b3
          go_wp2_with fail
          go_ret
          exact ⟨rfl, B3.out⟩
        · have HU := Lib.hid (Units_ok m (readsL_old HL.out b2) (reads_old HG.out b2) HLX.out HGX.out hr (by rw [HGQ.out]; omega))
          have B2 := Lib.hid b2
          have T2 := Lib.hid t2
          have G0 := Lib.hid g0
          have L0 := Lib.hid l0
          have E0 := Lib.hid e0
          have hm100 : m ≤ 100 := by omega
          clear b2 HN t2 g0 l0 B1 e0 hr hn
          go_wp2_with fail
          clear hdn hg2 hn1
          go_at_call 32
          refine HU.out.mono ?_
          rintro e w3 ⟨b3, hcase⟩
          have hun : ∃ (fine : Bool) (v : Value) (B : Nat → Prop), e = .returned (.tuple #[v, .bool fine]) ∧ (∀ k, Old W k → B k) ∧ TrailAt w3 B b T0 ∧ UnLaw B m L G fine v w3 ∧ ∃ va vl vc, v = .slice va vl vc ∧ (fine = true → vl = m) := by
            rcases hcase with ⟨hb, rfl⟩ | ⟨A, v, ht, rfl, hr, hf⟩
            · exact ⟨false, _, Old W, rfl, fun _ h => h, T2.out.below b3 (Nat.le_refl _), .inl ⟨rfl, hb⟩, none, 0, 0, rfl, fun h => by cases h⟩
            · obtain ⟨va, vc, ev⟩ := hr.reads.form
              exact ⟨true, v, _, rfl, fun k hk => .inl hk, T2.out.more b3, .inr ⟨A, rfl, ht, fun w2 hk => Row.reads (hr.kept fun k hv => hk.block k (.inr ⟨hf k hv, hr.lt k hv⟩))⟩, va, _, vc, ev, fun _ => ht.len⟩
          obtain ⟨fine, v, B, rfl, hBO, t3, hlaw, va, vl, vc, rfl, hvl⟩ := hun
          have HLAW := Lib.hid hlaw
          have HBO := Lib.hid hBO
          have HVL := Lib.hid hvl
          have B3 := Lib.hid (B2.out.trans (b3.mono B2.out.size))
          have HF := Lib.hid (Follow_any t3 G0.out)
          have HSP := Lib.hid (G0.out.followSpec L0.out)
          clear hcase b3 T2 hlaw hBO B2 HU t3 hvl
          generalize followT T0 = R at *
          obtain ⟨⟨fk, on0⟩, T1⟩ := R
          go_wp2_with fail
          go_at_call 28
          refine HF.out.mono ?_
          rintro e w4 ⟨rfl, k4, t4⟩
          have REL0 : UnT W B b m L G 0 on0 w4 ∧ Keep B w3 w4 := ⟨UnT.follow HSP.out (fun x hx => by rw [E0.out] at hx; cases hx) (fun x hx => by rw [List.take_zero] at hx; cases hx) t4 (old_keep B3.out (k4.mono HBO.out)), k4⟩
          clear HF HSP k4 t4
          go_wp2_with fail
          obtain ⟨wo, hwo⟩ : ∃ wo : World, wo = w4 := ⟨_, rfl⟩
          as_aux_lemma =>
          rw [← hwo] at REL0 ⊢
          clear hwo
          go_loopw [6, 14, 15, 16] (fun _ v14 v15 _ wr => ∃ (i : Nat) (on : Bool), i ≤ gq ∧ v15 = .int .i64 i ∧ v14 = .bool on ∧ UnT W B b m L G i on wr ∧ Keep B w3 wr) (fun _ _ v15 _ _ => gq - (intOf v15).toNat)
          case atStart => exact ⟨0, on0, Nat.zero_le _, rfl, rfl, REL0⟩
          case round =>
            clear REL0
            obtain ⟨i, on, hi, rfl, rfl, ⟨T, t5, g5, l5, sub, all, hcl, hbad, b5⟩, k5⟩ := hrel
            have K5 := Lib.hid k5
            have B5 := Lib.hid b5
            clear k5 b5
            cases on with
            | false =>
              have HFI : Hid (fine = false) := Lib.hid (by
                rcases HLAW.out with ⟨h, _⟩ | ⟨A, _, h, _⟩
                · exact h
                · exact absurd (hbad rfl) h.notBad)
              obtain rfl := HFI.out
              clear t5 g5 l5 sub all hcl hbad HFI
              by_cases hlt : i < gq
              · have hi1 : (i : Int) < (gq : Int) := by omega
                as_aux_lemma =>
                go_wp2_with fail
                go_ret
                exact ⟨rfl, B5.out⟩
              · have hi1 : ¬ (i : Int) < (gq : Int) := by omega
                as_aux_lemma =>
                go_wp2_with fail
                go_ret
                exact ⟨rfl, B5.out⟩
            | true =>
              have hcl := hcl rfl
              clear hbad
              by_cases hlt : i < gq
              · have hiG : i < G.length := by rw [HGQ.out]; exact hlt
                obtain ⟨bb, off, rfl, ci⟩ := (reads_old HG.out B5.out).get hiG
                have hxG : G.getD i 0 ∈ G := mem_getD hiG
                have HX1 := HGX.out _ hxG
                have HTS := take_snoc hiG
                have HD := Lib.hid (Decide_any t5 g5 (G.getD i 0) HX1)
                have hi1 : (i : Int) < (gq : Int) := by omega
                have hi0 : (0 : Int) ≤ (i : Int) := by omega
                have HCK : Hid (∀ w', Keep B wr w' → w'.cell? ⟨bb, off + i, none⟩ = some (.int .i64 (G.getD i 0))) := Lib.hid fun w' hk => by
                  obtain ⟨bb', off', e, h⟩ := (reads_old HG.out (old_keep B5.out (hk.mono HBO.out))).get hiG
                  injection e with e
                  injection e with e1 e2 _
                  subst e1 e2
                  exact h
                generalize hx : G.getD i 0 = x at *
                by_cases h1 : decE T x = 1
                · have HFI : Hid (fine = false) := Lib.hid (by
                    rcases HLAW.out with ⟨h, _⟩ | ⟨A, _, h, _⟩
                    · exact h
                    · exact absurd (units_bad g5 sub hxG (.inl h1)) h.notBad)
                  obtain rfl := HFI.out
                  rw [h1] at HD
                  clear t5 g5 l5 sub all hcl HFI h1 hiG hxG HX1 HTS hx
                  as_aux_lemma =>
                  go_wp2_with fail
                  go_at_call 27
                  refine HD.out.mono ?_
                  rintro e w6 ⟨rfl, k6, -⟩
                  have B6 := Lib.hid (old_keep B5.out (k6.mono HBO.out))
                  clear k6
                  go_wp2_with fail
                  go_ret
                  exact ⟨rfl, B6.out⟩
                · by_cases h0 : decE T x = 0
                  · rw [h0] at HD
                    have G6 := Lib.hid (g5.decS x)
                    have SUB6 : Hid (∀ y ∈ (decS T x).lits, Der L (fun y => y ∈ G) y) := Lib.hid fun y hy => by
                      rcases (lits_decS (T := T) (x := x)).2.1 y hy with h | h
                      · exact sub y h
                      · rw [h]; exact .base hxG
                    have ALL6 : Hid (∀ y ∈ G.take (i + 1), y ∈ (decS T x).lits) := Lib.hid fun y hy => by
                      rw [HTS] at hy
                      rcases List.mem_append.1 hy with hy | hy
                      · exact (lits_decS).1 y (all y hy)
                      · rw [List.mem_singleton.1 hy]; exact (lits_decS).2.2 h0
                    have HSP := Lib.hid ((g5.decS x).followSpec (l5.decS x))
                    generalize decS T x = T6 at *
                    clear t5 g5 l5 sub all hcl h0 h1 hiG hxG HX1 HTS hx HCK
                    generalize hR : followT T6 = R at *
                    as_aux_lemma =>
                    go_wp2_with fail
                    go_at_call 27
                    refine HD.out.mono ?_
                    rintro e w6 ⟨rfl, k6, t6⟩
                    have HF := Lib.hid (Follow_any t6 G6.out)
                    rw [hR] at HF
                    have K6 := Lib.hid k6
                    clear hR t6 k6 ci
                    obtain ⟨⟨fk2, on2⟩, T7⟩ := R
                    go_wp2_with fail
                    go_at_call 28
                    refine HF.out.mono ?_
                    rintro e w7 ⟨rfl, k7, t7⟩
                    have K7 := Lib.hid (K6.out.trans k7)
                    have REL1 : UnT W B b m L G (i + 1) on2 w7 := UnT.follow HSP.out SUB6.out ALL6.out t7 (old_keep B5.out (K7.out.mono HBO.out))
                    clear k7 t7 HF HSP
                    go_wp2_with fail
                    go_roundw
                    case rel => exact ⟨i + 1, on2, by omega, by go_num, rfl, REL1, K5.out.trans K7.out⟩
                    case measure => simp [intOf]; omega
                  · obtain ⟨h7, hv⟩ := decE_seven g5 h0 h1
                    rw [h7, decS_no h0] at HD
                    have HVA : Hid (∀ w', TrailAt w' B b T → Calls Try.prog 24 #[.pointer (some ⟨b, 0, none⟩), .int .i64 x] w' fun e w'' => e = .returned (.int .i64 (valOf T x)) ∧ Below w'.heap.size w' w'') := Lib.hid fun w' ht => Value_any ht x HX1 (by rw [g5.ok.fl]; exact g5.ok.n2) g5.ok.small
                    rcases hv with hv | hv
                    · rw [hv] at HVA
                      have G5 := Lib.hid g5
                      have SUB5 := Lib.hid sub
                      have ALL5 : Hid (∀ y ∈ G.take (i + 1), y ∈ T.lits) := Lib.hid fun y hy => by
                        rw [HTS] at hy
                        rcases List.mem_append.1 hy with hy | hy
                        · exact all y hy
                        · rw [List.mem_singleton.1 hy]; exact (g5.lit x).2 hv
                      have HSP := Lib.hid (g5.followSpec l5)
                      clear t5 g5 l5 sub all hcl h0 h1 h7 hv hiG hxG HX1 HTS hx
                      generalize hR : followT T = R at *
                      as_aux_lemma =>
                      go_wp2_with fail
                      go_at_call 27
                      refine HD.out.mono ?_
                      rintro e w6 ⟨rfl, k6, t6⟩
                      have c6 := HCK.out w6 k6
                      have HV6 := Lib.hid (HVA.out w6 t6)
                      have K6 := Lib.hid k6
                      have T6 := Lib.hid t6
                      clear t6 k6 ci HVA
                      go_wp2_with fail
                      go_at_call 24
                      refine HV6.out.mono ?_
                      rintro e w8 ⟨rfl, b8⟩
                      have t8 := T6.out.below b8 (Nat.le_refl _)
                      have K8 := Lib.hid (K6.out.below b8 T6.out.there)
                      have HF := Lib.hid (Follow_any t8 G5.out)
                      rw [hR] at HF
                      clear hR t8 b8 c6 K6 T6 HV6
                      obtain ⟨⟨fk2, on2⟩, T7⟩ := R
                      go_wp2_with fail
                      go_at_call 28
                      refine HF.out.mono ?_
                      rintro e w7 ⟨rfl, k7, t7⟩
                      have K7 := Lib.hid (K8.out.trans k7)
                      have REL1 : UnT W B b m L G (i + 1) on2 w7 := UnT.follow HSP.out SUB5.out ALL5.out t7 (old_keep B5.out (K7.out.mono HBO.out))
                      clear k7 t7 HF HSP
                      go_wp2_with fail
                      go_roundw
                      case rel => exact ⟨i + 1, on2, by omega, by go_num, rfl, REL1, K5.out.trans K7.out⟩
                      case measure => simp [intOf]; omega
                    · have HFI : Hid (fine = false) := Lib.hid (by
                        rcases HLAW.out with ⟨h, _⟩ | ⟨A, _, h, _⟩
                        · exact h
                        · exact absurd (units_bad g5 sub hxG (.inr hv)) h.notBad)
                      obtain rfl := HFI.out
                      rw [hv] at HVA
                      clear t5 g5 l5 sub all hcl h0 h1 h7 hv hiG hxG HX1 HTS hx HFI
                      as_aux_lemma =>
                      go_wp2_with fail
                      go_at_call 27
                      refine HD.out.mono ?_
                      rintro e w6 ⟨rfl, k6, t6⟩
                      have c6 := HCK.out w6 k6
                      have HV6 := Lib.hid (HVA.out w6 t6)
                      have K6 := Lib.hid k6
                      have T6 := Lib.hid t6
                      clear t6 k6 ci HVA
                      go_wp2_with fail
                      go_at_call 24
                      refine HV6.out.mono ?_
                      rintro e w8 ⟨rfl, b8⟩
                      have B8 := Lib.hid (old_keep B5.out ((K6.out.below b8 T6.out.there).mono HBO.out))
                      clear b8 c6 K6 T6 HV6
                      go_wp2_with fail
                      go_ret
                      exact ⟨rfl, B8.out⟩
              · obtain rfl : i = gq := by omega
                have all2 : ∀ x ∈ G, x ∈ T.lits := by rw [take_all HGQ.out] at all; exact all
                have hnb := units_end g5 l5 hcl sub all2
                have hf : ∃ A, fine = true ∧ Told m L G A ∧ Stays B w3 fun w2 => Reads w2 (.slice va vl vc) A := by
                  rcases HLAW.out with ⟨_, h⟩ | h
                  · exact absurd h hnb
                  · exact h
                obtain ⟨A, rfl, htold, hst⟩ := hf
                obtain rfl := HVL.out rfl
                have HVAL : Hid (∀ v, valOf T v = litA A v) := Lib.hid fun v => units_val g5 l5 hcl sub all2 htold v
                have HTOLD := Lib.hid htold
                have HST := Lib.hid (hst.step K5.out)
                have G5 := Lib.hid g5
                have T5 := Lib.hid t5
                clear t5 g5 l5 sub all hcl all2 hnb htold hst HLAW hlt hi HVL
                go_wp2_with fail
                obtain ⟨wo, hwo⟩ : ∃ wo : World, wo = wr := ⟨_, rfl⟩
                rw [← hwo] at HST T5 B5 ⊢
                clear hwo K5
                as_aux_lemma =>
                go_loopw [6, 17] (fun _ v17 wr => ∃ k : Nat, k ≤ vl ∧ v17 = .int .i64 ((k : Int) + 1) ∧ Hid (Below wo.heap.size wo wr)) (fun _ v17 _ => vl + 1 - (intOf v17).toNat)
                case atStart => exact ⟨0, Nat.zero_le _, rfl, Lib.hid (Below.refl _ _)⟩
                case round =>
                  obtain ⟨k, hk, rfl, HBZ⟩ := hrel
                  by_cases hlt : k < vl
                  · have hkA : k < A.length := by rw [HTOLD.out.len]; exact hlt
                    obtain ⟨bb, off, rfl, ck⟩ := (HST.out wr ((Keep.refl B wo).below HBZ.out T5.out.there)).get hkA
                    have e1 : litA A ((k : Int) + 1) = A.getD k 0 := by
                      unfold litA
                      rw [if_pos ((okLit_iff _ _).2 (by omega)), if_neg (by omega), show ((k : Int) + 1).natAbs - 1 = k from by omega]
                    have HCELL : ∀ w', Below wo.heap.size wo w' → w'.cell? ⟨bb, off + k, none⟩ = some (.int .i64 (A.getD k 0)) := fun w' hb => by
                      obtain ⟨bb', off', e, h⟩ := (HST.out w' ((Keep.refl B wo).below hb T5.out.there)).get hkA
                      injection e with e
                      injection e with e1 e2 _
                      subst e1 e2
                      exact h
                    have HVS : Hid (∀ w', Hid (Below wo.heap.size wo w') ∧ w'.cell? ⟨bb, off + k, none⟩ = some (.int .i64 (A.getD k 0)) →
                        Calls Try.prog 24 #[.pointer (some ⟨b, 0, none⟩), .int .i64 ((k : Int) + 1)] w' fun e w'' => e = .returned (.int .i64 (A.getD k 0)) ∧ (Hid (Below wo.heap.size wo w'') ∧ w''.cell? ⟨bb, off + k, none⟩ = some (.int .i64 (A.getD k 0)))) := Lib.hid fun w' hs => by
                      have := Value_any (T5.out.below hs.1.out (Nat.le_refl _)) ((k : Int) + 1) (by unfold In64; omega) (by rw [G5.out.ok.fl]; exact G5.out.ok.n2) G5.out.ok.small
                      rw [HVAL.out, e1] at this
                      refine this.mono ?_
                      rintro e w'' ⟨rfl, b2⟩
                      have hb := hs.1.out.trans (b2.mono hs.1.out.size)
                      exact ⟨rfl, Lib.hid hb, HCELL w'' hb⟩
                    have hk1 : (k : Int) + 1 ≤ (vl : Int) := by omega
                    have hk2 : (k : Int) < (vl : Int) := by omega
                    have hk0 : (0 : Int) ≤ (k : Int) := by omega
                    have hw1 : IntKind.i64.wrap ((k : Int) + 1 - 1) = (k : Int) := by rw [show (k : Int) + 1 - 1 = k from by omega]; exact wrap_i64 (by omega)
                    have hw2 : IntKind.i64.wrap (k : Int) = (k : Int) := wrap_i64 (by omega)
                    have hw3 : wrap64 (k : Int) = (k : Int) := by unfold wrap64; omega
                    have hw4 : wrap64 ((k : Int) + 1 - 1) = (k : Int) := by unfold wrap64; omega
                    generalize A.getD k 0 = x at *
                    have start : Hid (Below wo.heap.size wo wr.drew) ∧ wr.drew.cell? ⟨bb, off + k, none⟩ = some (.int .i64 x) := ⟨Lib.hid HBZ.out.drew, ck⟩
                    clear hkA e1 HCELL ck HBZ
                    as_aux_lemma =>
                    go_wp2_with fail
                    go_region_held3 (fun w' => Hid (Below wo.heap.size wo w') ∧ w'.cell? ⟨bb, off + k, none⟩ = some (.int .i64 x)) (assumption) ((go_at_call 24; with_reducible refine Calls.mono (HVS.out _ (by assumption)) ?_; rintro e w' ⟨rfl, hS'⟩))
                    rename_i hfin
                    have HF := Lib.hid hfin.1.out
                    clear hfin start
                    go_wp2_with fail
                    go_roundw
                    case rel => exact ⟨k + 1, by omega, by go_num, Lib.hid HF.out⟩
                    case measure => simp [intOf]; omega
                  · obtain rfl : k = vl := by omega
                    as_aux_lemma =>
                    go_wp2_with fail
                    go_ret
                    exact ⟨rfl, B5.out.trans (HBZ.out.mono B5.out.size)⟩
end Go.Proofs.Ytngegkgmenfelaa
