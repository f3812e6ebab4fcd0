/-
  The walk of TrailFalse.
-/
import Derived.Test.YtngegkgmenfelaaLa
namespace Go.Proofs.Ytngegkgmenfelaa
open Go.RowKit Go.Lib
attribute [local go_sem ↓] Go.wp_at_zero Go.wp_at_succ

/-- What a trail tells of the variables. -/
def valsOf (T : Tr) (k : Nat) : List Int := (List.range k).map fun (i : Nat) => valOf T ((i : Int) + 1)
theorem valsOf_snoc (T : Tr) (k : Nat) : valsOf T (k + 1) = valsOf T k ++ [valOf T ((k : Int) + 1)] := by unfold valsOf; rw [List.range_succ, List.map_append]; rfl
theorem valsOf_len (T : Tr) (k : Nat) : (valsOf T k).length = k := by simp [valsOf]
theorem valsOf_three {n : Nat} {T : Tr} (h : Good n T) (k : Nat) : Three (valsOf T k) := fun a ha => by
  obtain ⟨i, _, rfl⟩ := List.mem_map.1 ha
  exact valOf_three h.ok.small _
theorem valsOf_lit {n : Nat} {T : Tr} (x : Int) (hx : okLit x n = true) : litA (valsOf T n) x = valOf T x := by
  have hx' := (okLit_iff x n).1 hx
  unfold litA
  rw [valsOf_len, if_pos hx]
  have e : (valsOf T n).getD (x.natAbs - 1) 0 = valOf T (x.natAbs : Nat) := by
    unfold valsOf
    rw [List.getD_eq_getElem?_getD, List.getElem?_map, List.getElem?_range (by omega)]
    show valOf T (((x.natAbs - 1 : Nat) : Int) + 1) = _
    congr 1
    omega
  rw [e]
  by_cases h0 : x < 0
  · rw [if_pos h0, show ((x.natAbs : Nat) : Int) = -x from by omega, valOf_neg]; omega
  · rw [if_neg h0, show ((x.natAbs : Nat) : Int) = x from by omega]

def decRel (W : World) (b m : Nat) (L : List (List Int)) (wr : World) : Prop := ∃ T, TrailAt wr (Old W) b T ∧ Good m T ∧ SameL T L ∧ Below W.heap.size W wr
def valRel (W : World) (b : Nat) (T : Tr) (k : Nat) (v : Value) (wr : World) : Prop := Row wr 3 1 v (ints (valsOf T k)) ∧ Fresh W v ∧ Below W.heap.size W wr ∧ ∃ B, TrailAt wr B b T ∧ ∀ k, v.ownBlock = some k → B k

/-- A row beside the trail has grown. -/
theorem TrailAt.grown {w w' : World} {B : Nat → Prop} {b : Nat} {T : Tr} {row : Option Nat} (h : TrailAt w B b T) (hg : w.grownBy w' row) (hr : ∀ k, row = some k → B k) : TrailAt w' (fun k => B k ∨ (w.heap.size ≤ k ∧ k < w'.heap.size)) b T := by
  obtain ⟨val, ct, hm, ht⟩ := h
  refine ⟨val, ct, ?_, ht⟩
  refine ⟨(hg.block b (lt_of_block hm.box) (fun e => hm.base (hr b e.symm))).trans hm.box, fun s => (hm.row s).grown hg ?_, hm.apart, hm.nb, fun hk => ?_, fun s k hs hk => ?_, fun k hk => ?_⟩
  · cases hk : (val s).ownBlock with
    | none => exact .inl rfl
    | some k => exact .inr fun e => hm.nB s k hk (hr k e.symm)
  · rcases hk with hk | hk
    · exact hm.base hk
    · have := lt_of_block hm.box; omega
  · rcases hk with hk | hk
    · exact hm.nB s k hs hk
    · have := (hm.row s).lt k hs; omega
  · rcases hk with hk | hk
    · exact Nat.lt_of_lt_of_le (hm.lt k hk) hg.size
    · exact hk.2
theorem valRel.next {W w w' : World} {b k : Nat} {T : Tr} {v v' : Value} (hf : Fresh W v) (hb : Below W.heap.size W w) (hB : ∃ B, TrailAt w B b T ∧ ∀ k, v.ownBlock = some k → B k) (hr : Row w' 3 1 v' (ints (valsOf T k) ++ [.int .i64 (valOf T ((k : Int) + 1))])) (hg : Grew w w' v v') : valRel W b T (k + 1) v' w' := by
  obtain ⟨B, ht, hvB⟩ := hB
  refine ⟨?_, fun j hj => ?_, hb.grown hg.1 hb.size (fun j hj => hf j hj), _, ht.grown hg.1 hvB, fun j hj => ?_⟩
  · rw [valsOf_snoc]; unfold ints at hr ⊢; rw [List.map_append]; exact hr
  · rcases hg.2 with e | ⟨i, e, hi⟩
    · exact hf j (by rw [← e]; exact hj)
    · rw [e] at hj; injection hj with hj; have := hb.size; omega
  · rcases hg.2 with e | ⟨i, e, hi⟩
    · exact .inl (hvB j (by rw [← e]; exact hj))
    · rw [e] at hj; injection hj with hj
      exact .inr ⟨by omega, hr.lt j (by rw [e, hj])⟩

set_option maxRecDepth 1000000 in
set_option maxHeartbeats 8000000 in
theorem TrailFalse_walk {W : World} (n : Int) (s u : Value) (L : List (List Int)) (G : List Int) (hn : In64 n) (hL : ReadsL W s L) (hLx : In64L L) (hG : Reads W u G) (hGx : ∀ x ∈ G, In64 x) :
    Calls Try.prog 6 #[.int .i64 n, s, u] W fun e W' => e = .returned (.bool true) ∧ Below W.heap.size W W' := by
  have HS := Lib.hid (shown_any W)
  have HL := Lib.hid hL
  have HLX := Lib.hid hLx
  have HG := Lib.hid hG
  have HGX := Lib.hid hGx
  obtain ⟨sa, sc, rfl⟩ := hL.form
  obtain ⟨ua, uc, rfl⟩ := hG.form
  obtain ⟨q, hq⟩ : ∃ q, L.length = q := ⟨_, rfl⟩
  obtain ⟨gq, hgq⟩ : ∃ q, G.length = q := ⟨_, rfl⟩
  have HQ := Lib.hid hq
  have HGQ := Lib.hid hgq
  rw [hq] at HL ⊢
  rw [hgq] at HG ⊢
  clear hL hLx hG hGx hq hgq
  go_enter Try.func6, Try.ntmps6
  go_wp2_with fail
  go_at_call 8
  refine HS.out.mono ?_
  rintro e w1 ⟨rfl, b1⟩
  have HSM := Lib.hid (small_any (readsL_old HL.out b1))
  have B1 := Lib.hid b1
  clear b1 HS
  go_wp2_with fail
  go_at_call 9
  refine HSM.out.mono ?_
  rintro e w2 ⟨rfl, hw⟩
  obtain rfl := hw.symm
  clear HSM hw
  cases hsm : smallB L with
  | false =>
    go_wp2_with fail
    go_ret
    exact ⟨rfl, B1.out⟩
  | true =>
    obtain ⟨hl1, hl20⟩ := smallB_yes hsm
    rw [HQ.out] at hl1
    have HL20 := Lib.hid hl20
    clear hsm hl20
    by_cases hn1 : 100 < n
    · have hdn : decide (100 < n) = true := decide_eq_true hn1
      go_wp2_with fail
      go_ret
      exact ⟨rfl, B1.out⟩
    · have hdn : decide (100 < n) = false := decide_eq_false hn1
      by_cases hg1 : 60 < gq
      · have hd : decide ((60 : Int) < (gq : Int)) = true := decide_eq_true (by omega)
        go_wp2_with fail
        go_ret
        exact ⟨rfl, B1.out⟩
      · have hg2 : decide ((60 : Int) < (gq : Int)) = false := decide_eq_false (by omega)
        have HN := Lib.hid (New_law n HL.out HLX.out (by rw [HQ.out]; exact hl1) B1.out)
        go_wp2_with fail
        go_at_call 10
        refine HN.out.mono ?_
        rintro e w2 ⟨b2, hcase⟩
        rcases hcase with ⟨-, rfl⟩ | ⟨m, b, T0, rfl, -, rfl, -, t2, g0, l0, -, -⟩
        · have B2 := Lib.hid b2
          clear b2 HN
          go_wp2_with fail
          go_ret
          exact ⟨rfl, B2.out⟩
        · have REL0 : decRel W b m L w2 := ⟨T0, t2, g0, l0, b2⟩
          clear b2 HN t2 g0 l0 B1
          clear hdn hg2
          go_wp2_with fail
          clear hn
          as_aux_lemma =>
          go_loopw [11] (fun v11 wr => ∃ k : Nat, k ≤ gq ∧ v11 = .int .i64 k ∧ decRel W b m L wr) (fun v11 _ => gq - (intOf v11).toNat)
          case atStart => exact ⟨0, Nat.zero_le _, rfl, REL0⟩
          case round =>
            clear REL0
            obtain ⟨k, hk, rfl, T, t3, g3, l3, b3⟩ := hrel
            by_cases hlt : k < gq
            · have hkG : k < G.length := by rw [HGQ.out]; exact hlt
              obtain ⟨bb, off, rfl, ck⟩ := (reads_old HG.out b3).get hkG
              have HD := Lib.hid (Decide_any t3 g3 (G.getD k 0) (HGX.out _ (mem_getD hkG)))
              have G3 := Lib.hid (g3.decS (G.getD k 0))
              have L3 := Lib.hid (l3.decS (G.getD k 0))
              have B3 := Lib.hid b3
              have hk1 : (k : Int) < (gq : Int) := by omega
              have hk0 : (0 : Int) ≤ (k : Int) := by omega
              generalize decS T (G.getD k 0) = T2 at *
              generalize decE T (G.getD k 0) = v at *
              generalize G.getD k 0 = x at *
              clear t3 g3 l3 b3 hkG
              as_aux_lemma =>
              go_wp2_with fail
              go_at_call 27
              refine HD.out.mono ?_
              rintro e w4 ⟨rfl, k4, t4⟩
              have REL1 : decRel W b m L w4 := ⟨T2, t4, G3.out, L3.out, old_keep B3.out k4⟩
              clear k4 t4 ck
              go_wp2_with fail
              go_roundw
              case rel => exact ⟨k + 1, by omega, by go_num, REL1⟩
              case measure => simp [intOf]; omega
            · obtain rfl : k = gq := by omega
              clear hlt hk hg1 HG
              have HF := Lib.hid (Follow_any t3 g3)
              have HSP := Lib.hid (g3.followSpec l3)
              have B3 := Lib.hid b3
              clear t3 g3 l3 b3
              generalize followT T = R at *
              obtain ⟨⟨fk, on⟩, T4⟩ := R
              go_wp2_with fail
              go_at_call 28
              refine HF.out.mono ?_
              rintro e w4 ⟨rfl, k4, t4⟩
              have t4 : TrailAt w4 (Old W) b T4 := t4
              have g4 : Good m T4 := HSP.out.good
              have l4 : SameL T4 L := HSP.out.same
              have B4 := Lib.hid (old_keep B3.out k4)
              clear HF k4 B3
              cases on with
              | false =>
                obtain ⟨p, hp, hpm, hz⟩ := HSP.out.no rfl
                have hp : fk = (p : Nat) := hp
                have hpm : p < T4.L.length := hpm
                subst hp
                have HCL := Lib.hid (Clauses_any t4)
                have HFL := Lib.hid (fails_any t4 g4 p hpm hz)
                generalize T4.L.length = ll at *
                have hp0 : (0 : Int) ≤ (p : Int) := by omega
                have hp1 : decide ((p : Int) < (ll : Int)) = true := decide_eq_true (by omega)
                clear HSP t4 g4 l4 hz hpm
                as_aux_lemma =>
                go_wp2_with fail
                go_at_call 26
                refine HCL.out.mono ?_
                rintro e w9 ⟨rfl, hw⟩
                obtain rfl := hw.symm
                clear hw
                go_wp2_with fail
                go_at_call 29
                refine HFL.out.mono ?_
                rintro e w5 ⟨rfl, b5⟩
                have B5 := Lib.hid (B4.out.trans (b5.mono B4.out.size))
                clear b5
                go_wp2_with fail
                go_ret
                exact ⟨rfl, B5.out⟩
              | true =>
                obtain ⟨hfk, hc4⟩ := HSP.out.yes rfl
                have hfk : fk = -1 := hfk
                have hc4 : Closed T4 := hc4
                subst hfk
                have REL0 : valRel W b T4 0 (.slice none 0 0) w4 := ⟨Row.nil _ _ _, fun k hk => by simp [Value.ownBlock] at hk, B4.out, Old W, t4, fun k hk => by simp [Value.ownBlock] at hk⟩
                have G4 := Lib.hid g4
                have L4 := Lib.hid l4
                have C4 := Lib.hid hc4
                clear HSP t4 g4 l4 hc4 B4
                go_wp2_with fail
                obtain ⟨wo, hwo⟩ : ∃ wo : World, wo = w4 := ⟨_, rfl⟩
                have hm100 : m ≤ 100 := by omega
                clear hn1
                as_aux_lemma =>
                rw [← hwo] at REL0 ⊢
                clear hwo
                go_loopw [14, 15] (fun v14 v15 wr => ∃ (k : Nat) (va : Value), k ≤ m ∧ v15 = .int .i64 ((k : Int) + 1) ∧ va = v14 ∧ valRel W b T4 k va wr) (fun _ v15 _ => m + 1 - (intOf v15).toNat)
                case atStart => exact ⟨0, _, Nat.zero_le _, rfl, rfl, REL0⟩
                case round =>
                  clear REL0
                  obtain ⟨k, va, hk, rfl, rfl, hrow, hfr, hbel, hB⟩ := hrel
                  by_cases hlt : k < m
                  · obtain ⟨B5, t5, hv5⟩ := hB
                    have HV := Lib.hid (Value_any t5 ((k : Int) + 1) (by unfold In64; omega) (by rw [G4.out.ok.fl]; exact G4.out.ok.n2) G4.out.ok.small)
                    have HNX : Hid (∀ w6, Below wr.heap.size wr w6 → Row w6 3 1 va (ints (valsOf T4 k)) ∧ ∀ v' w', Row w' 3 1 v' (ints (valsOf T4 k) ++ [.int .i64 (valOf T4 ((k : Int) + 1))]) → Grew w6 w' va v' → valRel W b T4 (k + 1) v' w') := Lib.hid fun w6 b6 =>
                      ⟨hrow.kept fun j hj => b6.block j (hrow.lt j hj), fun v' w' h1 h2 => valRel.next hfr (hbel.trans (b6.mono hbel.size)) ⟨B5, t5.below b6 (Nat.le_refl _), hv5⟩ h1 h2⟩
                    have hk1 : (k : Int) + 1 ≤ (m : Int) := by omega
                    have hk0 : (0 : Int) ≤ (k : Int) := by omega
                    have HLEN : Hid ((ints (valsOf T4 k)).length = k) := Lib.hid (by rw [ints_len, valsOf_len])
                    generalize valOf T4 ((k : Int) + 1) = x at *
                    generalize ints (valsOf T4 k) = xs at *
                    clear hrow hfr hbel t5 hv5
                    as_aux_lemma =>
                    go_wp2_with fail
                    go_at_call 24
                    refine HV.out.mono ?_
                    rintro e w6 ⟨rfl, b6⟩
                    have HN2 := Lib.hid (HNX.out (w6.alloc (.cells #[.int .i64 x] 3)) (b6.alloc b6.size _))
                    have HONE := Lib.hid (Row.one w6 3 (.int .i64 x))
                    clear b6 HNX HV
                    go_wp2_with (at_builtin; refine wpList_app rfl (.tmp 87) (.tmp 91) rfl va xs [.int .i64 x] rfl HN2.out.1 ⟨w6.heap.size, 0, none⟩ 1 1 rfl rfl (fun j u hj => one_at HONE.out hj) (by intro u hu; rw [List.mem_singleton.1 hu]; rfl) (by rw [HLEN.out]; omega) ?_; intro v' w7 h1 h2 _; have H1 := Lib.hid (HN2.out.2 v' w7 h1 h2); clear h1 h2)
                    go_roundw
                    case rel => exact ⟨k + 1, v', by omega, by go_num, rfl, H1.out⟩
                    case measure => simp [intOf]; omega
                  · obtain rfl : k = m := by omega
                    have HRW := Lib.hid hrow
                    have HBL := Lib.hid hbel
                    have HTH := Lib.hid (valsOf_three G4.out k)
                    have HVL : Hid (∀ c ∈ L, ¬ valC (valsOf T4 k) c < 0) := Lib.hid fun c hc => closed_value G4.out L4.out C4.out (fun x hx => valsOf_lit x hx) hc
                    have HLN := Lib.hid (valsOf_len T4 k)
                    generalize valsOf T4 k = A at *
                    clear hrow hbel hfr hB hlt
                    go_wp2_with fail
                    obtain ⟨wo, hwo⟩ : ∃ wo : World, wo = wr := ⟨_, rfl⟩
                    rw [← hwo] at HRW HBL ⊢
                    clear hwo
                    as_aux_lemma =>
                    go_loop [6, 16] (fun _ v16 => ∃ i : Nat, i ≤ q ∧ v16 = .int .i64 i) (fun _ v16 => q - (intOf v16).toNat)
                    case atStart => exact ⟨0, Nat.zero_le _, rfl⟩
                    case round =>
                      obtain ⟨i, hi, rfl⟩ := hrel
                      by_cases hlt : i < q
                      · have hiL : i < L.length := by rw [HQ.out]; exact hlt
                        obtain ⟨bb, off, da, dc, rfl, ci, hri⟩ := (readsL_old HL.out HBL.out).get hiL
                        have hcL : L.getD i [] ∈ L := mem_getD hiL
                        have HVA := Lib.hid (ValueR_any hri HRW.out.reads HTH.out (by rw [HLN.out]; omega) (by have := HL20.out _ hcL; omega) (HLX.out _ hcL))
                        have hd : decide (valC A (L.getD i []) < 0) = false := decide_eq_false (by have := HVL.out _ hcL; omega)
                        have hi1 : (i : Int) < (q : Int) := by omega
                        have hi0 : (0 : Int) ≤ (i : Int) := by omega
                        generalize valC A (L.getD i []) = v at *
                        generalize (L.getD i []).length = cl at *
                        clear hri hiL hcL
                        as_aux_lemma =>
                        go_wp2_with fail
                        go_at_call 30
                        refine HVA.out.mono ?_
                        rintro e w9 ⟨rfl, hw⟩
                        obtain rfl := hw.symm
                        clear hw
                        go_wp2_with fail
                        go_round
                        case rel => exact ⟨i + 1, by omega, by go_num⟩
                        case measure => simp [intOf]; omega
                      · obtain rfl : i = q := by omega
                        as_aux_lemma =>
                        go_wp2_with fail
                        go_ret
                        exact ⟨rfl, HBL.out⟩
end Go.Proofs.Ytngegkgmenfelaa
