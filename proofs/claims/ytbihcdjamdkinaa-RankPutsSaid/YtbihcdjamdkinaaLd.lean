/-
  RankPuts: the walk.
-/
import Derived.Test.YtbihcdjamdkinaaLc
namespace Go.Proofs.Ytbihcdjamdkinaa
open Go.RowKit Go.Lib
attribute [local go_sem ↓] Go.wp_at_zero Go.wp_at_succ

theorem OwnI.keptB {w w' : World} {B : Nat} {v : Value} {es : List Int} (h : OwnI w B v es) (hk : ∀ k, v.ownBlock = some k → w'.heap[k]? = w.heap[k]?) : OwnI w' B v es := by
  obtain ⟨h1, h2⟩ := h
  refine ⟨h1, ?_⟩
  rcases h2 with h2 | ⟨g, cap, cur, hv, hg, hh, r⟩
  · exact .inl h2
  · exact .inr ⟨g, cap, cur, hv, hg, by rw [hk g (by rw [hv]; rfl)]; exact hh, r⟩

/-- A Rank beside a row of numbers of the call's own (blocks from s on); all below s is as it was in w1. -/
structure RF (w1 w : World) (s b n : Nat) (A : List Int) (J : Nat → Bool) (sc : Int) (fv : Value) (es : List Int) : Prop where
  ex : ∃ B : Nat → Prop, RankAt w B b n A J sc ∧ (∀ k, k < s → B k) ∧ ∀ k, fv.ownBlock = some k → B k
  own : OwnI w s fv es
  keep : Below s w1 w
  lo : s ≤ w.heap.size

section
variable {w1 w : World} {s b n : Nat} {A : List Int} {J : Nat → Bool} {sc : Int} {fv : Value} {es : List Int}

theorem RF.alloc (h : RF w1 w s b n A J sc fv es) (o : Obj) : RF w1 (w.alloc o) s b n A J sc fv es := by
  obtain ⟨B, hr, h1, h2⟩ := h.ex
  exact ⟨⟨B, hr.below ((Below.refl _ _).alloc (Nat.le_refl _) o), h1, h2⟩, h.own.alloc o, h.keep.alloc h.lo o, by have := h.lo; simp; omega⟩
theorem RF.drew (h : RF w1 w s b n A J sc fv es) : RF w1 w.drew s b n A J sc fv es := by
  obtain ⟨B, hr, h1, h2⟩ := h.ex
  exact ⟨⟨B, hr.below (Below.refl _ _).drew, h1, h2⟩, h.own, h.keep.drew, h.lo⟩
theorem RF.grew {w2 : World} {fv' : Value} {es' : List Int} (h : RF w1 w s b n A J sc fv es) (hg : Grew w w2 fv fv') (ho : OwnI w2 s fv' es') : RF w1 w2 s b n A J sc fv' es' := by
  obtain ⟨B, hr, h1, h2⟩ := h.ex
  refine ⟨⟨fun k => B k ∨ fv'.ownBlock = some k, hr.kept (fun k hk hB => hg.1.block k hk (fun e => hB (h2 k e.symm))) (fun k hk hB => ?_) (fun k hB => ?_), fun k hk => .inl (h1 k hk), fun k hk => .inr hk⟩, ho, Grew.below h.keep h.own hg h.lo, Nat.le_trans h.lo hg.1.size⟩
  · rcases hB with hB | hB
    · exact hB
    · rcases hg.2 with e | e
      · exact h2 k (e.symm.trans hB)
      · rw [e] at hB
        injection hB with hB
        omega
  · rcases hB with hB | hB
    · exact Nat.lt_of_lt_of_le (hr.there k hB) hg.1.size
    · exact (ho.lt k hB).2
/-- What an act of the Rank leaves. -/
theorem RF.act {f : FuncId} {args : Array Value} {P : Ending → Prop} {A' : List Int} {J' : Nat → Bool} {sc' : Int} (h : RF w1 w s b n A J sc fv es)
    (hc : ∀ B, RankAt w B b n A J sc → Calls Try.prog f args w fun e w' => P e ∧ Keep B w w' ∧ RankAt w' B b n A' J' sc') :
    Calls Try.prog f args w fun e w' => P e ∧ RF w1 w' s b n A' J' sc' fv es := by
  obtain ⟨B, hr, h1, h2⟩ := h.ex
  refine (hc B hr).mono ?_
  rintro e w' ⟨he, hk, hr'⟩
  exact ⟨he, ⟨B, hr', h1, h2⟩, h.own.keptB (fun k e => hk.block k (h2 k e)), h.keep.trans (hk.toBelow h1), Nat.le_trans h.lo hk.size⟩
/-- What is only asked. -/
theorem RF.ask {f : FuncId} {args : Array Value} {P : Ending → Prop} (h : RF w1 w s b n A J sc fv es)
    (hc : ∀ B, RankAt w B b n A J sc → Calls Try.prog f args w fun e w' => P e ∧ w' = w) : Calls Try.prog f args w fun e w' => P e ∧ w' = w := by
  obtain ⟨B, hr, _, _⟩ := h.ex
  exact hc B hr
end

/-- Who is in behind i takes; what is taken then. -/
def Iat (n : Nat) (A : List Int) : Nat → Nat → Bool
  | 0 => allI
  | i + 1 => tI n A (Iat n A i)
def takenAt (n : Nat) (A : List Int) (i : Nat) : Nat := topF A (Iat n A i) n
def takenTo (n : Nat) (A : List Int) (k : Nat) : List Int := (List.range k).map fun i => (takenAt n A i : Int)
theorem takenTo_succ (n : Nat) (A : List Int) (k : Nat) : takenTo n A (k + 1) = takenTo n A k ++ [(takenAt n A k : Int)] := by simp [takenTo, List.range_succ]
theorem takenTo_len (n : Nat) (A : List Int) (k : Nat) : (takenTo n A k).length = k := by simp [takenTo]
theorem takenTo_getD {n : Nat} {A : List Int} {k i : Nat} (h : i < k) : (takenTo n A k).getD i 0 = takenAt n A i := by simp [takenTo, h]
theorem Iat_cnt (n : Nat) (A : List Int) : ∀ i, i ≤ n → cnt (Iat n A i) n = n - i
  | 0, _ => cnt_all (I := allI) (fun _ _ _ => rfl)
  | i + 1, h => by
    have ih := Iat_cnt n A i (by omega)
    have ht := top_pos (A := A) (n := n) (I := Iat n A i) (by omega)
    have := cnt_take ht
    unfold Iat; omega
theorem taken_ok {n : Nat} {A : List Int} {i : Nat} (h : i < n) : takenAt n A i ≠ 0 := top_pos (by rw [Iat_cnt n A i (by omega)]; omega)
theorem Iat_out (n : Nat) (A : List Int) : ∀ i v, v < 1 ∨ n < v → Iat n A i v = true
  | 0, _, _ => rfl
  | i + 1, v, h => by
    unfold Iat tI
    split
    · exact Iat_out n A i v h
    · rename_i hne
      have hb := top_next hne
      have := hb.lo
      have := hb.hi
      rw [upd_ne (by omega)]
      exact Iat_out n A i v h
theorem Iat_end (n : Nat) (A : List Int) (v : Nat) (h1 : 1 ≤ v) (h2 : v ≤ n) : Iat n A n v = false := cnt_zero (n := n) (by rw [Iat_cnt n A n (Nat.le_refl _)]; omega) v h1 h2
/-- Who is in behind i puts. -/
def Jat (n : Nat) (A : List Int) : Nat → Nat → Bool
  | 0 => Iat n A n
  | i + 1 => upd (Jat n A i) (i + 1) true
theorem Jat_eq (n : Nat) (A : List Int) : ∀ i v, Jat n A i v = if 1 ≤ v ∧ v ≤ i then true else Iat n A n v
  | 0, v => by rw [if_neg (by omega)]; rfl
  | i + 1, v => by
    unfold Jat upd
    by_cases e : v = i + 1
    · rw [if_pos e, if_pos (by omega)]
    · rw [if_neg e, Jat_eq n A i v]
      by_cases h : 1 ≤ v ∧ v ≤ i
      · rw [if_pos h, if_pos (by omega)]
      · rw [if_neg h, if_neg (by omega)]
theorem Jat_end (n : Nat) (A : List Int) : Jat n A n = allI := by
  funext v
  rw [Jat_eq]
  by_cases h : 1 ≤ v ∧ v ≤ n
  · rw [if_pos h]; rfl
  · rw [if_neg h]; exact Iat_out n A n v (by omega)

theorem bump_nought {n : Nat} {A : List Int} (hl : A.length = n + 1) (hb : ∀ j, A.getD j 0 ≤ 1125899906842624) (v : Int) : bA n A v 0 = A ∧ ∀ sc, bS n A v 0 sc = sc := by
  unfold bA bS
  cases ho : okB n v 0 with
  | false => exact ⟨rfl, fun _ => rfl⟩
  | true =>
    have ho' := of_decide_eq_true ho
    have h0 : over A v.toNat 0 = false := decide_eq_false (by have := hb v.toNat; omega)
    unfold bumpA bumpS
    rw [h0]
    refine ⟨?_, fun _ => rfl⟩
    show A.set v.toNat (A.getD v.toNat 0 + 0) = A
    rw [Int.add_zero]
    have hlt : v.toNat < A.length := by omega
    rw [List.getD_eq_getElem?_getD, List.getElem?_eq_getElem hlt]
    exact List.set_getElem_self hlt

set_option maxRecDepth 100000 in
set_option maxHeartbeats 4000000 in
theorem puts_core (n : Nat) (a : Option Addr) (len cap : Nat) (ac : List Act3) (v : Int) (w : World) (hn : n ≤ 200) (hl : len ≤ 100) (hA : IsActs w a len ac) :
    Calls Try.prog 6 #[.int .i64 n, .slice a len cap, .int .i64 v] w fun e w' => e = .returned (.bool true) ∧ Below w.heap.size w w' := by
  have HA := Lib.hid hA
  have d1 : decide ((200 : Int) < n) = false := by simp; omega
  have d2 : decide (100 < len) = false := by simp; omega
  have d2' : decide ((100 : Int) < len) = false := by simp; omega
  clear hA
  go_enter Try.func6, Try.ntmps6
  go_wp2_with (go_at_call 9; refine (shown_any _).mono ?_; rintro e w1 ⟨rfl, hb⟩; have B1 := Lib.hid hb; clear hb)
  have HA1 := Lib.hid (HA.out.below B1.out (Nat.le_refl _))
  have WS : Hid (w.heap.size ≤ w1.heap.size) := Lib.hid B1.out.size
  clear HA
  refine (New_ok n w1 (by omega) (fun k => k < w1.heap.size) (fun k h => h)).mono ?_
  rintro e w2 ⟨b, rfl, k2, _, r2⟩
  have K2 := Lib.hid k2
  have R2 := Lib.hid r2
  clear k2 r2
  go_wp2_with fail
  clear d1 d2 d2'
  go_loopw [10] (fun vi wr => ∃ (k : Nat) (A : List Int) (sc : Int), vi = .int .i64 k ∧ k ≤ len ∧ sc ≤ k ∧ Hid (Keep (fun k => k < w1.heap.size) w1 wr) ∧ Hid (RankAt wr (fun k => k < w1.heap.size) b n A allI sc)) (fun vi _ => len - (intOf vi).toNat)
  case atStart => exact ⟨0, _, 0, rfl, Nat.zero_le _, Int.le_refl _, K2, R2⟩
  case round =>
    obtain ⟨k, A, sc, rfl, hk, hsc, hK, hR⟩ := hrel
    clear K2 R2
    by_cases hlt : k < len
    · obtain ⟨ab, off, rfl, hab, hcell⟩ := HA1.out.2.1.resolve_left (by omega)
      obtain ⟨_, cv, cy⟩ := hcell k hlt
      have c1 := (hK.out.cell (p := ⟨ab, off + k * 3 + 1, none⟩) hab).trans cv
      have c2 := (hK.out.cell (p := ⟨ab, off + k * 3 + 2, none⟩) hab).trans cy
      generalize (actAt ac k).v = x at *
      generalize (actAt ac k).by' = y at *
      clear hcell cv cy hab
      go_wp2_with fail
      go_still_tail 11, (by kernel_rfl)
      change wpList _ _ _ _ _ wr.drew
      have RD := Lib.hid (hR.out.below (Below.refl wr.heap.size wr).drew)
      have KD := Lib.hid hK.out.drew
      clear c1 c2 hK hR
      generalize wr.drew = w4 at *
      have hsb := bS_bd n A x y sc
      have BU := Lib.hid (Bump_all RD.out x y (by omega))
      go_wp2_with (go_at_call 19; with_reducible refine Calls.mono BU.out ?_; rintro e w5 ⟨rfl, k5, r5⟩; have K5 := Lib.hid (KD.out.trans k5); have R5 := Lib.hid r5; clear k5 r5)
      go_roundw
      case rel => exact ⟨k + 1, _, _, by go_num, by omega, by omega, K5, R5⟩
      case measure => simp [intOf]; omega
    · have hnl : decide ((k : Int) < len) = false := by simp; omega
      obtain ⟨s, hs⟩ : ∃ s, w1.heap.size = s := ⟨_, rfl⟩
      have F0 : Hid (RF w1 wr s b n A allI sc (.slice none 0 0) []) := Lib.hid (by
        subst hs
        exact ⟨⟨_, hR.out, fun k h => h, fun k h => by simp [Value.ownBlock] at h⟩, OwnI.nil _ _, hK.out.toBelow (fun k h => h), hK.out.size⟩)
      have HS := Lib.hid hs
      rw [hs] at WS
      have HLA := Lib.hid hR.out.len
      have HBD := Lib.hid (fun j => (hR.out.bd j).2)
      have HSC : Hid (sc ≤ 1000000) := Lib.hid (by omega)
      clear hs HA1 hK hR
      go_wp2_with fail
      clear hnl hlt
      go_loopw [11, 12] (fun fv vi wr => ∃ (i : Nat) (aa : Option Addr) (cc : Nat), vi = .int .i64 i ∧ i ≤ n ∧ fv = .slice aa i cc ∧ Hid (RF w1 wr s b n A (Iat n A i) sc (.slice aa i cc) (takenTo n A i))) (fun _ vi _ => n - (intOf vi).toNat)
      case atStart => exact ⟨0, none, 0, rfl, Nat.zero_le _, rfl, F0⟩
      case round =>
        obtain ⟨i, aa, cc, rfl, hi, rfl, hF⟩ := hrel
        clear F0
        by_cases hlt : i < n
        · have hne := taken_ok (A := A) hlt
          have TA := Lib.hid (hF.out.act (fun B hr => Take_all hr))
          have e1 : topF A (Iat n A i) n = takenAt n A i := rfl
          have e2 : tI n A (Iat n A i) = Iat n A (i + 1) := rfl
          rw [e1, e2, show tOk n A (Iat n A i) = true from decide_eq_true hne] at TA
          have HTS := Lib.hid (takenTo_succ n A i)
          have HTL := Lib.hid (takenTo_len n A i)
          have HTL2 := Lib.hid (takenTo_len n A (i + 1))
          clear e1 e2 hne
          generalize takenAt n A i = t at *
          go_wp2_with (first
            | (go_at_call 20; refine TA.out.mono ?_; rintro e w4 ⟨rfl, f4⟩; have F4 := Lib.hid f4; have F5 := Lib.hid (f4.alloc (.cells #[.int .i64 (t : Int)] 3)); clear f4)
            | (at_builtin; refine wpList_app1 rfl (.tmp 76) (.tmp 78) rfl s _ (takenTo n A i) t rfl F5.out.own w4.heap.size 1 rfl (heap_alloc_new _ _) (by rw [HTL.out]; omega) F5.out.lo ?_; intro v1 w6 O1 G1; rw [← HTS.out] at O1; have F6 := Lib.hid (F5.out.grew G1 O1); obtain ⟨a1, k1, rfl⟩ := O1.form; rw [HTL2.out] at F6; clear O1 G1))
          rw [HTL2.out]
          go_roundw
          case rel => exact ⟨i + 1, a1, k1, by go_num, by omega, rfl, F6⟩
          case measure => simp [intOf]; omega
        · obtain rfl : i = n := by omega
          have hnl : decide ((i : Int) < i) = false := by simp
          have G0 : Hid (RF w1 wr s b i A (Jat i A 0) sc (.slice aa i cc) (takenTo i A i)) := hF
          clear hF
          go_wp2_with fail
          clear hnl hlt
          go_loopw [15] (fun vi wr => ∃ (j : Nat), vi = .int .i64 j ∧ j ≤ i ∧ Hid (RF w1 wr s b i A (Jat i A j) sc (.slice aa i cc) (takenTo i A i))) (fun vi _ => i - (intOf vi).toNat)
          case atStart => exact ⟨0, rfl, Nat.zero_le _, G0⟩
          case round =>
            obtain ⟨j, rfl, hj, hG⟩ := hrel
            clear G0
            by_cases hlt : j < i
            · have q1 : Jat i A j (j + 1) = false := by rw [Jat_eq, if_neg (by omega)]; exact Iat_end i A (j + 1) (by omega) (by omega)
              have e0 : ((j : Int) + 1).toNat = j + 1 := by omega
              have p1 : pC i (Jat i A j) ((j : Int) + 1) = 0 := by unfold pC; rw [if_pos (by omega), e0, q1]; rfl
              have p2 : pI i (Jat i A j) ((j : Int) + 1) = Jat i A (j + 1) := by unfold pI; rw [if_pos (by omega), e0]; rfl
              have q2 : Jat i A (j + 1) (j + 1) = true := by rw [Jat_eq, if_pos (by omega)]
              have p3 : pC i (Jat i A (j + 1)) ((j : Int) + 1) = 7 := by unfold pC; rw [if_pos (by omega), e0, q2]; rfl
              have p4 : pI i (Jat i A (j + 1)) ((j : Int) + 1) = Jat i A (j + 1) := by unfold pI; rw [if_pos (by omega), e0]; exact upd_id q2
              have P1 := Lib.hid (hG.out.act (fun B hr => Put_all hr ((j : Int) + 1)))
              rw [p1, p2] at P1
              have P2 := Lib.hid (fun w' (h : RF w1 w' s b i A (Jat i A (j + 1)) sc (.slice aa i cc) (takenTo i A i)) => h.act (fun B hr => Put_all hr ((j : Int) + 1)))
              rw [p3, p4] at P2
              clear q1 e0 p1 p2 q2 p3 p4
              go_wp2_with (first
                | (go_at_call 21; with_reducible refine Calls.mono P1.out ?_; rintro e w4 ⟨rfl, f4⟩; have F4 := Lib.hid f4; clear f4)
                | (go_at_call 21; with_reducible refine Calls.mono (P2.out _ F4.out) ?_; rintro e w5 ⟨rfl, f5⟩; have F5 := Lib.hid f5; clear f5))
              go_roundw
              case rel => exact ⟨j + 1, by go_num, by omega, F5⟩
              case measure => simp [intOf]; omega
            · obtain rfl : j = i := by omega
              have hnl : decide ((j : Int) < j) = false := by simp
              have hG' : Hid (RF w1 wr s b j A (Iat j A 0) sc (.slice aa j cc) (takenTo j A j)) := by
                have := hG
                rw [Jat_end] at this
                exact this
              have BU := Lib.hid (hG'.out.act (fun B hr => Bump_all hr v 0 HSC.out))
              rw [(bump_nought HLA.out HBD.out v).1, (bump_nought HLA.out HBD.out v).2] at BU
              have hcase : (bC j v 0 = 0 ∧ decide (1 ≤ v) = true ∧ decide (v ≤ j) = true) ∨ (bC j v 0 = 1 ∧ decide (1 ≤ v) = false) ∨ (bC j v 0 = 1 ∧ decide (1 ≤ v) = true ∧ decide (v ≤ j) = false) := by
                unfold bC okB
                by_cases h1 : 1 ≤ v
                · by_cases h2 : v ≤ j
                  · left; refine ⟨?_, by simpa using h1, by simpa using h2⟩
                    rw [decide_eq_true (by omega)]; rfl
                  · right; right; refine ⟨?_, by simpa using h1, by simpa using h2⟩
                    rw [decide_eq_false (by omega)]; rfl
                · right; left; refine ⟨?_, by simpa using h1⟩
                  rw [decide_eq_false (by omega)]; rfl
              have HC := Lib.hid hcase
              clear hcase hG hG' hlt
              rcases HC.out with ⟨g1, g2, g3⟩ | ⟨g1, g2⟩ | ⟨g1, g2, g3⟩
              all_goals
                rw [g1] at BU
                clear HC g1
                go_wp2_with (go_at_call 19; with_reducible refine Calls.mono BU.out ?_; rintro e w4 ⟨rfl, f4⟩; have F4 := Lib.hid f4; clear f4)
                clear hnl
                go_loopw [17] (fun vi wr => ∃ (q : Nat), vi = .int .i64 q ∧ q ≤ j ∧ Hid (RF w1 wr s b j A (Iat j A q) sc (.slice aa j cc) (takenTo j A j))) (fun vi _ => j - (intOf vi).toNat)
                case atStart => exact ⟨0, rfl, Nat.zero_le _, F4⟩
                case round =>
                  obtain ⟨q, rfl, hq, hF⟩ := hrel
                  clear F4
                  by_cases hlt : q < j
                  · have hne := taken_ok (A := A) hlt
                    have TA := Lib.hid (hF.out.act (fun B hr => Take_all hr))
                    have e1 : topF A (Iat j A q) j = takenAt j A q := rfl
                    have e2 : tI j A (Iat j A q) = Iat j A (q + 1) := rfl
                    rw [e1, e2, show tOk j A (Iat j A q) = true from decide_eq_true hne] at TA
                    have HTG := Lib.hid (takenTo_getD (n := j) (A := A) hlt)
                    have HTL := Lib.hid (takenTo_len j A j)
                    clear e1 e2 hne
                    generalize takenAt j A q = t at *
                    go_wp2_with (go_at_call 20; refine TA.out.mono ?_; rintro e w5 ⟨rfl, f5⟩; have F5 := Lib.hid f5; have hc := (f5.own.at (by rw [HTL.out]; omega)); obtain ⟨g, c, he, _, _, _, _, hc, _⟩ := hc; injection he with he1 he2 he3; subst he1; have cq := hc q (by rw [HTL.out]; omega); rw [HTG.out] at cq; clear hc f5 he2 he3)
                    go_roundw
                    case rel => exact ⟨q + 1, by go_num, by omega, F5⟩
                    case measure => simp [intOf]; omega
                  · obtain rfl : q = j := by omega
                    have hnl : decide ((q : Int) < q) = false := by simp
                    have LN := Lib.hid (hF.out.ask (fun B hr => rLen hr))
                    rw [Iat_cnt q A q (Nat.le_refl _), Nat.sub_self] at LN
                    have HF := Lib.hid (B1.out.trans (hF.out.keep.mono WS.out))
                    clear hF
                    go_wp2_with (go_at_call 22; refine LN.out.mono ?_; rintro e w5 ⟨rfl, rfl⟩)
                    go_ret
                    exact ⟨rfl, HF.out⟩

set_option maxRecDepth 100000 in
set_option maxHeartbeats 1000000 in
theorem puts_walk (n : Int) (a : Option Addr) (len cap : Nat) (ac : List Act3) (v : Int) (w : World) (_ : In64 n) (hA : IsActs w a len ac) (_ : len ≤ maxLen) (_ : In64 v) :
    Calls Try.prog 6 #[.int .i64 n, .slice a len cap, .int .i64 v] w fun e w' => e = .returned (.bool true) ∧ Below w.heap.size w w' := by
  by_cases h1 : 200 < n
  · have d1 : decide (200 < n) = true := by simpa using h1
    clear hA h1
    go_enter Try.func6, Try.ntmps6
    go_wp2_with (go_at_call 9; refine (shown_any _).mono ?_; rintro e w1 ⟨rfl, hb⟩; have B1 := Lib.hid hb; clear hb)
    go_ret
    exact ⟨rfl, B1.out⟩
  · have d1 : decide (200 < n) = false := by simpa using h1
    by_cases h2 : 100 < len
    · have d2 : decide (100 < len) = true := by simpa using h2
      have d2' : decide ((100 : Int) < len) = true := by simp; omega
      clear hA h1 h2
      go_enter Try.func6, Try.ntmps6
      go_wp2_with (go_at_call 9; refine (shown_any _).mono ?_; rintro e w1 ⟨rfl, hb⟩; have B1 := Lib.hid hb; clear hb)
      go_ret
      exact ⟨rfl, B1.out⟩
    · by_cases h0 : n < 0
      · have d2 : decide (100 < len) = false := by simpa using h2
        have d2' : decide ((100 : Int) < len) = false := by simp; omega
        have NN := Lib.hid (fun w => New_no n w (.inl h0))
        clear hA h1 h2 h0
        go_enter Try.func6, Try.ntmps6
        go_wp2_with (first
          | (go_at_call 9; refine (shown_any _).mono ?_; rintro e w1 ⟨rfl, hb⟩; have B1 := Lib.hid hb; clear hb)
          | (go_at_call 16; refine (NN.out _).mono ?_; rintro e w2 ⟨rfl, rfl⟩))
        go_ret
        exact ⟨rfl, B1.out⟩
      · obtain ⟨m, rfl⟩ := Int.eq_ofNat_of_zero_le (show 0 ≤ n by omega)
        exact puts_core m a len cap ac v w (by omega) (by omega) hA
end Go.Proofs.Ytbihcdjamdkinaa
