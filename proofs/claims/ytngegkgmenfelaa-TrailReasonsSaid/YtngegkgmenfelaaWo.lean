/-
  single, Follow.
-/
import Derived.Test.YtngegkgmenfelaaWn
namespace Go.Proofs.Ytngegkgmenfelaa
open Go.RowKit Go.Lib
attribute [local go_sem ↓] Go.wp_at_zero Go.wp_at_succ

theorem TrailV.shorts {w : World} {B : Nat → Prop} {b : Nat} {T : Tr} {val : Sl → Value} (h : TrailV w B b T val) :
    ∃ a c, val .sh = .slice a T.short.length c ∧ w.cell? ⟨b, 6, none⟩ = some (.slice a T.short.length c) ∧ b < w.heap.size := by
  obtain ⟨ct, hm, ht⟩ := h
  have h2 := hm.row .sh
  rw [ht.sh] at h2
  obtain ⟨a, c, e, _, _⟩ := h2.form
  rw [ints_len] at e
  exact ⟨a, c, e, by rw [← e]; exact hm.bcell 6, lt_of_block hm.box⟩
theorem TrailV.shortAt {w : World} {B : Nat → Prop} {b : Nat} {T : Tr} {val : Sl → Value} (h : TrailV w B b T val) {a : Option Addr} {q c : Nat} (hv : val .sh = .slice a q c) (i : Nat) (hi : i < T.short.length) :
    ∃ g, a = some ⟨g, 0, none⟩ ∧ w.cell? ⟨g, i, none⟩ = some (.int .i64 (T.short.getD i 0)) := by
  obtain ⟨ct, hm, ht⟩ := h
  have h2 := hm.row .sh
  rw [ht.sh] at h2
  obtain ⟨g, c', e, _, _, _, hc, _⟩ := h2.at (by rw [ints_len]; omega)
  rw [hv] at e
  injection e with e _ _
  exact ⟨g, e, hc i _ (ints_at hi)⟩
/-- A clause's slice, empty or not. -/
theorem TrailV.clauseAny {w : World} {B : Nat → Prop} {b : Nat} {T : Tr} {val : Sl → Value} (h : TrailV w B b T val) {k : Nat} (hk : k < T.L.length) :
    ∃ gl lc a oc, w.cell? ⟨b, 0, none⟩ = some (.slice (some ⟨gl, 0, none⟩) T.L.length lc) ∧ w.cell? ⟨gl, k, none⟩ = some (.slice a (cl T k).length oc) ∧ val (.C k) = .slice a (cl T k).length oc ∧ (0 < (cl T k).length → ∃ g, a = some ⟨g, 0, none⟩) := by
  obtain ⟨ct, hm, ht⟩ := h
  have hr := hm.row .cl
  obtain ⟨gl, cl, e, _, _, _, hcl, _⟩ := hr.at (by rw [ht.cl]; simp; omega)
  have c4 : w.cell? ⟨b, 0, none⟩ = some (val .cl) := hm.bcell 0
  have ck : w.cell? ⟨gl, k, none⟩ = some (val (.C k)) := hcl k _ (by rw [ht.cl]; simp [hk])
  rw [e, ht.cl, List.length_map, List.length_range] at c4
  have h2 := hm.row (.C k)
  rw [ht.C k] at h2
  obtain ⟨a, oc, e2, _, _⟩ := h2.form
  rw [ints_len] at e2
  refine ⟨gl, cl, a, oc, c4, by rw [ck]; exact congrArg some e2, e2, fun h0 => ?_⟩
  obtain ⟨g, c', e3, _⟩ := h2.at (by rw [ints_len]; exact h0)
  rw [e2] at e3
  injection e3 with e3 _ _
  exact ⟨g, e3⟩

theorem Good.singleStep {n : Nat} {T : Tr} (h : Good n T) (m : Nat) (hm : m < T.L.length) (hA : Alike (cl T m)) (hl : 0 < (cl T m).length) (hv0 : valOf T ((cl T m).getD 0 0) = 0) : Good n (makeT T ((cl T m).getD 0 0) m) :=
  h.make_core ((cl T m).getD 0 0) (m : Nat) ((h.ok.clause m).2 _ (mem_getD hl)) hv0 m hm rfl (mem_getD hl) (fun z hz hzy => absurd (hA z hz) hzy)

def SingleRel (w0 : World) (B : Nat → Prop) (b n : Nat) (sh : List Int) (vsh : Value) (R : Int × Tr) (i : Nat) (wr : World) : Prop :=
  ∃ T val, singleGo (sh.drop i) T = R ∧ Good n T ∧ T.short = sh ∧ TrailV wr B b T val ∧ val .sh = vsh ∧ Keep B w0 wr

def SinglePost (w : World) (B : Nat → Prop) (b : Nat) (R : Int × Tr) (e : Ending) (w' : World) : Prop := e = .returned (.int .i64 R.1) ∧ Keep B w w' ∧ TrailAt w' B b R.2

theorem drop_cons {l : List Int} {i : Nat} (h : i < l.length) : l.drop i = l.getD i 0 :: l.drop (i + 1) := by
  rw [List.drop_eq_getElem_cons h, List.getD_eq_getElem?_getD, List.getElem?_eq_getElem h, Option.getD_some]

set_option maxRecDepth 100000 in
set_option maxHeartbeats 4000000 in
theorem single_any {w : World} {B : Nat → Prop} {b n : Nat} {T : Tr} (h : TrailAt w B b T) (hg : Good n T) :
    Calls Try.prog 46 #[.pointer (some ⟨b, 0, none⟩)] w fun e w' => SinglePost w B b (singleT T) e w' := by
  obtain ⟨val, h⟩ := h
  have h : TrailV w B b T val := h
  obtain ⟨R, hR⟩ : ∃ R, singleT T = R := ⟨_, rfl⟩
  rw [hR]
  obtain ⟨a, c, hv, c6, hbW⟩ := h.shorts
  obtain ⟨ls, hls⟩ : ∃ ls, T.short.length = ls := ⟨_, rfl⟩
  rw [hls] at hv c6
  have hl3 : ls ≤ 300000 := by have := hg.shl; have := hg.ok.ll; omega
  have REL0 : SingleRel w B b n T.short (.slice a ls c) R 0 w := ⟨T, val, hR, hg, rfl, h, hv, Keep.refl B w⟩
  obtain ⟨sh, hsh⟩ : ∃ sh, T.short = sh := ⟨_, rfl⟩
  rw [hsh] at hls REL0
  have HLS := Lib.hid hls
  clear hls hsh hv hR h hg
  go_enter Try.func46, Try.ntmps46
  go_wp2_with fail
  clear c6
  go_loopw [2, 11] (fun _ v11 wr => ∃ i : Nat, v11 = .int .i64 i ∧ i ≤ ls ∧ SingleRel w B b n sh (.slice a ls c) R i wr) (fun _ v11 _ => ls - (intOf v11).toNat)
  case atStart => exact ⟨0, rfl, by omega, REL0⟩
  case round =>
    clear REL0
    obtain ⟨i, rfl, hil, HR⟩ := hrel
    by_cases hlt : i < ls
    · obtain ⟨T1, val1, hgo, g1, hsh, h1, hv1, k1⟩ := HR
      obtain ⟨g, rfl, ci⟩ := h1.shortAt hv1 i (by rw [hsh, HLS.out]; exact hlt)
      rw [hsh] at ci
      obtain ⟨m, ek, hm, hA⟩ := g1.shIn (sh.getD i 0) (by rw [hsh]; exact mem_getD (by rw [HLS.out]; exact hlt))
      rw [drop_cons (by rw [HLS.out]; exact hlt), ek] at hgo
      rw [ek] at ci
      obtain ⟨gl, lc, ca, oc, cb, ck, hvC, hca⟩ := h1.clauseAny hm
      have hi1 : (i : Int) < (ls : Int) := by omega
      have hi0 : (0 : Int) ≤ (i : Int) := by omega
      have hm0 : (0 : Int) ≤ (m : Int) := by omega
      obtain ⟨ll, hll⟩ : ∃ ll, T1.L.length = ll := ⟨_, rfl⟩
      have hml : (m : Int) < (ll : Int) := by omega
      rw [hll] at cb
      obtain ⟨q, hq⟩ : ∃ q, (cl T1 m).length = q := ⟨_, rfl⟩
      rw [hq] at ck hvC hca
      have HB : Hid (There B wr) := Lib.hid (by obtain ⟨_, hm, _⟩ := h1; exact hm.lt)
      have G1 := Lib.hid g1
      have HSH := Lib.hid hsh
      have H1 := Lib.hid h1
      have HV1 := Lib.hid hv1
      have HVC := Lib.hid hvC
      have K1 := Lib.hid k1
      have HM := Lib.hid hm
      have HA := Lib.hid hA
      have HQ := Lib.hid hq
      clear g1 hsh h1 hv1 hvC k1 hm hA hll hq ek
      have hgo2 : (if q = 0 ∨ valOf T1 ((cl T1 m).getD 0 0) < 0 then ((m : Int), T1) else if valOf T1 ((cl T1 m).getD 0 0) = 0 then singleGo (sh.drop (i + 1)) (makeT T1 ((cl T1 m).getD 0 0) m) else singleGo (sh.drop (i + 1)) T1) = R := by rw [← HQ.out]; exact hgo
      have HG := Lib.hid hgo2
      clear hgo hgo2
      by_cases hq0 : q = 0
      · subst hq0
        have HGO : Hid (((m : Int), T1) = R) := Lib.hid (by have := HG.out; rw [if_pos (.inl rfl)] at this; exact this)
        clear HG hca
        as_aux_lemma =>
        go_wp2_with fail
        go_ret
        exact ⟨by rw [← HGO.out]; rfl, by rw [← HGO.out]; exact ⟨K1.out, H1.out.any⟩⟩
      · obtain ⟨gc, rfl⟩ := hca (by omega)
        have hqp : 0 < q := by omega
        have hqn : ((q : Int) == 0) = false := by simp; omega
        have c0 := (H1.out.lit (c := cl T1 m) rfl HVC.out 0 (by rw [HQ.out]; exact hqp)).1
        have hyb := (G1.out.ok.clause m).2 _ (mem_getD (d := 0) (show 0 < (cl T1 m).length by rw [HQ.out]; exact hqp))
        have hyb : 1 ≤ ((cl T1 m).getD 0 0).natAbs ∧ ((cl T1 m).getD 0 0).natAbs ≤ n := hyb
        obtain ⟨y, ey⟩ : ∃ y, (cl T1 m).getD 0 0 = y := ⟨_, rfl⟩
        rw [ey] at c0 HG hyb
        have EY := Lib.hid ey
        clear ey
        have h20 := G1.out.ok.n2
        have HC : Hid (∀ w', Below wr.heap.size wr w' → w'.cell? ⟨gc, 0, none⟩ = some (.int .i64 y)) := Lib.hid fun w' hb => by rw [← EY.out]; exact ((H1.out.below hb (Nat.le_refl _)).lit (c := cl T1 m) rfl HVC.out 0 (by rw [HQ.out]; exact hqp)).1
        obtain ⟨v, ev⟩ : ∃ v, valOf T1 y = v := ⟨_, rfl⟩
        have HVL : Hid (∀ w1, Below wr.heap.size wr w1 → Calls Try.prog 24 #[.pointer (some ⟨b, 0, none⟩), .int .i64 y] w1 fun e w' => e = .returned (.int .i64 v) ∧ Below wr.heap.size wr w') := Lib.hid fun w1 hb => by rw [← ev]; exact val_facts H1.out y (by unfold In64; omega) (by rw [G1.out.ok.fl]; exact h20) G1.out.ok.small w1 hb
        have h3 := valOf_three G1.out.ok.small y
        rw [ev] at h3 HG
        have EV := Lib.hid ev
        have HYB := Lib.hid hyb
        clear ev h20 hyb hq0
        by_cases hvn : v < 0
        · have hv1 : v = -1 := by omega
          subst hv1
          have HGO : Hid (((m : Int), T1) = R) := Lib.hid (by have := HG.out; rw [if_pos (.inr hvn)] at this; exact this)
          clear HG h3 hvn
          as_aux_lemma =>
          go_wp2_with fail
          go_at_call 24
          refine (HVL.out _ (Below.refl _ _)).mono ?_
          rintro e w1 ⟨rfl, h2⟩
          have HB2 := Lib.hid h2
          clear h2
          go_wp2_with fail
          go_ret
          exact ⟨by rw [← HGO.out]; rfl, by rw [← HGO.out]; exact ⟨K1.out.below HB2.out HB.out, (H1.out.below HB2.out (Nat.le_refl _)).any⟩⟩
        · by_cases hv0 : v = 0
          · subst hv0
            have HGO : Hid (singleGo (sh.drop (i + 1)) (makeT T1 y m) = R) := Lib.hid (by have := HG.out; rw [if_neg (by omega), if_pos rfl] at this; exact this)
            have hqz : ¬ q = 0 := by omega
            clear HG h3 hvn hqz
            as_aux_lemma =>
            go_wp2_with fail
            go_at_call 24
            refine (HVL.out _ (Below.refl _ _)).mono ?_
            rintro e w1 ⟨rfl, h2⟩
            have HB2 := Lib.hid h2
            have c1 := HC.out w1 h2
            clear h2
            go_wp2_with fail
            go_at_call 24
            refine (HVL.out _ HB2.out).mono ?_
            rintro e w2 ⟨rfl, h2⟩
            have HB3 := Lib.hid h2
            have c2 := HC.out w2 h2
            clear h2
            go_wp2_with fail
            go_at_call 45
            refine (make_val (H1.out.below HB3.out (Nat.le_refl _)) y (m : Int) (by rw [G1.out.ok.fl]; exact HYB.out) (by rw [G1.out.ok.fl]; exact G1.out.ok.n2) (by have h1 := G1.out.litsLen; have h2 := G1.out.ok.n2; omega)).mono ?_
            rintro e w3 ⟨rfl, k3, v3, t3⟩
            have HK3 := Lib.hid k3
            have HT3 := Lib.hid t3
            clear k3 t3 c1 c2
            go_wp2_with fail
            go_roundw
            case rel => exact ⟨i + 1, by go_num, by omega, makeT T1 y m, _, HGO.out, by rw [← EY.out]; exact G1.out.singleStep m HM.out HA.out (by rw [HQ.out]; exact hqp) (by rw [EY.out]; exact EV.out), HSH.out, HT3.out, by rw [upS_other _ _ (by simp)]; exact HV1.out, (K1.out.below HB3.out HB.out).trans HK3.out⟩
            case measure => simp [intOf]; omega
          · have hv1 : v = 1 := by omega
            subst hv1
            have HGO : Hid (singleGo (sh.drop (i + 1)) T1 = R) := Lib.hid (by have := HG.out; rw [if_neg (by omega), if_neg (by omega)] at this; exact this)
            clear HG h3 hvn hv0
            as_aux_lemma =>
            go_wp2_with fail
            go_at_call 24
            refine (HVL.out _ (Below.refl _ _)).mono ?_
            rintro e w1 ⟨rfl, h2⟩
            have HB2 := Lib.hid h2
            have c1 := HC.out w1 h2
            clear h2
            go_wp2_with fail
            go_at_call 24
            refine (HVL.out _ HB2.out).mono ?_
            rintro e w2 ⟨rfl, h2⟩
            have HB3 := Lib.hid h2
            clear h2 c1
            go_wp2_with fail
            go_roundw
            case rel => exact ⟨i + 1, by go_num, by omega, T1, val1, HGO.out, G1.out, HSH.out, H1.out.below HB3.out (Nat.le_refl _), HV1.out, K1.out.below HB3.out HB.out⟩
            case measure => simp [intOf]; omega
    · obtain rfl : i = ls := by omega
      obtain ⟨T1, val1, hgo, g1, hsh, h1, hv1, k1⟩ := HR
      rw [List.drop_of_length_le (by rw [HLS.out]; exact Nat.le_refl _)] at hgo
      have HGO : Hid (((-1 : Int), T1) = R) := Lib.hid hgo
      have H1 := Lib.hid h1
      have K1 := Lib.hid k1
      clear hgo g1 hsh h1 hv1 k1
      go_wp2_with fail
      go_ret
      exact ⟨by rw [← HGO.out]; rfl, by rw [← HGO.out]; exact ⟨K1.out, H1.out.any⟩⟩
end Go.Proofs.Ytngegkgmenfelaa
