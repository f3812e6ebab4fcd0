/-
  SumParts: the walk.
-/
import Derived.Test.YtjdpocoahinbfaaDoorL3
import Derived.Test.YtjdpocoahinbfaaDoorO
import Derived.Test.YtjdpocoahinbfaaDoorP3
import Derived.Deep.DeepCutAuto
import Derived.WalkSpells
namespace Go.Proofs.YtjdpocoahinbfaaDoor
open Go.RowKit Go.Lib

def mL (es : List Int) (k : Nat) : List Int := (es.take k).map nnI
theorem mL_len (es : List Int) (k : Nat) (h : k ≤ es.length) : (mL es k).length = k := by simp [mL]; omega
theorem mL_snoc (es : List Int) (k : Nat) (h : k < es.length) : mL es k ++ [nnI (es.getD k 0)] = mL es (k + 1) := by
  unfold mL
  rw [List.take_succ_eq_append_getElem h, List.map_append]
  simp [h]
theorem mL_nn (es : List Int) (k : Nat) : NonNeg (mL es k) := by
  intro n hn
  simp only [mL, List.mem_map] at hn
  obtain ⟨y, _, rfl⟩ := hn
  exact nnI_nn y
theorem mL_64 {es : List Int} (h : ∀ n ∈ es, In64 n) (k : Nat) : ∀ n ∈ mL es k, In64 n := by
  intro n hn
  simp only [mL, List.mem_map] at hn
  obtain ⟨y, hy, rfl⟩ := hn
  exact nnI_64 (h y (List.mem_of_mem_take hy))

/-- What holds at the first loop's head. -/
structure PartsRel (w0 : World) (x : Addr) (B : Nat) (es : List Int) (k : Nat) (vm vb : Value) (wr : World) : Prop where
  way : Way w0 x wr
  om : OwnI wr B vm (mL es k)
  ob : OwnI wr B vb (List.replicate k 0)
  ap : ApartV vm vb
  base : 0 < B ∧ w0.heap.size ≤ B ∧ B ≤ wr.heap.size

theorem PartsRel.next {w0 : World} {x : Addr} {B : Nat} {es : List Int} {k : Nat} {vm vb vm' vb' : Value} {wr w1 w2 : World} {o o' : Obj} (h : PartsRel w0 x B es k vm vb wr) (hk : k < es.length)
    (h1 : OwnI w1 B vm' (mL es k ++ [nnI (es.getD k 0)])) (g1 : Grew (wr.alloc o) w1 vm vm') (h2 : OwnI w2 B vb' (List.replicate k 0 ++ [0])) (g2 : Grew (w1.alloc o') w2 vb vb') :
    PartsRel w0 x B es (k + 1) vm' vb' w2 := by
  have b0 := h.base
  have s0 : (wr.alloc o).heap.size = wr.heap.size + 1 := by simp
  have bel1 : Below B wr w1 := Grew.below ((Below.refl _ _).alloc (by omega) _) (h.om.alloc o) g1 (by omega)
  have ob1 : OwnI w1 B vb (List.replicate k 0) := (h.ob.alloc o).grew g1 h.ap.symm
  have ap1 : ApartV vm' vb := h.ap.grew_left g1 (h.ob.alloc o)
  have hs1 := bel1.size
  have s1 : (w1.alloc o').heap.size = w1.heap.size + 1 := by simp
  have bel2 : Below B w1 w2 := Grew.below ((Below.refl _ _).alloc (by omega) _) (ob1.alloc o') g2 (by omega)
  have om2 : OwnI w2 B vm' (mL es (k + 1)) := by rw [← mL_snoc es k hk]; exact (h1.alloc o').grew g2 ap1
  have ap2 : ApartV vb' vm' := ap1.symm.grew_left g2 (h1.alloc o')
  have hs2 := bel2.size
  have bel := bel1.trans bel2
  exact ⟨⟨h.way.bel.trans (bel.mono b0.2.1), h.way.sent.below bel b0.1⟩, om2, by rw [List.replicate_succ']; exact h2, ap2.symm, b0.1, b0.2.1, by omega⟩

/-- What holds at the second loop's head: i numbers are stored, from the end on. -/
structure BackRel (w0 : World) (x : Addr) (B : Nat) (m : List Int) (i : Nat) (vm vb : Value) (wr : World) : Prop where
  way : Way w0 x wr
  om : OwnI wr B vm m
  ob : OwnI wr B vb (backL m i)
  ap : ApartV vm vb
  base : 0 < B ∧ w0.heap.size ≤ B ∧ B ≤ wr.heap.size

theorem BackRel.next {w0 : World} {x : Addr} {B : Nat} {m : List Int} {i gb cb : Nat} {vm : Value} {wr : World} (h : BackRel w0 x B m i vm (.slice (some ⟨gb, 0, none⟩) m.length cb) wr) (hi : i < m.length) (hg : B ≤ gb) :
    BackRel w0 x B m (i + 1) vm (.slice (some ⟨gb, 0, none⟩) m.length cb) (wr.setCell ⟨gb, m.length - 1 - i, none⟩ (.int .i64 (m.getD i 0))) := by
  have b0 := h.base
  have bel : Below B wr (wr.setCell ⟨gb, m.length - 1 - i, none⟩ (.int .i64 (m.getD i 0))) := (Below.refl _ _).setCell hg _
  have ho := h.ob.store (m.length - 1 - i) (m.getD i 0)
  rw [backL_set m i hi] at ho
  refine ⟨⟨h.way.bel.trans (bel.mono b0.2.1), h.way.sent.below bel b0.1⟩, h.om.setCell (fun e => ?_) _, ho, h.ap, b0.1, b0.2.1, Nat.le_trans b0.2.2 bel.size⟩
  rcases h.ap with h' | h'
  · rw [h'] at e; cases e
  · exact h' e

set_option maxRecDepth 100000 in
set_option maxHeartbeats 4000000 in
theorem parts_core (a : Option Addr) (la ca : Nat) (es : List Int) (at' : Int) (x : Addr) (w : World) (h1 : la ≤ 2000) (hi : IsInts w a la es) (hat : In64 at') (hg : Sent x w) :
    Calls Tryd.prog 7 #[.slice a la ca, .int .i64 at'] w fun e w' => e = .returned (.bool true) ∧ Below w.heap.size w w' := by
  have hat' : -9223372036854775808 ≤ at' ∧ at' ≤ 9223372036854775807 := hat
  have H := Lib.hid hg
  have I := Lib.hid hi
  have L := Lib.hid hi.1
  have d1 : decide ((2000 : Int) < la) = false := by simp; omega
  clear hg hi
  go_enter Tryd.func7, Tryd.ntmps7
  go_wp2_with fail
  refine (shown_any x _ H.out).mono ?_
  rintro r w1 ⟨rfl, b1⟩
  have H1 := Lib.hid b1; clear b1
  go_wp2_with fail
  go_loopw [6, 7, 8] (fun vm vb i wr => ∃ k : Nat, k ≤ la ∧ i = .int .i64 k ∧ PartsRel w x w1.heap.size es k vm vb wr) (fun _ _ i _ => la - (intOf i).toNat)
  case atStart => exact ⟨0, Nat.zero_le _, rfl, H1.out, OwnI.nil _ _, OwnI.nil _ _, .inl rfl, H1.out.sent.pos, H1.out.bel.size, Nat.le_refl _⟩
  case round =>
    obtain ⟨k, hk, rfl, hR⟩ := hrel
    by_cases hlt : k < la
    · have hlt' : k < es.length := by rw [L.out]; exact hlt
      have I' := (I.out.below hR.way.bel (Nat.le_refl _))
      obtain ⟨b, off, rfl, hb, hcell⟩ : ∃ b off, a = some ⟨b, off, none⟩ ∧ b < wr.heap.size ∧ ∀ i, i < la → wr.cell? ⟨b, off + i, none⟩ = some (.int .i64 (es.getD i 0)) := by
        rcases I'.2.1 with h | h
        · omega
        · exact h
      have hck := hcell k hlt
      have hz64 : -9223372036854775808 ≤ es.getD k 0 ∧ es.getD k 0 ≤ 9223372036854775807 := in64_getD I'.2.2 k
      obtain ⟨z, hz⟩ : ∃ z, es.getD k 0 = z := ⟨_, rfl⟩
      rw [hz] at hck hz64
      have HZ := Lib.hid hz
      have HR := Lib.hid hR
      have HL := Lib.hid (mL_len es k (by omega))
      clear hcell hz I' hR hlt'
      by_cases hz0 : z < 0
      · have hn : nnI z = -(z + 1) := if_pos hz0
        have HN := Lib.hid hn
        clear hn
        go_wp2_with (first
          | (at_builtin; refine wpList_app1 rfl (.tmp 46) (.tmp 48) rfl w1.heap.size u6 (mL es k) (-(z + 1)) rfl (HR.out.om.alloc _) wr.heap.size 1 rfl (heap_alloc_new _ _) (by rw [HL.out]; omega) (by have := HR.out.base; simp; omega) ?_; intro v1 w2 O1 G1; have HO1 := Lib.hid O1; have HG1 := Lib.hid G1; clear O1 G1)
          | (at_builtin; refine wpList_app1 rfl (.tmp 50) (.tmp 51) rfl w1.heap.size u7 (List.replicate k 0) 0 rfl (((HR.out.ob.alloc _).grew HG1.out HR.out.ap.symm).alloc _) w2.heap.size 1 rfl (heap_alloc_new _ _) (by simp; omega) (by have := HR.out.base; have := HG1.out.1.size; simp at this ⊢; omega) ?_; intro v2 w3 O2 G2; have HO2 := Lib.hid O2; have HG2 := Lib.hid G2; clear O2 G2))
        · exact ⟨⟨k + 1, by omega, by go_num, HR.out.next (by rw [L.out]; exact hlt) (by rw [HZ.out, HN.out]; exact HO1.out) HG1.out HO2.out HG2.out⟩, by simp [intOf]; omega⟩
      · have hn : nnI z = z := if_neg hz0
        have HN := Lib.hid hn
        clear hn
        go_wp2_with (first
          | (at_builtin; refine wpList_app1 rfl (.tmp 46) (.tmp 48) rfl w1.heap.size u6 (mL es k) (z) rfl (HR.out.om.alloc _) wr.heap.size 1 rfl (heap_alloc_new _ _) (by rw [HL.out]; omega) (by have := HR.out.base; simp; omega) ?_; intro v1 w2 O1 G1; have HO1 := Lib.hid O1; have HG1 := Lib.hid G1; clear O1 G1)
          | (at_builtin; refine wpList_app1 rfl (.tmp 50) (.tmp 51) rfl w1.heap.size u7 (List.replicate k 0) 0 rfl (((HR.out.ob.alloc _).grew HG1.out HR.out.ap.symm).alloc _) w2.heap.size 1 rfl (heap_alloc_new _ _) (by simp; omega) (by have := HR.out.base; have := HG1.out.1.size; simp at this ⊢; omega) ?_; intro v2 w3 O2 G2; have HO2 := Lib.hid O2; have HG2 := Lib.hid G2; clear O2 G2))
        · exact ⟨⟨k + 1, by omega, by go_num, HR.out.next (by rw [L.out]; exact hlt) (by rw [HZ.out, HN.out]; exact HO1.out) HG1.out HO2.out HG2.out⟩, by simp [intOf]; omega⟩
    · have hkl : k = la := by omega
      subst hkl
      have hmfull : mL es k = es.map nnI := by unfold mL; rw [List.take_of_length_le (by rw [L.out]; omega)]
      have hlm : (es.map nnI).length = k := by rw [List.length_map, L.out]
      have hnn : NonNeg (es.map nnI) := by rw [← hmfull]; exact mL_nn es k
      have h64 : ∀ n ∈ es.map nnI, In64 n := by rw [← hmfull]; exact mL_64 I.out.2.2 k
      obtain ⟨m, hm⟩ : ∃ m, es.map nnI = m := ⟨_, rfl⟩
      rw [hm] at hmfull hlm hnn h64
      have hB : BackRel w x w1.heap.size m 0 u6 u7 wr := ⟨hR.way, by rw [← hmfull]; exact hR.om, by rw [backL_zero, hlm]; exact hR.ob, hR.ap, hR.base⟩
      clear hR hmfull hm
      obtain ⟨am, cm, e6, _⟩ := hB.om.ints h64
      obtain ⟨ab, cb, e7, _⟩ := hB.ob.ints (es := backL m 0) (by rw [backL_zero]; intro n hn; rw [List.eq_of_mem_replicate hn]; exact in64_0)
      rw [backL_len m 0 (by omega), hlm] at e7
      rw [hlm] at e6
      subst e6 e7
      have HLM := Lib.hid hlm
      have HB := Lib.hid hB
      have HNN := Lib.hid hnn
      have H64 := Lib.hid h64
      have hle : m.length ≤ 2000 := by omega
      clear hlm hB hnn h64 L I
      go_wp2_with fail
      obtain ⟨wo, rfl⟩ : ∃ wo : World, wo = wr := ⟨_, rfl⟩
      go_loopw [10] (fun i wr => ∃ j : Nat, j ≤ k ∧ i = .int .i64 j ∧ BackRel w x w1.heap.size m j (.slice am k cm) (.slice ab k cb) wr) (fun i _ => k - (intOf i).toNat)
      case atStart => exact ⟨0, Nat.zero_le _, rfl, HB.out⟩
      case round =>
        obtain ⟨i, hi, rfl, hR⟩ := hrel
        have hlm := HLM.out
        by_cases hlt2 : i < k
        · obtain ⟨gm, cm', em, hcm, _, _, _, hcellm, _⟩ := hR.om.at (by omega)
          obtain ⟨gb, cb', eb, hcb, hcbm, hBgb, hgb, hcellb, hfzb⟩ := hR.ob.at (by rw [backL_len m i (by omega)]; omega)
          rw [backL_len m i (by omega), hlm] at eb hcellb hcb
          rw [hlm] at em hcm
          injection em with em1 en em2
          injection eb with eb1 en' eb2
          subst em1 em2 eb1 eb2
          clear en en'
          have hck := hcellm i (by omega)
          have hcs := hcellb (k - 1 - i) (by omega)
          have hfz := hfzb (k - 1 - i)
          obtain ⟨z, hz⟩ : ∃ z, m.getD i 0 = z := ⟨_, rfl⟩
          obtain ⟨z', hz'⟩ : ∃ z, (backL m i).getD (k - 1 - i) 0 = z := ⟨_, rfl⟩
          rw [hz] at hck
          rw [hz'] at hcs
          have HZ := Lib.hid hz
          have HR := Lib.hid hR
          clear hz hz' hcellm hcellb hR hfzb hlm
          go_wp2_with fail
          go_roundw
          case rel => exact ⟨i + 1, by omega, by go_num, by have h := HR.out; rw [← HLM.out] at h; have h' := h.next (by rw [HLM.out]; exact hlt2) hBgb; rw [HLM.out, HZ.out] at h'; exact h'⟩
          case measure => simp [intOf]; omega
        · have hil : i = k := by omega
          subst hil
          have HR := Lib.hid hR
          clear hR HB
          obtain ⟨-, hcm1, hcm2⟩ := HR.out.om.cap
          unfold maxLen at hcm2
          clear hlm
          have hle' : (i : Int) ≤ 2000 := by omega
          go_upto_if 72 with (fail)
          go_cut [11] (fun kk wx => ∃ k : Nat, k ≤ i ∧ kk = .int .i64 k ∧ wx = wr)
          case first =>
            by_cases h0 : i = 0
            · have e0 : i ≤ 0 := by omega
              clear h0
              go_wp2_with fail
              go_meet
              exact ⟨0, Nat.zero_le _, rfl, rfl⟩
            · have e0 : 0 < i := by omega
              obtain ⟨gm, cm', em, hcm, _, _, _, hcellm, _⟩ := HR.out.om.at (by have := HLM.out; omega)
              injection em with em1 en em2
              subst em1 em2
              clear en
              have hck := hcellm 0 (by have := HLM.out; omega)
              have hz0 : 0 ≤ m.getD 0 0 := by
                have e : m.getD 0 0 = m[0]'(by have := HLM.out; omega) := by simp [List.getD, List.getElem?_eq_getElem (by have := HLM.out; omega : 0 < m.length)]
                rw [e]; exact HNN.out _ (List.getElem_mem _)
              obtain ⟨z, hz⟩ : ∃ z, m.getD 0 0 = z := ⟨_, rfl⟩
              rw [hz] at hck hz0
              clear hz hcellm
              have hpos : (0 : Int) < i := by omega
              have r1 : 0 ≤ z % (i : Int) := Int.emod_nonneg _ (by omega)
              have r2 : z % (i : Int) < i := Int.emod_lt_of_pos _ hpos
              by_cases hat0 : 0 ≤ at'
              · have r3 : 0 ≤ at' % (i : Int) := Int.emod_nonneg _ (by omega)
                have r4 : at' % (i : Int) < i := Int.emod_lt_of_pos _ hpos
                go_wp2_with fail
                go_meet
                exact ⟨(at' % (i : Int)).toNat, by omega, by rw [Int.toNat_of_nonneg r3], rfl⟩
              · go_wp2_with fail
                go_meet
                exact ⟨(z % (i : Int)).toNat, by omega, by rw [Int.toNat_of_nonneg r1], rfl⟩
          case rest =>
            obtain ⟨kk, hkk, rfl, rfl⟩ := hcut
            have IM := HR.out.om.isInts H64.out
            have IB0 := HR.out.ob.isInts (es := backL m i) (by rw [← HLM.out, backL_all]; intro n hn; exact H64.out n (by simpa using hn))
            rw [show backL m i = m.reverse from by rw [← HLM.out, backL_all]] at IB0
            have IM := Lib.hid IM
            have IB := Lib.hid IB0
            have law := parts_law HNN.out kk
            have W0 := Lib.hid HR.out.way
            obtain ⟨T, hT⟩ : ∃ T, totO m = T := ⟨_, rfl⟩
            obtain ⟨T1, hT1⟩ : ∃ T, totO (m.take kk) = T := ⟨_, rfl⟩
            obtain ⟨T2, hT2⟩ : ∃ T, totO (m.drop kk) = T := ⟨_, rfl⟩
            rw [hT, hT1, hT2] at law
            have hTr := law.1
            have law2 := law.2
            have c1 : ∀ w, IsInts w am i m → Sent x w → Calls Tryd.prog 15 #[.slice am i cm] w fun e w' => e = .returned (.tuple #[.int .i64 (valO T), .int .i64 (errO T)]) ∧ Below w.heap.size w w' := fun w h1 h2 => by
              rw [← hT]; exact Total_any am i cm m x w (by omega) h1 h2
            have c2 : ∀ w, IsInts w ab i m.reverse → Sent x w → Calls Tryd.prog 15 #[.slice ab i cb] w fun e w' => e = .returned (.tuple #[.int .i64 (valO T), .int .i64 (errO T)]) ∧ Below w.heap.size w w' := fun w h1 h2 => by
              rw [← hTr]; exact Total_any ab i cb m.reverse x w (by omega) h1 h2
            have c3 : ∀ w, IsInts w am i m → Sent x w → Calls Tryd.prog 15 #[.slice am kk cm] w fun e w' => e = .returned (.tuple #[.int .i64 (valO T1), .int .i64 (errO T1)]) ∧ Below w.heap.size w w' := fun w h1 h2 => by
              rw [← hT1]; exact Total_any am kk cm (m.take kk) x w (by omega) (h1.take hkk) h2
            have c4 : ∀ w (a' : Option Addr) (c' : Nat), IsInts w am i m → (kk < i → a' = am.map (·.add kk)) → Sent x w → Calls Tryd.prog 15 #[.slice a' (i - kk) c'] w fun e w' => e = .returned (.tuple #[.int .i64 (valO T2), .int .i64 (errO T2)]) ∧ Below w.heap.size w w' := fun w a' c' h1 ha h2 => by
              rw [← hT2]; exact Total_any a' (i - kk) c' (m.drop kk) x w (by omega) (h1.drop hkk a' ha) h2
            have C1 := Lib.hid c1
            have C2 := Lib.hid c2
            have C3 := Lib.hid c3
            have C4 := Lib.hid c4
            have LAW2 := Lib.hid law2
            have B1 : ∀ n, T1 = some n → In64 n := fun n h => totO_bd (hT1.trans h)
            have B2 : ∀ n, T2 = some n → In64 n := fun n h => totO_bd (hT2.trans h)
            have HB1 := Lib.hid B1
            have HB2 := Lib.hid B2
            clear c1 c2 c3 c4 law law2 hT hT1 hT2 hTr B1 B2 IB0 HR
            go_wp2_with fail
            refine (C1.out _ IM.out W0.out.sent).mono ?_
            rintro r w2 ⟨rfl, b2⟩
            have H2 := Lib.hid (W0.out.call b2)
            have IM2 := Lib.hid (IM.out.below b2 (Nat.le_refl _))
            have IB2 := Lib.hid (IB.out.below b2 (Nat.le_refl _))
            clear b2 IM IB W0
            go_wp2_with fail
            refine (C2.out _ IB2.out H2.out.sent).mono ?_
            rintro r w3 ⟨rfl, b3⟩
            have H3 := Lib.hid (H2.out.call b3)
            have IM3 := Lib.hid (IM2.out.below b3 (Nat.le_refl _))
            clear b3 IM2 IB2 H2
            go_wp2_with fail
            refine (C3.out _ IM3.out H3.out.sent).mono ?_
            rintro r w4 ⟨rfl, b4⟩
            have H4 := Lib.hid (H3.out.call b4)
            have IM4 := Lib.hid (IM3.out.below b4 (Nat.le_refl _))
            clear b4 IM3 H3
            go_wp2_with fail
            all_goals
              refine (C4.out _ _ _ IM4.out ?_ H4.out.sent).mono ?_
              · intro hlt
                first | rfl | (exfalso; omega)
              rintro r w5 ⟨rfl, b5⟩
              have H5 := Lib.hid (H4.out.call b5)
              clear b5 IM4 H4
              rcases LAW2.out with ⟨h, h'⟩ | ⟨n1, n2, h, h', h''⟩
              · subst h
                rcases h' with h' | h'
                · subst h'
                  clear HB1 HB2 LAW2 C1 C2 C3 C4
                  go_wp2_with fail
                  go_ret
                  exact ⟨rfl, H5.out.bel⟩
                · subst h'
                  cases T1 with
                  | none =>
                    clear HB1 HB2 LAW2 C1 C2 C3 C4
                    go_wp2_with fail
                    go_ret
                    exact ⟨rfl, H5.out.bel⟩
                  | some n1 =>
                    clear HB1 HB2 LAW2 C1 C2 C3 C4
                    go_wp2_with fail
                    go_ret
                    exact ⟨rfl, H5.out.bel⟩
              · subst h h'
                have hadd := Lib.hid (Add_any n1 n2 x w5 (HB1.out _ rfl) (HB2.out _ rfl) H5.out.sent)
                rw [← h''] at hadd
                clear h'' HB1 HB2 LAW2 C1 C2 C3 C4
                cases T with
                | none =>
                  go_wp2_with fail
                  refine hadd.out.mono ?_
                  rintro r w6 ⟨rfl, b6⟩
                  have H6 := Lib.hid (H5.out.call b6)
                  clear b6
                  go_wp2_with fail
                  go_ret
                  exact ⟨rfl, H6.out.bel⟩
                | some n =>
                  go_wp2_with fail
                  refine hadd.out.mono ?_
                  rintro r w6 ⟨rfl, b6⟩
                  have H6 := Lib.hid (H5.out.call b6)
                  clear b6
                  go_wp2_with fail
                  go_ret
                  exact ⟨rfl, H6.out.bel⟩

theorem parts_big (a : Option Addr) (la ca : Nat) (at' : Int) (x : Addr) (w : World) (h : 2000 < la) (hg : Sent x w) :
    Calls Tryd.prog 7 #[.slice a la ca, .int .i64 at'] w fun e w' => e = .returned (.bool true) ∧ Below w.heap.size w w' := by
  have H := Lib.hid hg
  have d1 : decide ((2000 : Int) < la) = true := by simp; omega
  clear hg h
  go_enter Tryd.func7, Tryd.ntmps7
  go_wp2_with fail
  refine (shown_any x _ H.out).mono ?_
  rintro r w1 ⟨rfl, b1⟩
  have H1 := Lib.hid b1; clear b1
  go_wp2_with fail
  go_ret
  exact ⟨rfl, H1.out.bel⟩

theorem parts_walk (a : Option Addr) (la ca : Nat) (es : List Int) (at' : Int) (x : Addr) (w : World) (hi : IsInts w a la es) (_ : la ≤ maxLen) (hat : In64 at') (hg : Sent x w) :
    Calls Tryd.prog 7 #[.slice a la ca, .int .i64 at'] w fun e w' => e = .returned (.bool true) ∧ Below w.heap.size w w' := by
  by_cases h : 2000 < la
  · exact parts_big a la ca at' x w h hg
  · exact parts_core a la ca es at' x w (by omega) hi hat hg
end Go.Proofs.YtjdpocoahinbfaaDoor
