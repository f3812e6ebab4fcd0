/-
  The document's answer of chapter 12: Units.
-/
import Derived.Test.YtngegkgmenfelaaVbc
namespace Go.Proofs.Ytngegkgmenfelaa
open Go.RowKit Go.Lib
attribute [local go_sem ↓] Go.wp_at_zero Go.wp_at_succ

set_option maxRecDepth 100000 in
theorem UnitsR_no {w : World} {s u : Value} {L : List (List Int)} {G : List Int} (n : Int) (h : ReadsL w s L) (hg : Reads w u G) (hx : In64L L) (hL : L.length ≤ 1000000) (hcl : ∀ c ∈ L, c.length ≤ 1000000) (hr : rightB n L = false) :
    Calls Try.prog 61 #[.int .i64 n, s, u] w fun e w' => e = .returned (.tuple #[.slice none 0 0, .bool false]) ∧ Below w.heap.size w w' := by
  have HR := Lib.hid (RightR_any n h hx hL hcl)
  rw [hr] at HR
  obtain ⟨a, c, rfl⟩ := h.form
  obtain ⟨ua, uc, rfl⟩ := hg.form
  clear hL hcl
  generalize L.length = q at *
  generalize G.length = gq at *
  clear h hx hr hg
  go_enter Try.func61, Try.ntmps61
  go_wp2_with (go_at_call 37; refine HR.out.mono ?_; rintro e w1 ⟨rfl, hw⟩; obtain rfl := hw.symm)
  go_ret2
  exact ⟨rfl, Below.refl _ _⟩

set_option maxRecDepth 100000 in
set_option maxHeartbeats 4000000 in
theorem UnitsR_ok {w : World} {s u : Value} {L : List (List Int)} {G : List Int} (n : Nat) (h : ReadsL w s L) (hg : Reads w u G) (hx : In64L L) (hgx : ∀ x ∈ G, In64 x) (hr : rightB n L = true) (hG : G.length ≤ 1000000) :
    Calls Try.prog 61 #[.int .i64 (n : Nat), s, u] w (UnPost w n L G) := by
  obtain ⟨hn, hL, hc⟩ := rightB_all hr
  have HR := Lib.hid (RightR_any n h hx (by omega) (fun c hc' => by have := (hc c hc').1; omega))
  rw [hr] at HR
  have hmk := make_ints n (by omega)
  have hmade := Lib.hid fun w => Row.made w n (by omega)
  obtain ⟨a, c, rfl⟩ := h.form
  obtain ⟨ua, uc, rfl⟩ := hg.form
  have HL := Lib.hid h
  have HG := Lib.hid hg
  have HC := Lib.hid hc
  have HX := Lib.hid hx
  have HGX := Lib.hid hgx
  obtain ⟨q, hq⟩ : ∃ q, L.length = q := ⟨_, rfl⟩
  obtain ⟨gq, hgq⟩ : ∃ gq, G.length = gq := ⟨_, rfl⟩
  rw [hq] at hL HR HL
  rw [hgq] at hG HG
  have HQ := Lib.hid hq
  have HGQ := Lib.hid hgq
  clear h hx hr hc hg hgx hq hgq
  simp only [show L.length = q from HQ.out, show G.length = gq from HGQ.out]
  go_enter Try.func61, Try.ntmps61
  go_wp2_with (go_at_call 37; refine HR.out.mono ?_; rintro e w9 ⟨rfl, hw⟩; obtain rfl := hw.symm)
  clear hmk
  obtain ⟨tb, htb⟩ : ∃ tb, tb = w.heap.size := ⟨_, rfl⟩
  have REL0 : UnRel w (.slice (some ⟨tb, 0, none⟩) n n) n L G (G.take 0) (List.replicate n 0) (w.alloc (.cells (Array.replicate n (.int .i64 0)) 3)) := by
    rw [htb]
    exact ⟨hmade.out w, by rw [List.take_zero]; exact UnA.start n L G, (Below.refl _ _).alloc (Nat.le_refl _) _⟩
  have HS1 : Hid (w.heap.size ≤ tb) := Lib.hid (by rw [htb]; exact Nat.le_refl _)
  clear hmade
  rw [← htb]
  clear htb
  generalize w.alloc (.cells (Array.replicate n (.int .i64 0)) 3) = w2 at *
  have hlt0 : ∀ x, okLit x n = true → In64 x := fun x hx => by have := (okLit_iff x n).1 hx; unfold In64; omega
  have HLT := Lib.hid hlt0
  clear hlt0
  go_loopw [6, 7, 10, 11] (fun _ _ v23 _ wr => ∃ (k : Nat) (A : List Int), v23 = .int .i64 k ∧ k ≤ gq ∧ UnRel w (.slice (some ⟨tb, 0, none⟩) n n) n L G (G.take k) A wr) (fun _ _ v23 _ _ => gq - (intOf v23).toNat)
  case atStart => exact ⟨0, _, rfl, Nat.zero_le _, REL0⟩
  case round =>
    clear REL0
    obtain ⟨k, A, rfl, hk, hrow, hun, hbel⟩ := hrel
    by_cases hlt : k < gq
    · have hkG : k < G.length := by rw [HGQ.out]; exact hlt
      obtain ⟨gb, off, c', e, _, hcc⟩ := (HG.out.below hbel (Nat.le_refl _)).resolve_left (fun h => by rw [h.2] at hkG; simp at hkG)
      injection e with e1 n1 n2
      subst e1
      clear n1 n2
      have ck := hcc k hkG
      have hxG : G.getD k 0 ∈ G := mem_getD hkG
      have HX1 := HGX.out _ hxG
      have HTK := take_snoc hkG
      have hk1 : (k : Int) < (gq : Int) := by omega
      have hk0 : (0 : Int) ≤ (k : Int) := by omega
      clear hcc hkG
      by_cases hbad : okLit (G.getD k 0) A.length = false ∨ litA A (G.getD k 0) = -1
      · have HB := Lib.hid (hun.setBad hxG hbad)
        have HS := Lib.hid (setR_no hrow.reads hun.three (by rw [hun.len]; exact hn) (G.getD k 0) HX1 hbad)
        have HBel := Lib.hid hbel
        generalize G.getD k 0 = x at *
        clear hrow hun hbad hbel HX1 HTK hxG
        as_aux_lemma =>
        go_wp2_with fail
        go_at_call 67
        refine HS.out.mono ?_
        rintro e w' ⟨rfl, hw⟩
        obtain rfl := hw.symm
        go_wp2_with fail
        go_ret2
        exact ⟨HBel.out, .inl ⟨HB.out, rfl⟩⟩
      · have hok : okLit (G.getD k 0) A.length = true := by
          cases h : okLit (G.getD k 0) A.length with
          | true => rfl
          | false => exact absurd (.inl h) hbad
        have hl1 : litA A (G.getD k 0) ≠ -1 := fun h => hbad (.inr h)
        have HS := Lib.hid (setR_row hrow hun.three (by rw [hun.len]; exact hn) (G.getD k 0) HX1 hok hl1)
        have HN : Hid (UnA n L G (G.take (k + 1)) (setA A (G.getD k 0))) := Lib.hid (by
          rw [HTK]
          exact hun.set (by rw [← hun.len]; exact hok) hl1 (.base hxG))
        have HBel := Lib.hid hbel
        generalize G.getD k 0 = x at *
        clear hrow hun hbad hbel HX1 HTK hxG hok hl1
        as_aux_lemma =>
        go_wp2_with fail
        go_at_call 67
        refine HS.out.mono ?_
        rintro e w' ⟨rfl, hr2, hb2⟩
        have REL1 : Hid (UnRel w (.slice (some ⟨tb, 0, none⟩) n n) n L G (G.take (k + 1)) (setA A x) w') := Lib.hid ⟨hr2, HN.out, HBel.out.trans (hb2 _ (fun k hk => by injection hk with hk; rw [← hk]; exact HS1.out))⟩
        clear hr2 hb2
        go_wp2_with fail
        go_roundw
        case rel => exact ⟨k + 1, setA A x, by go_num, by omega, REL1.out⟩
        case measure => simp [intOf]; omega
    · obtain rfl : k = gq := by omega
      rw [List.take_of_length_le (by rw [HGQ.out]; exact Nat.le_refl _)] at hun
      have REL0 : ∃ (b : Bool) (A : List Int), (Value.bool true : Value) = .bool b ∧ UnRel w (.slice (some ⟨tb, 0, none⟩) n n) n L G G A wr ∧ (if b then zeros A < n + 1 else ∀ c ∈ L, FineC A c) :=
        ⟨true, A, rfl, ⟨hrow, hun, hbel⟩, by rw [if_pos rfl]; have := zeros_le A; rw [hun.len] at this; omega⟩
      clear hrow hun hbel hlt hk HG HGX
      go_wp2_with fail
      obtain ⟨wo, hwo⟩ : ∃ wo : World, wo = wr := ⟨_, rfl⟩
      as_aux_lemma =>
      rw [← hwo] at REL0 ⊢
      clear hwo
      go_loopg [6, 7, 12] (n + 1) (fun f _ _ v11 wr => ∃ (b : Bool) (A : List Int), v11 = .bool b ∧ UnRel w (.slice (some ⟨tb, 0, none⟩) n n) n L G G A wr ∧ (if b then zeros A < f else ∀ c ∈ L, FineC A c))
      case atStart => exact REL0
      case round =>
        clear REL0
        obtain ⟨b, A, rfl, hrel, hb⟩ := hrel
        cases b with
        | false =>
          have HF := Lib.hid hb
          clear hb
          obtain ⟨hrow, hun, hbel⟩ := hrel
          have HT : Hid (Told n L G A) := Lib.hid (hun.told (fun c hc y hy => (okLit_iff y n).2 ((HC.out c hc).2 y hy)) (by have := HF.out; simpa using this))
          have HR3 := Lib.hid hrow
          have HB3 := Lib.hid hbel
          clear hrow hun hbel
          as_aux_lemma =>
          go_wp2_with fail
          go_ret2
          exact ⟨HB3.out, .inr ⟨A, _, HT.out, rfl, HR3.out, fun k hk => by injection hk with hk; rw [← hk]; exact HS1.out⟩⟩
        | true =>
          rw [if_pos rfl] at hb
          obtain ⟨f, rfl⟩ : ∃ f, gk = f + 1 := ⟨gk - 1, by omega⟩
          have REL0 : ∃ (j : Nat) (b : Bool) (A : List Int), (Value.int .i64 0 : Value) = .int .i64 j ∧ j ≤ q ∧ (Value.bool false : Value) = .bool b ∧ UnRel w (.slice (some ⟨tb, 0, none⟩) n n) n L G G A wr ∧ zeros A + (if b then 1 else 0) ≤ f ∧ (b = false → ∀ i, i < j → FineC A (L.getD i [])) :=
            ⟨0, false, A, rfl, Nat.zero_le _, rfl, hrel, by simp; omega, fun _ i hi => absurd hi (Nat.not_lt_zero _)⟩
          clear hrel hb
          go_wp2_with fail
          obtain ⟨wo, hwo⟩ : ∃ wo : World, wo = wr := ⟨_, rfl⟩
          as_aux_lemma =>
          rw [← hwo] at REL0 ⊢
          clear hwo
          go_loopw [6, 7, 12, 13, 14] (fun _ _ v11 v35 _ wr => ∃ (j : Nat) (b : Bool) (A : List Int), v35 = .int .i64 j ∧ j ≤ q ∧ v11 = .bool b ∧ UnRel w (.slice (some ⟨tb, 0, none⟩) n n) n L G G A wr ∧ zeros A + (if b then 1 else 0) ≤ f ∧ (b = false → ∀ i, i < j → FineC A (L.getD i []))) (fun _ _ _ v35 _ _ => q - (intOf v35).toNat)
          case atStart => exact REL0
          case round =>
            clear REL0
            obtain ⟨j, b, A, rfl, hj, rfl, hrel, hz, hf⟩ := hrel
            obtain ⟨hrow, hun, hbel⟩ := hrel
            by_cases hlt : j < q
            · have hjL : j < L.length := by rw [HQ.out]; exact hlt
              obtain ⟨lb, off, c', vs, e, hlb, hcv⟩ := (HL.out.below hbel (Nat.le_refl _)).resolve_left (fun h => by rw [h.2] at hjL; simp at hjL)
              injection e with e1 n1 n2
              subst e1
              clear n1 n2
              obtain ⟨cj, hrj⟩ := hcv j hjL
              have hcL : L.getD j [] ∈ L := mem_getD hjL
              obtain ⟨hc1, hc2⟩ := HC.out _ hcL
              have HU := Lib.hid (last_any hrj hrow.reads hun.three (by rw [hun.len]; exact hn) (by omega) (HX.out _ hcL))
              have HV := Lib.hid (ValueR_any hrj hrow.reads hun.three (by rw [hun.len]; exact hn) (by omega) (HX.out _ hcL))
              have HUN := Lib.hid hun
              have HROW := Lib.hid hrow
              have HBel := Lib.hid hbel
              have HZ := Lib.hid hz
              have HF := Lib.hid hf
              have HCL := Lib.hid hcL
              have HC2 := Lib.hid hc2
              have hj1 : (j : Int) < (q : Int) := by omega
              have hj0 : (0 : Int) ≤ (j : Int) := by omega
              clear hcv hrj hjL hc1 hun hrow hbel hz hf hcL hc2
              generalize vs j = vj at *
              by_cases hu : unitGo A (L.getD j []) 0 = 0
              · rw [hu] at HU
                have HUE := Lib.hid hu
                by_cases hv : valC A (L.getD j []) < 0
                · have HB := Lib.hid (HUN.out.false HCL.out hv)
                  have hd : decide (valC A (L.getD j []) < 0) = true := decide_eq_true hv
                  generalize valC A (L.getD j []) = v at *
                  clear hu hv
                  as_aux_lemma =>
                  go_wp2_with fail
                  go_at_call 30
                  refine HV.out.mono ?_
                  rintro e w' ⟨rfl, hw⟩
                  obtain rfl := hw.symm
                  go_wp2_with fail
                  go_ret2
                  exact ⟨HBel.out, .inl ⟨HB.out, rfl⟩⟩
                · have hd : decide (valC A (L.getD j []) < 0) = false := decide_eq_false hv
                  have HFN : Hid (b = false → ∀ i, i < j + 1 → FineC A (L.getD i [])) := Lib.hid fun hb i hi => by
                    by_cases e : i = j
                    · rw [e]; exact ⟨HUE.out, hv⟩
                    · exact HF.out hb i (by omega)
                  generalize valC A (L.getD j []) = v at *
                  clear hu hv
                  as_aux_lemma =>
                  go_wp2_with fail
                  go_at_call 30
                  refine HV.out.mono ?_
                  rintro e w' ⟨rfl, hw⟩
                  obtain rfl := hw.symm
                  go_wp2_with fail
                  go_at_call 68
                  refine HU.out.mono ?_
                  rintro e w' ⟨rfl, hw⟩
                  obtain rfl := hw.symm
                  go_wp2_with fail
                  go_roundw
                  case rel => exact ⟨j + 1, b, A, by go_num, by omega, rfl, ⟨HROW.out, HUN.out, HBel.out⟩, HZ.out, HFN.out⟩
                  case measure => simp [intOf]; omega
              · obtain ⟨k1, k2, k3, k4⟩ := HUN.out.unit HCL.out (fun y hy => (okLit_iff y n).2 (HC2.out y hy)) hu
                have hd : (unitGo A (L.getD j []) 0 != 0) = true := by simpa using hu
                have hv : ¬ valC A (L.getD j []) < 0 := fun h => by
                  have h1 := (valC_le (L.getD j [])).1.1 h
                  have hne : ∀ y ∈ L.getD j [], y ≠ 0 := fun y hy => by have := HC2.out y hy; omega
                  obtain ⟨m1, _⟩ := (unitGo_spec HUN.out.three (L.getD j []) 0 hne).1 hu
                  obtain ⟨m2, m3⟩ := m1.resolve_left hu
                  have := h1 _ m2; omega
                have hdv : decide (valC A (L.getD j []) < 0) = false := decide_eq_false hv
                clear hv
                have HS := Lib.hid (setR_row HROW.out HUN.out.three (by rw [HUN.out.len]; exact hn) _ (HLT.out _ (by rw [← HUN.out.len]; exact k1)) k1 (by rw [k2]; omega))
                have HK3 := Lib.hid k3
                have HK4 := Lib.hid k4
                clear k1 k2 k3 k4 hu
                generalize unitGo A (L.getD j []) 0 = x at *
                generalize valC A (L.getD j []) = v at *
                as_aux_lemma =>
                go_wp2_with fail
                go_at_call 30
                refine HV.out.mono ?_
                rintro e w' ⟨rfl, hw⟩
                obtain rfl := hw.symm
                go_wp2_with fail
                go_at_call 68
                refine HU.out.mono ?_
                rintro e w' ⟨rfl, hw⟩
                obtain rfl := hw.symm
                go_wp2_with fail
                go_at_call 67
                refine HS.out.mono ?_
                rintro e w' ⟨rfl, hr2, hb2⟩
                have REL1 : Hid (UnRel w (.slice (some ⟨tb, 0, none⟩) n n) n L G G (setA A x) w') := Lib.hid ⟨hr2, HK3.out, HBel.out.trans (hb2 _ (fun k hk => by injection hk with hk; rw [← hk]; exact HS1.out))⟩
                clear hr2 hb2
                go_wp2_with fail
                go_roundw
                case rel => exact ⟨j + 1, true, setA A x, by go_num, by omega, rfl, REL1.out, by have h1 := HZ.out; have h2 := HK4.out; simp; omega, fun h => by cases h⟩
                case measure => simp [intOf]; omega
            · obtain rfl : j = q := by omega
              have HRL : Hid (UnRel w (.slice (some ⟨tb, 0, none⟩) n n) n L G G A wr) := Lib.hid ⟨hrow, hun, hbel⟩
              have HNX : Hid (if b = true then zeros A < f else ∀ c ∈ L, FineC A c) := Lib.hid (by
                cases b with
                | true => rw [if_pos rfl] at hz ⊢; omega
                | false =>
                  rw [if_neg (by simp)]
                  intro c hc
                  obtain ⟨i, hi, rfl⟩ := List.getElem_of_mem hc
                  have := hf rfl i (by rw [← HQ.out]; exact hi)
                  rw [List.getD_eq_getElem?_getD, List.getElem?_eq_getElem hi, Option.getD_some] at this
                  exact this)
              clear hrow hun hbel hz hf
              go_wp2_with fail
              go_roundg f
              case measure => omega
              case rel => exact ⟨b, A, rfl, HRL.out, HNX.out⟩
end Go.Proofs.Ytngegkgmenfelaa
