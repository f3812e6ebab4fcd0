/-
  clause.Units.
-/
import Derived.Test.YtngegkgmenfelaaGij
import Derived.Deep.LoopGhost
namespace Go.Proofs.Ytngegkgmenfelaa
open Go.RowKit Go.Lib
attribute [local go_sem ↓] Go.wp_at_zero Go.wp_at_succ

/-- make([]int, k). -/
theorem make_ints (k : Nat) (hk : k ≤ 1000000) (w : World) : (Instr.makeSlice 23 (.int .i64 k) (.int .i64 k)).run Try.prog w = .ok (.slice (some ⟨w.heap.size, 0, none⟩) k k) (w.alloc (.cells (Array.replicate k (.int .i64 0)) 3)) := by
  obtain ⟨i0, hi0, hz0, hz1, hz2⟩ := info_parts info3
  have h := run_make (P := Try.prog) w 23 3 i0 (.int .i64 0) Try.underlying23 hi0 hz0 .i64 .i64 k k (by omega) (Int.le_refl _) (by rw [hz2]; omega) (by omega)
  rw [hz1, Int.toNat_natCast, Nat.mul_one] at h
  rw [h]
  congr 3
  apply Array.ext
  · simp [madeCells]
  · intro j h1 h2
    simp [madeCells, Value.cells, Nat.mod_one]
theorem Row.made (w : World) (k : Nat) (hk : k ≤ 1000000) : Row (w.alloc (.cells (Array.replicate k (.int .i64 0)) 3)) 3 1 (.slice (some ⟨w.heap.size, 0, none⟩) k k) (ints (List.replicate k 0)) :=
  Row.own (n := k) ⟨by simp [ints], .inr ⟨w.heap.size, k, Array.replicate k (.int .i64 0), rfl, Nat.zero_le _, heap_alloc_new _ _, Nat.le_refl _, by unfold maxLen; omega, by simp, by simp [ints]⟩⟩

theorem intsA_set (A : List Int) (j : Nat) (v : Int) : (ints A).set j (.int .i64 v) = ints (A.set j v) := by simp [ints, List.map_set]
theorem Row.setA {w : World} {g n c : Nat} {A : List Int} (h : Row w 3 1 (.slice (some ⟨g, 0, none⟩) n c) (ints A)) (x : Int) : Row (w.setCell ⟨g, x.natAbs - 1, none⟩ (.int .i64 (sgn x))) 3 1 (.slice (some ⟨g, 0, none⟩) n c) (ints (setA A x)) := by
  have := h.store (x.natAbs - 1) (.int .i64 (sgn x))
  rw [intsA_set] at this
  exact this

/-- What set does. -/
def SetPost (w : World) (t : Value) (A : List Int) (x : Int) (e : Ending) (w' : World) : Prop := e = .returned (.bool true) ∧ Row w' 3 1 t (ints (setA A x)) ∧ ∀ m, (∀ k, t.ownBlock = some k → m ≤ k) → Below m w w'
theorem set_row {w : World} {t : Value} {A : List Int} (hr : Row w 3 1 t (ints A)) (h3 : Three A) (hl : A.length ≤ 20000) (x : Int) (hx : In64 x) (hok : okLit x A.length = true) (hlit : litA A x ≠ -1) :
    Calls Try.prog 54 #[t, .int .i64 x] w (SetPost w t A x) := by
  refine (set_ok hr h3 hl x hx hok hlit).mono ?_
  rintro e w' ⟨g, c, rfl, rfl, rfl⟩
  exact ⟨rfl, hr.setA x, fun m hm => (Below.refl m w).setCell (hm g rfl) _⟩

/-- The assignment in memory. -/
def UnRel (w0 : World) (t : Value) (n : Nat) (L : List (List Int)) (G D A : List Int) (wr : World) : Prop := Row wr 3 1 t (ints A) ∧ UnA n L G D A ∧ Below w0.heap.size w0 wr
/-- What Units tells. -/
def UnPost (w : World) (n : Nat) (L : List (List Int)) (G : List Int) (e : Ending) (w' : World) : Prop :=
  Below w.heap.size w w' ∧ ((Bad n L G ∧ e = .returned (.tuple #[.slice none 0 0, .bool false])) ∨ ∃ A t, Told n L G A ∧ e = .returned (.tuple #[t, .bool true]) ∧ Row w' 3 1 t (ints A) ∧ Fresh w t)

theorem take_snoc {G : List Int} {k : Nat} (h : k < G.length) : G.take (k + 1) = G.take k ++ [G.getD k 0] := by
  rw [List.take_succ_eq_append_getElem h, List.getD_eq_getElem?_getD, List.getElem?_eq_getElem h, Option.getD_some]

set_option maxRecDepth 100000 in
theorem Units_no {w : World} {s u : Value} {L : List (List Int)} {G : List Int} (n : Int) (h : ReadsL w s L) (hg : Reads w u G) (hx : In64L L) (hr : rightB n L = false) :
    Calls Try.prog 32 #[.int .i64 n, s, u] w fun e w' => e = .returned (.tuple #[.slice none 0 0, .bool false]) ∧ Below w.heap.size w w' := by
  have HR := Lib.hid (Right_any n h hx)
  rw [hr] at HR
  obtain ⟨a, c, rfl⟩ := h.form
  obtain ⟨ua, uc, rfl⟩ := hg.form
  generalize L.length = q at *
  generalize G.length = gq at *
  clear h hx hr hg
  go_enter Try.func32, Try.ntmps32
  go_wp2_with (go_at_call 31; refine HR.out.mono ?_; rintro e w1 ⟨rfl, h1⟩; have H1 := Lib.hid h1; clear h1)
  go_ret2
  exact ⟨rfl, H1.out⟩

set_option maxRecDepth 100000 in
set_option maxHeartbeats 4000000 in
theorem Units_ok {w : World} {s u : Value} {L : List (List Int)} {G : List Int} (n : Nat) (h : ReadsL w s L) (hg : Reads w u G) (hx : In64L L) (hgx : ∀ x ∈ G, In64 x) (hr : rightB n L = true) (hG : G.length ≤ 1000000) :
    Calls Try.prog 32 #[.int .i64 (n : Nat), s, u] w (UnPost w n L G) := by
  obtain ⟨hn, hL, hc⟩ := rightB_all hr
  have HR := Lib.hid (Right_any n h hx)
  rw [hr] at HR
  have hmk := make_ints n (by omega)
  have hmade := Lib.hid fun w => Row.made w n (by omega)
  obtain ⟨a, c, rfl⟩ := h.form
  obtain ⟨ua, uc, rfl⟩ := hg.form
  have HL := Lib.hid h
  have HG := Lib.hid hg
  have HC := Lib.hid hc
  have HX := Lib.hid hx
  have HGX := Lib.hid hgx
  obtain ⟨q, hq⟩ : ∃ q, L.length = q := ⟨_, rfl⟩
  obtain ⟨gq, hgq⟩ : ∃ gq, G.length = gq := ⟨_, rfl⟩
  rw [hq] at hL HR HL
  rw [hgq] at hG HG
  have HQ := Lib.hid hq
  have HGQ := Lib.hid hgq
  clear h hx hr hc hg hgx hq hgq
  simp only [show L.length = q from HQ.out, show G.length = gq from HGQ.out]
  go_enter Try.func32, Try.ntmps32
  go_wp2_with (go_at_call 31; refine HR.out.mono ?_; rintro e w1 ⟨rfl, h1⟩; have H1 := Lib.hid h1; clear h1)
  clear hmk
  have REL0 : UnRel w (.slice (some ⟨w1.heap.size, 0, none⟩) n n) n L G (G.take 0) (List.replicate n 0) (w1.alloc (.cells (Array.replicate n (.int .i64 0)) 3)) :=
    ⟨hmade.out w1, by rw [List.take_zero]; exact UnA.start n L G, H1.out.alloc H1.out.size _⟩
  have HS1 : Hid (w.heap.size ≤ w1.heap.size) := Lib.hid H1.out.size
  clear hmade H1
  generalize w1.heap.size = tb at *
  generalize w1.alloc (.cells (Array.replicate n (.int .i64 0)) 3) = w2 at *
  have hlt0 : ∀ x, okLit x n = true → In64 x := fun x hx => by have := (okLit_iff x n).1 hx; unfold In64; omega
  have HLT := Lib.hid hlt0
  clear hlt0
  go_loopw [6, 7, 23] (fun _ _ v23 wr => ∃ (k : Nat) (A : List Int), v23 = .int .i64 k ∧ k ≤ gq ∧ UnRel w (.slice (some ⟨tb, 0, none⟩) n n) n L G (G.take k) A wr) (fun _ _ v23 _ => gq - (intOf v23).toNat)
  case atStart => exact ⟨0, _, rfl, Nat.zero_le _, REL0⟩
  case round =>
    clear REL0
    obtain ⟨k, A, rfl, hk, hrow, hun, hbel⟩ := hrel
    by_cases hlt : k < gq
    · have hkG : k < G.length := by rw [HGQ.out]; exact hlt
      obtain ⟨gb, off, c', e, _, hcc⟩ := (HG.out.below hbel (Nat.le_refl _)).resolve_left (fun h => by rw [h.2] at hkG; simp at hkG)
      injection e with e1 n1 n2
      subst e1
      clear n1 n2
      have ck := hcc k hkG
      have hxG : G.getD k 0 ∈ G := mem_getD hkG
      have HX1 := HGX.out _ hxG
      have HTK := take_snoc hkG
      have hk1 : (k : Int) < (gq : Int) := by omega
      have hk0 : (0 : Int) ≤ (k : Int) := by omega
      clear hcc hkG
      by_cases hbad : okLit (G.getD k 0) A.length = false ∨ litA A (G.getD k 0) = -1
      · have HB := Lib.hid (hun.setBad hxG hbad)
        have HS := Lib.hid (set_no hrow.reads hun.three (by rw [hun.len]; exact hn) (G.getD k 0) HX1 hbad)
        have HBel := Lib.hid hbel
        generalize G.getD k 0 = x at *
        clear hrow hun hbad hbel HX1 HTK hxG
        as_aux_lemma =>
        go_wp2_with fail
        go_at_call 54
        refine HS.out.mono ?_
        rintro e w' ⟨rfl, hw⟩
        obtain rfl := hw.symm
        go_wp2_with fail
        go_ret2
        exact ⟨HBel.out, .inl ⟨HB.out, rfl⟩⟩
      · have hok : okLit (G.getD k 0) A.length = true := by
          cases h : okLit (G.getD k 0) A.length with
          | true => rfl
          | false => exact absurd (.inl h) hbad
        have hl1 : litA A (G.getD k 0) ≠ -1 := fun h => hbad (.inr h)
        have HS := Lib.hid (set_row hrow hun.three (by rw [hun.len]; exact hn) (G.getD k 0) HX1 hok hl1)
        have HN : Hid (UnA n L G (G.take (k + 1)) (setA A (G.getD k 0))) := Lib.hid (by
          rw [HTK]
          exact hun.set (by rw [← hun.len]; exact hok) hl1 (.base hxG))
        have HBel := Lib.hid hbel
        generalize G.getD k 0 = x at *
        clear hrow hun hbad hbel HX1 HTK hxG hok hl1
        as_aux_lemma =>
        go_wp2_with fail
        go_at_call 54
        refine HS.out.mono ?_
        rintro e w' ⟨rfl, hr2, hb2⟩
        have REL1 : Hid (UnRel w (.slice (some ⟨tb, 0, none⟩) n n) n L G (G.take (k + 1)) (setA A x) w') := Lib.hid ⟨hr2, HN.out, HBel.out.trans (hb2 _ (fun k hk => by injection hk with hk; rw [← hk]; exact HS1.out))⟩
        clear hr2 hb2
        go_wp2_with fail
        go_roundw
        case rel => exact ⟨k + 1, setA A x, by go_num, by omega, REL1.out⟩
        case measure => simp [intOf]; omega
    · obtain rfl : k = gq := by omega
      rw [List.take_of_length_le (by rw [HGQ.out]; exact Nat.le_refl _)] at hun
      have REL0 : ∃ (b : Bool) (A : List Int), (Value.bool true : Value) = .bool b ∧ UnRel w (.slice (some ⟨tb, 0, none⟩) n n) n L G G A wr ∧ (if b then zeros A < n + 1 else ∀ c ∈ L, FineC A c) :=
        ⟨true, A, rfl, ⟨hrow, hun, hbel⟩, by rw [if_pos rfl]; have := zeros_le A; rw [hun.len] at this; omega⟩
      clear hrow hun hbel hlt hk HG HGX
      go_wp2_with fail
      obtain ⟨wo, hwo⟩ : ∃ wo : World, wo = wr := ⟨_, rfl⟩
      as_aux_lemma =>
      rw [← hwo] at REL0 ⊢
      clear hwo
      go_loopg [6, 7, 11] (n + 1) (fun f _ _ v11 wr => ∃ (b : Bool) (A : List Int), v11 = .bool b ∧ UnRel w (.slice (some ⟨tb, 0, none⟩) n n) n L G G A wr ∧ (if b then zeros A < f else ∀ c ∈ L, FineC A c))
      case atStart => exact REL0
      case round =>
        clear REL0
        obtain ⟨b, A, rfl, hrel, hb⟩ := hrel
        cases b with
        | false =>
          have HF := Lib.hid hb
          clear hb
          obtain ⟨hrow, hun, hbel⟩ := hrel
          have HT : Hid (Told n L G A) := Lib.hid (hun.told (fun c hc y hy => (okLit_iff y n).2 ((HC.out c hc).2 y hy)) (by have := HF.out; simpa using this))
          have HR3 := Lib.hid hrow
          have HB3 := Lib.hid hbel
          clear hrow hun hbel
          as_aux_lemma =>
          go_wp2_with fail
          go_ret2
          exact ⟨HB3.out, .inr ⟨A, _, HT.out, rfl, HR3.out, fun k hk => by injection hk with hk; rw [← hk]; exact HS1.out⟩⟩
        | true =>
          rw [if_pos rfl] at hb
          obtain ⟨f, rfl⟩ : ∃ f, gk = f + 1 := ⟨gk - 1, by omega⟩
          have REL0 : ∃ (j : Nat) (b : Bool) (A : List Int), (Value.int .i64 0 : Value) = .int .i64 j ∧ j ≤ q ∧ (Value.bool false : Value) = .bool b ∧ UnRel w (.slice (some ⟨tb, 0, none⟩) n n) n L G G A wr ∧ zeros A + (if b then 1 else 0) ≤ f ∧ (b = false → ∀ i, i < j → FineC A (L.getD i [])) :=
            ⟨0, false, A, rfl, Nat.zero_le _, rfl, hrel, by simp; omega, fun _ i hi => absurd hi (Nat.not_lt_zero _)⟩
          clear hrel hb
          go_wp2_with fail
          obtain ⟨wo, hwo⟩ : ∃ wo : World, wo = wr := ⟨_, rfl⟩
          as_aux_lemma =>
          rw [← hwo] at REL0 ⊢
          clear hwo
          go_loopw [6, 7, 11, 35] (fun _ _ v11 v35 wr => ∃ (j : Nat) (b : Bool) (A : List Int), v35 = .int .i64 j ∧ j ≤ q ∧ v11 = .bool b ∧ UnRel w (.slice (some ⟨tb, 0, none⟩) n n) n L G G A wr ∧ zeros A + (if b then 1 else 0) ≤ f ∧ (b = false → ∀ i, i < j → FineC A (L.getD i []))) (fun _ _ _ v35 _ => q - (intOf v35).toNat)
          case atStart => exact REL0
          case round =>
            clear REL0
            obtain ⟨j, b, A, rfl, hj, rfl, hrel, hz, hf⟩ := hrel
            obtain ⟨hrow, hun, hbel⟩ := hrel
            by_cases hlt : j < q
            · have hjL : j < L.length := by rw [HQ.out]; exact hlt
              obtain ⟨lb, off, c', vs, e, hlb, hcv⟩ := (HL.out.below hbel (Nat.le_refl _)).resolve_left (fun h => by rw [h.2] at hjL; simp at hjL)
              injection e with e1 n1 n2
              subst e1
              clear n1 n2
              obtain ⟨cj, hrj⟩ := hcv j hjL
              have hcL : L.getD j [] ∈ L := mem_getD hjL
              obtain ⟨hc1, hc2⟩ := HC.out _ hcL
              have HU := Lib.hid (unit_any hrj hrow.reads hun.three (by rw [hun.len]; exact hn) hc1 (HX.out _ hcL))
              have HV := Lib.hid (Value_cl hrj hrow.reads hun.three (by rw [hun.len]; exact hn) hc1 (HX.out _ hcL))
              have HUN := Lib.hid hun
              have HROW := Lib.hid hrow
              have HBel := Lib.hid hbel
              have HZ := Lib.hid hz
              have HF := Lib.hid hf
              have HCL := Lib.hid hcL
              have HC2 := Lib.hid hc2
              have hj1 : (j : Int) < (q : Int) := by omega
              have hj0 : (0 : Int) ≤ (j : Int) := by omega
              clear hcv hrj hjL hc1 hun hrow hbel hz hf hcL hc2
              generalize vs j = vj at *
              by_cases hu : unitGo A (L.getD j []) 0 = 0
              · rw [hu] at HU
                have HUE := Lib.hid hu
                by_cases hv : valC A (L.getD j []) < 0
                · have HB := Lib.hid (HUN.out.false HCL.out hv)
                  have hd : decide (valC A (L.getD j []) < 0) = true := decide_eq_true hv
                  generalize valC A (L.getD j []) = v at *
                  clear hu hv
                  as_aux_lemma =>
                  go_wp2_with fail
                  go_at_call 55
                  refine HU.out.mono ?_
                  rintro e w' ⟨rfl, hw⟩
                  obtain rfl := hw.symm
                  go_wp2_with fail
                  go_at_call 56
                  refine HV.out.mono ?_
                  rintro e w' ⟨rfl, hw⟩
                  obtain rfl := hw.symm
                  go_wp2_with fail
                  go_ret2
                  exact ⟨HBel.out, .inl ⟨HB.out, rfl⟩⟩
                · have hd : decide (valC A (L.getD j []) < 0) = false := decide_eq_false hv
                  have HFN : Hid (b = false → ∀ i, i < j + 1 → FineC A (L.getD i [])) := Lib.hid fun hb i hi => by
                    by_cases e : i = j
                    · rw [e]; exact ⟨HUE.out, hv⟩
                    · exact HF.out hb i (by omega)
                  generalize valC A (L.getD j []) = v at *
                  clear hu hv
                  as_aux_lemma =>
                  go_wp2_with fail
                  go_at_call 55
                  refine HU.out.mono ?_
                  rintro e w' ⟨rfl, hw⟩
                  obtain rfl := hw.symm
                  go_wp2_with fail
                  go_at_call 56
                  refine HV.out.mono ?_
                  rintro e w' ⟨rfl, hw⟩
                  obtain rfl := hw.symm
                  go_wp2_with fail
                  go_roundw
                  case rel => exact ⟨j + 1, b, A, by go_num, by omega, rfl, ⟨HROW.out, HUN.out, HBel.out⟩, HZ.out, HFN.out⟩
                  case measure => simp [intOf]; omega
              · obtain ⟨k1, k2, k3, k4⟩ := HUN.out.unit HCL.out (fun y hy => (okLit_iff y n).2 (HC2.out y hy)) hu
                have hd : (unitGo A (L.getD j []) 0 != 0) = true := by simpa using hu
                have HS := Lib.hid (set_row HROW.out HUN.out.three (by rw [HUN.out.len]; exact hn) _ (HLT.out _ (by rw [← HUN.out.len]; exact k1)) k1 (by rw [k2]; omega))
                have HK3 := Lib.hid k3
                have HK4 := Lib.hid k4
                clear k1 k2 k3 k4 hu
                generalize unitGo A (L.getD j []) 0 = x at *
                as_aux_lemma =>
                go_wp2_with fail
                go_at_call 55
                refine HU.out.mono ?_
                rintro e w' ⟨rfl, hw⟩
                obtain rfl := hw.symm
                go_wp2_with fail
                go_at_call 54
                refine HS.out.mono ?_
                rintro e w' ⟨rfl, hr2, hb2⟩
                have REL1 : Hid (UnRel w (.slice (some ⟨tb, 0, none⟩) n n) n L G G (setA A x) w') := Lib.hid ⟨hr2, HK3.out, HBel.out.trans (hb2 _ (fun k hk => by injection hk with hk; rw [← hk]; exact HS1.out))⟩
                clear hr2 hb2
                go_wp2_with fail
                go_roundw
                case rel => exact ⟨j + 1, true, setA A x, by go_num, by omega, rfl, REL1.out, by have h1 := HZ.out; have h2 := HK4.out; simp; omega, fun h => by cases h⟩
                case measure => simp [intOf]; omega
            · obtain rfl : j = q := by omega
              have HRL : Hid (UnRel w (.slice (some ⟨tb, 0, none⟩) n n) n L G G A wr) := Lib.hid ⟨hrow, hun, hbel⟩
              have HNX : Hid (if b = true then zeros A < f else ∀ c ∈ L, FineC A c) := Lib.hid (by
                cases b with
                | true => rw [if_pos rfl] at hz ⊢; omega
                | false =>
                  rw [if_neg (by simp)]
                  intro c hc
                  obtain ⟨i, hi, rfl⟩ := List.getElem_of_mem hc
                  have := hf rfl i (by rw [← HQ.out]; exact hi)
                  rw [List.getD_eq_getElem?_getD, List.getElem?_eq_getElem hi, Option.getD_some] at this
                  exact this)
              clear hrow hun hbel hz hf
              go_wp2_with fail
              go_roundg f
              case measure => omega
              case rel => exact ⟨b, A, rfl, HRL.out, HNX.out⟩
end Go.Proofs.Ytngegkgmenfelaa
