/-
  The document's trail: Decide, its walk.
-/
import Derived.Test.YtngegkgmenfelaaRg
namespace Go.Proofs.Ytngegkgmenfelaa
open Go.RowKit Go.Lib
attribute [local go_sem ↓] Go.wp_at_zero Go.wp_at_succ

variable {w w' : World} {M S : Nat → Prop} {p : Nat} {R : Ref}

theorem RefAt.knownK (h : RefAt w M S p R) : ∃ a l c, w.cell? ⟨p, 3, none⟩ = some (.slice a l c) := by
  obtain ⟨val, ct, vA, hm, ht⟩ := h
  obtain ⟨a, c, e, _⟩ := (hm.row .K).form
  exact ⟨a, _, c, (hm.bcell 3).trans (by rw [← e]; rfl)⟩
theorem reads_source {a : Option Addr} {n c : Nat} {xs : List Int} (h : Reads w (.slice a n c) xs) : Source w a n (ints xs) := by
  rcases h with ⟨⟨a', c', e⟩, rfl⟩ | ⟨b, off, c', e, _, hc⟩
  · injection e with _ e2 _
    exact .inl ⟨e2, rfl⟩
  · injection e with e1 e2 _
    refine .inr ⟨_, e1, fun j u hu => ?_⟩
    obtain ⟨hj, rfl⟩ := ints_get hu
    rw [add_off]
    exact hc j hj

theorem Grew.undrew {v v' : Value} (h : Grew w.drew w' v v') : Grew w w' v v' := ⟨⟨h.1.os, h.1.tape, h.1.output, h.1.size, h.1.block⟩, h.2⟩
/-- The copy of what is known. -/
theorem copy_fact {w1 : World} {v1 : Value} {xs : List Int} (h1 : Row w1 3 1 v1 ([] ++ ints xs)) (h2 : Grew (w.alloc (.cells #[] 3)) w1 (.slice (some ⟨w.heap.size, 0, none⟩) 0 0) v1) :
    Row w1 3 1 v1 (ints xs) ∧ Below w.heap.size w w1 ∧ Fresh w v1 := by
  have hb0 : Below w.heap.size w (w.alloc (.cells #[] 3)) := (Below.refl _ _).alloc (Nat.le_refl _) _
  refine ⟨by rw [List.nil_append] at h1; exact h1, hb0.grown h2.1 hb0.size (fun k hk => by injection hk with hk; rw [← hk]; exact Nat.le_refl _), fun k hk => ?_⟩
  rcases h2.2 with e | ⟨i, e, hi⟩
  · rw [hk] at e; injection e with e; rw [e]; exact Nat.le_refl _
  · rw [e] at hk; injection hk with hk; rw [← hk]; exact Nat.le_trans hb0.size hi

theorem decide_end {w8 : World} {v2 : Value} {x : Int} {m : Nat} (h : RefAt w M S p R) (h1 : Row w8 3 1 v2 ([] ++ ints R.A)) (h2 : Grew (w.alloc (.cells #[] 3)) w8 (.slice (some ⟨w.heap.size, 0, none⟩) 0 0) v2) (hm : x.natAbs = m + 1) (hl : m < R.A.length) :
    ∃ g c, v2 = .slice (some ⟨g, 0, none⟩) R.A.length c ∧ (∃ u, w8.cell? ⟨p, 4, none⟩ = some u) ∧ w8.frozen? ⟨p, 4, none⟩ = false ∧ p < w8.heap.size ∧ g < w8.heap.size ∧
      (w8.setCell ⟨p, 4, none⟩ v2).cell? ⟨p, 4, none⟩ = some v2 ∧ (∃ u, (w8.setCell ⟨p, 4, none⟩ v2).cell? ⟨g, m, none⟩ = some u) ∧ (w8.setCell ⟨p, 4, none⟩ v2).frozen? ⟨g, m, none⟩ = false ∧
      ((w8.setCell ⟨p, 4, none⟩ v2).setCell ⟨g, m, none⟩ (.int .i64 1)).cell? ⟨p, 4, none⟩ = some v2 ∧ (∃ u, ((w8.setCell ⟨p, 4, none⟩ v2).setCell ⟨g, m, none⟩ (.int .i64 1)).cell? ⟨g, m, none⟩ = some u) ∧ ((w8.setCell ⟨p, 4, none⟩ v2).setCell ⟨g, m, none⟩ (.int .i64 1)).frozen? ⟨g, m, none⟩ = false ∧
      Hid (0 ≤ x → RefPost w M S p (knownM R (setA R.A x)) ((w8.setCell ⟨p, 4, none⟩ v2).setCell ⟨g, m, none⟩ (.int .i64 1))) ∧
      Hid (x < 0 → RefPost w M S p (knownM R (setA R.A x)) (((w8.setCell ⟨p, 4, none⟩ v2).setCell ⟨g, m, none⟩ (.int .i64 1)).setCell ⟨g, m, none⟩ (.int .i64 (-1)))) := by
  obtain ⟨r1, b1, f1⟩ := copy_fact h1 h2
  have R0 := h
  obtain ⟨val, ct, vA, hmm, ht⟩ := h
  obtain ⟨g, c, ev, _, _, hg, _, _⟩ := r1.at (by rw [ints_len]; omega)
  rw [ints_len] at ev
  subst ev
  have hm8 := hmm.below b1
  have hmb := hm8.setBox 4 (.slice (some ⟨g, 0, none⟩) R.A.length c)
  have hgp : g ≠ p := fun e => by
    have := f1 g rfl
    have := hmm.size; omega
  have rb : Row (w8.setCell ⟨p, 4, none⟩ (.slice (some ⟨g, 0, none⟩) R.A.length c)) 3 1 (.slice (some ⟨g, 0, none⟩) R.A.length c) (ints R.A) := r1.kept fun k hk => heap_setCell_other w8 ⟨p, 4, none⟩ k _ (fun e => by
    injection hk with hk; exact hgp (hk.trans e))
  have s1 := rb.store m (.int .i64 1)
  have s2 := s1.store m (.int .i64 (-1))
  obtain ⟨g0, c0, e0, _, _, _, hc0, hf0⟩ := rb.at (by rw [ints_len]; omega)
  obtain ⟨g9, c9, e9, _, _, _, hc9, hf9⟩ := s1.at (by rw [List.length_set, ints_len]; omega)
  injection e0 with e0 _ _; injection e0 with e0; injection e0 with e0 _ _; subst e0
  injection e9 with e9 _ _; injection e9 with e9; injection e9 with e9 _ _; subst e9
  have k1 : Keep (fun k => k < w8.heap.size ∧ (Value.slice (some ⟨g, 0, none⟩) R.A.length c).ownBlock ≠ some k) (w8.setCell ⟨p, 4, none⟩ (.slice (some ⟨g, 0, none⟩) R.A.length c)) ((w8.setCell ⟨p, 4, none⟩ (.slice (some ⟨g, 0, none⟩) R.A.length c)).setCell ⟨g, m, none⟩ (.int .i64 1)) := (Keep.refl _ _).setCell (p := ⟨g, m, none⟩) (fun hk => hk.2 rfl) _
  have k2 := k1.setCell (p := ⟨g, m, none⟩) (fun hk => hk.2 rfl) (.int .i64 (-1))
  have hv : ∀ k, (Value.slice (some ⟨g, 0, none⟩) R.A.length c).ownBlock = some k → k < w8.heap.size := fun k hk => r1.lt k hk
  have gp : (w8.setCell ⟨p, 4, none⟩ (.slice (some ⟨g, 0, none⟩) R.A.length c)).cell? ⟨p, 4, none⟩ = some (.slice (some ⟨g, 0, none⟩) R.A.length c) := (hmb.bcell 4).trans (by simp [boxR])
  refine ⟨g, c, rfl, ⟨vA, hm8.bcell 4⟩, hm8.bfr 4, hm8.size, hg, gp, ⟨_, hc0 m _ (ints_at hl)⟩, hf0 m, ?_, ⟨_, hc9 m _ (by rw [List.getElem?_set_self (by rw [ints_len]; exact hl)])⟩, hf9 m, Lib.hid fun hx => ?_, Lib.hid fun hx => ?_⟩
  · exact (World.cell?_of_block (w := w8.setCell ⟨p, 4, none⟩ (.slice (some ⟨g, 0, none⟩) R.A.length c)) (heap_setCell_other _ ⟨g, m, none⟩ p _ (fun e => hgp e.symm))).trans gp
  · refine R0.setKnown2 b1 f1 hv k1 ?_
    have e : ints (setA R.A x) = (ints R.A).set m (.int .i64 1) := by rw [intsA_set]; unfold setA sgn; rw [if_neg (by omega), hm, Nat.add_sub_cancel]
    rw [e]
    exact s1
  · refine R0.setKnown2 b1 f1 hv k2 ?_
    have e : ints (setA R.A x) = ((ints R.A).set m (.int .i64 1)).set m (.int .i64 (-1)) := by rw [intsA_set, intsA_set, List.set_set]; unfold setA sgn; rw [if_pos hx, hm, Nat.add_sub_cancel]
    rw [e]
    exact s2

set_option maxRecDepth 1000000 in
theorem DecideM_arg (h : RefAt w M S p R) (hg : GoodR R) (x : Int) (hx : In64 x) (hn : okLit x R.n = false) :
    Calls Try.prog 42 #[.pointer (some ⟨p, 0, none⟩), .int .i64 x] w fun e w' => e = .returned (.int .i64 1) ∧ w' = w := by
  have HV := Lib.hid (Var_any x w hx)
  have c0 := h.nAt
  have hp := h.sizeP
  have hv := varR_no hn
  generalize varR x = v at *
  generalize R.n = n at *
  clear h hg hn hx
  by_cases h1 : v < 1
  · have hd : decide (v < 1) = true := decide_eq_true h1
    clear hv
    go_enter Try.func42, Try.ntmps42
    go_wp2_with (go_at_call 60; refine HV.out.mono ?_; rintro e w' ⟨rfl, hw⟩; obtain rfl := hw.symm)
    go_ret
    exact ⟨rfl, rfl⟩
  · have hd : decide (v < 1) = false := decide_eq_false h1
    have h2 : decide ((n : Int) < v) = true := decide_eq_true (hv.resolve_left h1)
    clear hv
    go_enter Try.func42, Try.ntmps42
    go_wp2_with (go_at_call 60; refine HV.out.mono ?_; rintro e w' ⟨rfl, hw⟩; obtain rfl := hw.symm)
    go_ret
    exact ⟨rfl, rfl⟩

set_option maxRecDepth 1000000 in
theorem DecideM_there (h : RefAt w M S p R) (hg : GoodR R) (x : Int) (hx : In64 x) (hn : okLit x R.n = true) (hl : litA R.A x ≠ 0) :
    Calls Try.prog 42 #[.pointer (some ⟨p, 0, none⟩), .int .i64 x] w fun e w' => e = .returned (.int .i64 7) ∧ w' = w := by
  have HV := Lib.hid (Var_any x w hx)
  have HL := Lib.hid (ValueM_any h hg.three (by rw [hg.lenA]; exact hg.n2) x hx)
  have c0 := h.nAt
  have hp := h.sizeP
  have hv := varR_ok hn (by have := hg.n2; omega)
  rw [hv] at HV
  have hn' := (okLit_iff _ _).1 hn
  have hd0 : decide (((x.natAbs : Nat) : Int) < 1) = false := decide_eq_false (by omega)
  have hd1 : decide ((R.n : Int) < ((x.natAbs : Nat) : Int)) = false := decide_eq_false (by omega)
  have hd1n : decide (R.n < x.natAbs) = false := decide_eq_false (by omega)
  have hd2 : (litA R.A x != 0) = true := by simpa using hl
  generalize x.natAbs = v at *
  generalize R.n = n at *
  generalize litA R.A x = l at *
  clear h hg hn hx hv hn' hl
  go_enter Try.func42, Try.ntmps42
  go_wp2_with (first | (go_at_call 60; refine HV.out.mono ?_; rintro e w' ⟨rfl, hw⟩; obtain rfl := hw.symm) | (go_at_call 43; refine HL.out.mono ?_; rintro e w' ⟨rfl, hw⟩; obtain rfl := hw.symm))
  go_ret
  exact ⟨rfl, rfl⟩

set_option maxRecDepth 1000000 in
set_option maxHeartbeats 8000000 in
theorem DecideM_ok (h : RefAt w M S p R) (hg : GoodR R) (hd : R.D.length ≤ 900000) (x : Int) (hx : In64 x) (hn : okLit x R.n = true) (hl : litA R.A x = 0) :
    Calls Try.prog 42 #[.pointer (some ⟨p, 0, none⟩), .int .i64 x] w fun e w' => e = .returned (.int .i64 0) ∧ RefPost w M S p (decideM R x) w' := by
  have HV := Lib.hid (Var_any x w hx)
  have HL := Lib.hid (ValueM_any h hg.three (by rw [hg.lenA]; exact hg.n2) x hx)
  rw [hl] at HL
  have c0 := h.nAt
  have hp := h.sizeP
  have h20 := hg.n2
  have hv := varR_ok hn (by omega)
  rw [hv] at HV
  have hn' := (okLit_iff _ _).1 hn
  obtain ⟨m, hm⟩ : ∃ m, x.natAbs = m + 1 := ⟨x.natAbs - 1, by omega⟩
  have hmA : m < R.A.length := by rw [hg.lenA]; omega
  have HMA := Lib.hid hmA
  have HM := Lib.hid hm
  have HLK := Lib.hid hg.lenK
  have HLA := Lib.hid hg.lenA
  have HN20 := Lib.hid hg.n2
  have HDL : Hid (R.K.length + 1 ≤ 1000000) := Lib.hid (by rw [hg.lenK]; omega)
  rw [hm, show ((m + 1 : Nat) : Int) = (m : Int) + 1 from by omega] at HV
  have hd0 : decide ((m : Int) + 1 < 1) = false := decide_eq_false (by omega)
  have hd1 : decide ((R.n : Int) < (m : Int) + 1) = false := decide_eq_false (by omega)
  have hm20 : m ≤ 20000 := by omega
  have b0 : Below w.heap.size w (w.alloc (.cells #[.int .i64 x] 3)) := (Below.refl _ _).alloc (Nat.le_refl _) _
  obtain ⟨vD, xs, c2, hrow, hxl, hnext⟩ := h.appD b0 x
  have c2' : w.cell? ⟨p, 2, none⟩ = some vD := (b0.cell (p := ⟨p, 2, none⟩) hp).symm.trans c2
  have HROW := Lib.hid hrow
  have HXL : Hid (xs.length + 1 ≤ 1000000) := Lib.hid (by rw [hxl]; omega)
  have HNX := Lib.hid hnext
  have HONE := Lib.hid (Row.one w 3 (.int .i64 x))
  obtain ⟨n, hnn⟩ : ∃ n, R.n = n := ⟨_, rfl⟩
  rw [hnn] at c0 hd1
  clear h hg hn hx hv hn' hl hm b0 c2 hrow hxl hnext hmA hd hnn h20
  go_enter Try.func42, Try.ntmps42
  go_wp2_with fail
  go_at_call 60
  refine HV.out.mono ?_
  rintro e w1 ⟨rfl, hw⟩
  obtain rfl := hw.symm
  clear hw HV
  go_wp2_with fail
  go_at_call 43
  refine HL.out.mono ?_
  rintro e w1 ⟨rfl, hw⟩
  obtain rfl := hw.symm
  clear hw HL
  go_wp2_with (at_builtin; refine wpList_appS rfl (.tmp 26) (.tmp 28) rfl vD xs [.int .i64 x] rfl HROW.out (some ⟨w.heap.size, 0, none⟩) 1 1 rfl (.inr ⟨_, rfl, fun j u hj => one_at HONE.out hj⟩) rfl (by intro u hu; rw [List.mem_singleton.1 hu]; rfl) HXL.out ?_; intro v' w3 h1 h2; obtain ⟨⟨a1, l1, n1, hv1⟩, d1, f1, hp3, HPN⟩ := HNX.out v' w3 h1 h2; clear h1 h2; subst hv1)
  obtain ⟨M3, S3, R3, o3, m3, s3, n3⟩ := HPN.out
  generalize hW3 : w3.setCell ⟨p, 2, none⟩ (.slice a1 l1 n1) = W3 at *
  have T3 : Hid (∀ R'' w'', RefPost W3 M3 S3 p R'' w'' → RefPost w M S p R'' w'') := Lib.hid fun R'' w'' h2 => RefPost.trans R3 o3 m3 s3 n3 h2
  have hp3 := R3.sizeP
  obtain ⟨ka, kl, kc, c3⟩ := R3.knownK
  obtain ⟨aa, ac, c4, hst⟩ := R3.known
  have hst : Stays S3 W3 fun w2 => Reads w2 (.slice aa R.A.length ac) R.A := hst
  have c4 : W3.cell? ⟨p, 4, none⟩ = some (.slice aa R.A.length ac) := c4
  have hEb : Below W3.heap.size W3 (W3.alloc (.cells #[] 3)).drew := ((Below.refl _ _).alloc (Nat.le_refl _) _).drew
  have HC : Hid (∀ w', Below W3.heap.size W3 w' → w'.cell? ⟨p, 4, none⟩ = some (.slice aa R.A.length ac)) := Lib.hid fun w' hb => (hb.cell (p := ⟨p, 4, none⟩) hp3).trans c4
  have RE : Hid (Row (W3.alloc (.cells #[] 3)).drew 3 1 (.slice (some ⟨W3.heap.size, 0, none⟩) 0 0) []) := Lib.hid (Row.kept (Row.empty W3 3) (fun _ _ => rfl))
  have HSRC : Hid (Source (W3.alloc (.cells #[] 3)).drew aa R.A.length (ints R.A)) := Lib.hid (reads_source (hst.now.below hEb (Nat.le_refl _)))
  have HAL : Hid ((ints R.A).length = R.A.length) := Lib.hid (ints_len _)
  have HA1 : Hid (∀ u ∈ ints R.A, u.oneCell' = true) := Lib.hid (ints_one _)
  have HA2 : Hid (([] : List Value).length + R.A.length ≤ 1000000) := Lib.hid (by have := HLA.out; have := HN20.out; simp; omega)
  have HKL : Hid (R.K.length + 1 ≤ 1000000) := Lib.hid HDL.out
  have PK : Hid (∀ v1 w1, Row w1 3 1 v1 ([] ++ ints R.A) → Grew (W3.alloc (.cells #[] 3)).drew w1 (.slice (some ⟨W3.heap.size, 0, none⟩) 0 0) v1 → ∃ a1 l1 c1, v1 = .slice a1 l1 c1 ∧ Below W3.heap.size W3 w1 ∧ w1.cell? ⟨p, 3, none⟩ = some (.slice ka kl kc) ∧ (w1.alloc (.cells #[.slice a1 l1 c1] 23)).cell? ⟨p, 3, none⟩ = some (.slice ka kl kc) ∧
      ∃ xs, Hid (Row (w1.alloc (.cells #[.slice a1 l1 c1] 23)) 23 1 (.slice ka kl kc) xs) ∧ Hid (xs.length + 1 ≤ 1000000) ∧ Hid (Row (w1.alloc (.cells #[.slice a1 l1 c1] 23)) 23 1 (.slice (some ⟨w1.heap.size, 0, none⟩) 1 1) [.slice a1 l1 c1]) ∧
      Hid (∀ v2 w2, Row w2 23 1 v2 (xs ++ [.slice a1 l1 c1]) → Grew (w1.alloc (.cells #[.slice a1 l1 c1] 23)) w2 (.slice ka kl kc) v2 → ∃ a2 l2 c2, v2 = .slice a2 l2 c2 ∧ w2.cell? ⟨p, 3, none⟩ = some (.slice ka kl kc) ∧ w2.frozen? ⟨p, 3, none⟩ = false ∧
        w2.cell? ⟨p, 4, none⟩ = some (.slice aa R.A.length ac) ∧ (w2.setCell ⟨p, 3, none⟩ (.slice a2 l2 c2)).cell? ⟨p, 4, none⟩ = some (.slice aa R.A.length ac) ∧ Hid (RefPost W3 M3 S3 p (decK (decD R x)) (w2.setCell ⟨p, 3, none⟩ (.slice a2 l2 c2))))) := Lib.hid fun v1 w1 q1 q2 => by
    have q2' : Grew (W3.alloc (.cells #[] 3)) w1 (.slice (some ⟨W3.heap.size, 0, none⟩) 0 0) v1 := q2.undrew
    obtain ⟨r1, b1, f1⟩ := copy_fact q1 q2'
    obtain ⟨a1, c1, rfl⟩ := r1.reads.form
    obtain ⟨e1, e2, xs, hrow, hxl, hnx⟩ := R3.appK b1 c3 c4 r1 f1
    refine ⟨_, _, _, rfl, b1, e1, e2, xs, Lib.hid hrow, Lib.hid (by rw [hxl]; exact HKL.out), Lib.hid (Row.one w1 23 _), Lib.hid fun v2 w2 h1 h2 => ?_⟩
    obtain ⟨⟨a2, l2, n2, rfl⟩, y1, y2, y3, y4, y5⟩ := hnx v2 w2 h1 h2
    exact ⟨a2, l2, n2, rfl, y1, y2, y3, y4, y5⟩
  clear R3 o3 m3 s3 n3 HPN hst hW3 d1 f1 c0 c2' hEb
  go_wp2_with fail
  refine decide_known _ _ _ _ _ _ _ _ _ _ _ _ _ _ _ _ _ _ _ _ _ _ _ _ _ _ _ _ _ _ _ _ _ _ _ _ _ _ _ _ _ _ _ _ _ _ _ _ _ _ _ _ _ _ _ _ _ _ _ _ _ _ _ _ _ _ _ _ _ _ _ _ hp3 c3 HC RE HSRC HAL HA1 HA2 PK ?_
  intro v32 v33 v34 v35 v36 v37 v38 v39 v40 v41 v42 v43 v44 v45 v46 w7 HFB
  have hpost7 : RefPost W3 M3 S3 p (decK (decD R x)) w7 := HFB
  clear HFB PK RE HSRC HC c3 c4
  obtain ⟨M7, S7, R7, o7, m7, s7, n7⟩ := hpost7
  have hle7 := o7.size
  have T7 : Hid (∀ R'' w'', RefPost w7 M7 S7 p R'' w'' → RefPost w M S p R'' w'') := Lib.hid fun R'' w'' h2 => T3.out R'' w'' (by
    obtain ⟨M8, S8, r8, o8, m8, s8, n8⟩ := h2
    exact RefPost.trans R7 o7 m7 s7 n7 ⟨M8, S8, r8, o8, m8, s8, n8⟩)
  have hp7 := R7.sizeP
  obtain ⟨a7, c7, c4, hst⟩ := R7.known
  have hst : Stays S7 w7 fun w2 => Reads w2 (.slice a7 R.A.length c7) R.A := hst
  have c4 : w7.cell? ⟨p, 4, none⟩ = some (.slice a7 R.A.length c7) := c4
  have hEb : Below w7.heap.size w7 (w7.alloc (.cells #[] 3)) := (Below.refl _ _).alloc (Nat.le_refl _) _
  have RE : Hid (Row (w7.alloc (.cells #[] 3)) 3 1 (.slice (some ⟨w7.heap.size, 0, none⟩) 0 0) []) := Lib.hid (Row.empty w7 3)
  have HSRC : Hid (Source (w7.alloc (.cells #[] 3)) a7 R.A.length (ints R.A)) := Lib.hid (reads_source (hst.now.below hEb (Nat.le_refl _)))
  have HEND := Lib.hid (fun v2 w8 q1 q2 => decide_end (w8 := w8) (v2 := v2) R7 q1 q2 HM.out HMA.out)
  clear R7 o7 m7 s7 n7 hst hEb T3
  by_cases hneg : x < 0
  · have hd : decide (x < 0) = true := decide_eq_true hneg
    go_wp2_with (at_builtin; refine wpList_appS rfl (.tmp 48) (.tmp 52) rfl (.slice (some ⟨w7.heap.size, 0, none⟩) 0 0) [] (ints R.A) rfl RE.out a7 R.A.length c7 rfl HSRC.out HAL.out HA1.out HA2.out ?_; intro v2 w8 q1 q2; obtain ⟨g, c, hv2, ⟨e1, y1⟩, y2, y3, y4, y5, ⟨e2, y6⟩, y7, y8, ⟨e3, y9⟩, y10, Z1, Z2⟩ := HEND.out v2 w8 q1 q2; clear q1 q2; subst hv2)
    have HF := Lib.hid (T7.out _ _ (Z2.out hneg))
    clear Z1 Z2 y1 y5 y6 y8 y9 y2 y7 y10 HEND RE HSRC T7
    go_ret
    exact ⟨rfl, HF.out⟩
  · have hd : decide (x < 0) = false := decide_eq_false hneg
    go_wp2_with (at_builtin; refine wpList_appS rfl (.tmp 48) (.tmp 52) rfl (.slice (some ⟨w7.heap.size, 0, none⟩) 0 0) [] (ints R.A) rfl RE.out a7 R.A.length c7 rfl HSRC.out HAL.out HA1.out HA2.out ?_; intro v2 w8 q1 q2; obtain ⟨g, c, hv2, ⟨e1, y1⟩, y2, y3, y4, y5, ⟨e2, y6⟩, y7, y8, ⟨e3, y9⟩, y10, Z1, Z2⟩ := HEND.out v2 w8 q1 q2; clear q1 q2; subst hv2)
    have HF := Lib.hid (T7.out _ _ (Z1.out (by omega)))
    clear Z1 Z2 y1 y5 y6 y8 y9 y2 y7 y10 HEND RE HSRC T7
    go_ret
    exact ⟨rfl, HF.out⟩
end Go.Proofs.Ytngegkgmenfelaa
