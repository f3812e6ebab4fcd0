/-
  Decide in one; the statements' helper row.
-/
import Derived.Test.YtngegkgmenfelaaXb
namespace Go.Proofs.Ytngegkgmenfelaa
open Go.RowKit Go.Lib
attribute [local go_sem ↓] Go.wp_at_zero Go.wp_at_succ

/-- What Decide tells, and leaves. -/
def decE (T : Tr) (x : Int) : Int := if isVar T x then (if (factOf T x).1 = 0 then 0 else 7) else 1
def decS (T : Tr) (x : Int) : Tr := if decE T x = 0 then decideT T x else T

theorem decE_zero {T : Tr} {x : Int} : decE T x = 0 ↔ isVar T x = true ∧ (factOf T x).1 = 0 := by
  unfold decE
  constructor
  · intro h
    by_cases h1 : isVar T x = true
    · rw [if_pos h1] at h
      by_cases h2 : (factOf T x).1 = 0
      · exact ⟨h1, h2⟩
      · rw [if_neg h2] at h; omega
    · rw [if_neg h1] at h; omega
  · rintro ⟨h1, h2⟩; rw [if_pos h1, if_pos h2]

theorem Good.startsLen {n : Nat} {T : Tr} (h : Good n T) : T.starts.length ≤ T.lits.length := by
  have key : ∀ a, a < T.starts.length → (a : Int) ≤ T.starts.getD a 0 := by
    intro a
    induction a with
    | zero => intro ha; exact (h.stIn 0 ha).1
    | succ a ih =>
      intro ha
      have h1 := ih (by omega)
      have h2 := h.stUp a (a + 1) (by omega) ha
      omega
  by_cases h0 : T.starts.length = 0
  · omega
  · have h1 := key (T.starts.length - 1) (by omega)
    have h2 := (h.stIn (T.starts.length - 1) (by omega)).2
    omega

theorem fact_val {T : Tr} {x : Int} (h : (factOf T x).1 = 0) : valOf T x = 0 := by unfold valOf; rw [h]; split <;> rfl
theorem val_fact {T : Tr} {x : Int} (h : valOf T x = 0) : (factOf T x).1 = 0 := by unfold valOf at h; split at h <;> omega

theorem Good.decS {n : Nat} {T : Tr} (h : Good n T) (x : Int) : Good n (Ytngegkgmenfelaa.decS T x) := by
  unfold Ytngegkgmenfelaa.decS
  by_cases h0 : decE T x = 0
  · rw [if_pos h0]
    obtain ⟨h1, h2⟩ := decE_zero.1 h0
    refine h.decided x ?_ (fact_val h2)
    have := (isVar_iff T x).1 h1
    rw [h.ok.fl] at this; exact this
  · rw [if_neg h0]; exact h

theorem Decide_any {w : World} {B : Nat → Prop} {b n : Nat} {T : Tr} (h : TrailAt w B b T) (hg : Good n T) (x : Int) (hx : In64 x) :
    Calls Try.prog 27 #[.pointer (some ⟨b, 0, none⟩), .int .i64 x] w fun e w' => e = .returned (.int .i64 (decE T x)) ∧ Keep B w w' ∧ TrailAt w' B b (decS T x) := by
  have hn : T.F.length ≤ 20000 := by rw [hg.ok.fl]; exact hg.ok.n2
  have hB := h.there
  unfold decS decE
  cases hv : isVar T x with
  | false =>
    simp only [Bool.false_eq_true, if_false]
    refine (Decide_arg h x hx hn hv).mono ?_
    rintro e w' ⟨rfl, hb⟩
    exact ⟨rfl, (Keep.refl B w).below hb hB, by rw [if_neg (by decide)]; exact h.below hb (Nat.le_refl _)⟩
  | true =>
    simp only [if_true]
    by_cases h0 : (factOf T x).1 = 0
    · rw [if_pos h0]
      have h1 := hg.litsLen
      have h2 := hg.startsLen
      have h3 := hg.ok.n2
      refine (Decide_ok h x hx hn hv h0 (by omega) (by omega)).mono ?_
      rintro e w' ⟨rfl, hk, ht⟩
      exact ⟨rfl, hk, by rw [if_pos rfl]; exact ht⟩
    · rw [if_neg h0]
      refine (Decide_there h x hx hn hv h0).mono ?_
      rintro e w' ⟨rfl, hb⟩
      exact ⟨rfl, (Keep.refl B w).below hb hB, by rw [if_neg (by decide)]; exact h.below hb (Nat.le_refl _)⟩

/-- row: literals decided, with what follows each time. -/
def rowGo : List Int → Bool → Tr → Bool × Tr
  | [], on, T => (on, T)
  | x :: xs, on, T => if on then (if decE T x = 0 then rowGo xs (followT (decS T x)).1.2 (followT (decS T x)).2 else rowGo xs true T) else (false, T)
def rowT (T : Tr) (xs : List Int) : Bool × Tr := rowGo xs (followT T).1.2 (followT T).2
theorem rowGo_false (xs : List Int) (T : Tr) : rowGo xs false T = (false, T) := by
  cases xs with
  | nil => rfl
  | cons x xs => rfl
theorem decS_no {T : Tr} {x : Int} (h : decE T x ≠ 0) : decS T x = T := if_neg h

def RowRel (w0 : World) (B : Nat → Prop) (b n : Nat) (xs : List Int) (R : Bool × Tr) (i : Nat) (on : Bool) (wr : World) : Prop :=
  ∃ T, rowGo (xs.drop i) on T = R ∧ Good n T ∧ TrailAt wr B b T ∧ Keep B w0 wr
def RowPost (w : World) (B : Nat → Prop) (b : Nat) (R : Bool × Tr) (e : Ending) (w' : World) : Prop := e = .returned (.bool R.1) ∧ Keep B w w' ∧ TrailAt w' B b R.2

set_option maxRecDepth 100000 in
set_option maxHeartbeats 4000000 in
theorem row_any {w : World} {B : Nat → Prop} {b n : Nat} {T : Tr} {s : Value} {xs : List Int} (h : TrailAt w B b T) (hg : Good n T) (hr : ∀ w', Keep B w w' → Reads w' s xs) (hl : xs.length ≤ 1000000) (hx : ∀ x ∈ xs, In64 x) :
    Calls Try.prog 11 #[.pointer (some ⟨b, 0, none⟩), s] w (RowPost w B b (rowT T xs)) := by
  obtain ⟨R, hR⟩ : ∃ R, rowT T xs = R := ⟨_, rfl⟩
  rw [hR]
  unfold rowT at hR
  have HF := Lib.hid (Follow_any h hg)
  have HFG := Lib.hid hg.followT.good
  generalize followT T = S at *
  obtain ⟨⟨k0, on0⟩, T0⟩ := S
  have HGO : Hid (rowGo xs on0 T0 = R) := Lib.hid hR
  have HRD := Lib.hid hr
  have HX := Lib.hid hx
  obtain ⟨a, cc, rfl⟩ := (hr w (Keep.refl B w)).form
  obtain ⟨q, hq⟩ : ∃ q, xs.length = q := ⟨_, rfl⟩
  rw [hq] at HRD hl ⊢
  have HQ := Lib.hid hq
  clear h hg hR hr hx hq
  go_enter Try.func11, Try.ntmps11
  go_wp2_with fail
  go_at_call 28
  refine HF.out.mono ?_
  rintro e w1 ⟨rfl, k1, t1⟩
  have REL0 : RowRel w B b n xs R 0 on0 w1 := ⟨T0, by rw [List.drop_zero]; exact HGO.out, HFG.out, t1, k1⟩
  clear k1 t1 HF HFG HGO
  go_wp2_with fail
  as_aux_lemma =>
  go_loopw [6, 7] (fun v6 v7 wr => ∃ (i : Nat) (on : Bool), i ≤ q ∧ v7 = .int .i64 i ∧ v6 = .bool on ∧ RowRel w B b n xs R i on wr) (fun _ v7 _ => q - (intOf v7).toNat)
  case atStart => exact ⟨0, on0, Nat.zero_le _, rfl, rfl, REL0⟩
  case round =>
    clear REL0
    obtain ⟨i, on, hi, rfl, rfl, T1, hgo, g1, t1, k1⟩ := hrel
    by_cases hlt : i < q
    · have hix : i < xs.length := by rw [HQ.out]; exact hlt
      have hi1 : (i : Int) < (q : Int) := by omega
      have hi0 : (0 : Int) ≤ (i : Int) := by omega
      cases on with
      | false =>
        have HE : Hid ((false, T1) = R) := Lib.hid (by rw [rowGo_false] at hgo; exact hgo)
        have HT := Lib.hid t1
        have HK := Lib.hid k1
        clear hgo g1 t1 k1 hix
        as_aux_lemma =>
        go_wp2_with fail
        go_ret
        exact ⟨by rw [← HE.out]; rfl, HK.out, by rw [← HE.out]; exact HT.out⟩
      | true =>
        obtain ⟨bb, off, rfl, ck⟩ := (HRD.out wr k1).get hix
        rw [drop_cons hix] at hgo
        have HX1 := HX.out _ (mem_getD (d := 0) hix)
        generalize xs.getD i 0 = x at *
        unfold rowGo at hgo
        rw [if_pos rfl] at hgo
        have HD := Lib.hid (Decide_any t1 g1 x HX1)
        have G2 := Lib.hid (g1.decS x)
        have K1 := Lib.hid k1
        by_cases h0 : decE T1 x = 0
        · rw [if_pos h0] at hgo
          rw [h0] at HD
          have HGO := Lib.hid hgo
          generalize decS T1 x = T2 at *
          clear hgo g1 t1 k1 hix h0 HX1
          as_aux_lemma =>
          go_wp2_with fail
          go_at_call 27
          refine HD.out.mono ?_
          rintro e w2 ⟨rfl, k2, t2⟩
          have HF := Lib.hid (Follow_any t2 G2.out)
          have HFG := Lib.hid G2.out.followT.good
          have K2 := Lib.hid k2
          clear k2 t2 ck
          generalize followT T2 = S at *
          obtain ⟨⟨k0, on2⟩, T3⟩ := S
          go_wp2_with fail
          go_at_call 28
          refine HF.out.mono ?_
          rintro e w3 ⟨rfl, k3, t3⟩
          have REL1 : RowRel w B b n xs R (i + 1) on2 w3 := ⟨T3, HGO.out, HFG.out, t3, K1.out.trans (K2.out.trans k3)⟩
          clear k3 t3
          go_wp2_with fail
          go_roundw
          case rel => exact ⟨i + 1, on2, by omega, by go_num, rfl, REL1⟩
          case measure => simp [intOf]; omega
        · rw [if_neg h0] at hgo
          rw [decS_no h0] at HD
          have HGO := Lib.hid hgo
          have G1 := Lib.hid g1
          have hd : (decE T1 x == 0) = false := by simpa using h0
          generalize decE T1 x = v at *
          clear hgo g1 t1 k1 hix h0 HX1
          as_aux_lemma =>
          go_wp2_with fail
          go_at_call 27
          refine HD.out.mono ?_
          rintro e w2 ⟨rfl, k2, t2⟩
          have REL1 : RowRel w B b n xs R (i + 1) true w2 := ⟨T1, HGO.out, G1.out, t2, K1.out.trans k2⟩
          clear k2 t2 ck
          go_wp2_with fail
          go_roundw
          case rel => exact ⟨i + 1, true, by omega, by go_num, rfl, REL1⟩
          case measure => simp [intOf]; omega
    · obtain rfl : i = q := by omega
      have HE : Hid ((on, T1) = R) := Lib.hid (by
        rw [List.drop_of_length_le (by rw [HQ.out]; exact Nat.le_refl _)] at hgo
        exact hgo)
      have HT := Lib.hid t1
      have HK := Lib.hid k1
      clear hgo g1 t1 k1
      as_aux_lemma =>
      go_wp2_with fail
      go_ret
      exact ⟨by rw [← HE.out]; rfl, HK.out, by rw [← HE.out]; exact HT.out⟩
end Go.Proofs.Ytngegkgmenfelaa
