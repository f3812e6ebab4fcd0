/-
  The statements' helpers: small, fails; Decide in one; row.
-/
import Derived.Test.YtngegkgmenfelaaXa
namespace Go.Proofs.Ytngegkgmenfelaa
open Go.RowKit Go.Lib
attribute [local go_sem ↓] Go.wp_at_zero Go.wp_at_succ

def smallB (L : List (List Int)) : Bool := decide (L.length ≤ 60 ∧ ∀ c ∈ L, c.length ≤ 20)

/-- A row of rows that is read, row by row. -/
theorem ReadsL.get {w : World} {a : Option Addr} {n c : Nat} {L : List (List Int)} (h : ReadsL w (.slice a n c) L) {k : Nat} (hk : k < L.length) : ∃ b off da dc, a = some ⟨b, off, none⟩ ∧ w.cell? ⟨b, off + k, none⟩ = some (.slice da (L.getD k []).length dc) ∧ Reads w (.slice da (L.getD k []).length dc) (L.getD k []) := by
  obtain ⟨b, off, c', vs, e, _, hc⟩ := h.resolve_left (fun h => by rw [h.2] at hk; simp at hk)
  injection e with e _ _
  obtain ⟨h1, h2⟩ := hc k hk
  obtain ⟨da, dc, e2⟩ := h2.form
  rw [e2] at h1 h2
  exact ⟨b, off, da, dc, e, h1, h2⟩

theorem all_snoc {L : List (List Int)} {k : Nat} {p : List Int → Prop} (hk : k < L.length) (h : ∀ c ∈ L.take k, p c) (h1 : p (L.getD k [])) : ∀ c ∈ L.take (k + 1), p c := fun c hc => by
  rw [List.take_succ_eq_append_getElem hk] at hc
  rcases List.mem_append.1 hc with hc | hc
  · exact h c hc
  · obtain rfl := List.mem_singleton.1 hc
    rw [List.getD_eq_getElem?_getD, List.getElem?_eq_getElem hk, Option.getD_some] at h1
    exact h1

set_option maxRecDepth 100000 in
theorem small_any {w : World} {s : Value} {L : List (List Int)} (h : ReadsL w s L) :
    Calls Try.prog 9 #[s] w fun e w' => e = .returned (.bool (smallB L)) ∧ w' = w := by
  have H := Lib.hid h
  obtain ⟨a, cc, rfl⟩ := h.form
  obtain ⟨q, hq⟩ : ∃ q, L.length = q := ⟨_, rfl⟩
  rw [hq] at H ⊢
  have HQ := Lib.hid hq
  obtain ⟨R, hR⟩ : ∃ R, smallB L = R := ⟨_, rfl⟩
  rw [hR]
  have HR := Lib.hid hR
  clear h hq hR
  by_cases h60 : 60 < q
  · have HE : Hid (R = false) := Lib.hid (by rw [← HR.out]; exact decide_eq_false fun h => by have h1 := h.1; rw [HQ.out] at h1; omega)
    have hd : (60 : Int) < (q : Int) := by omega
    go_enter Try.func9, Try.ntmps9
    go_wp2_with fail
    go_ret
    exact ⟨by rw [HE.out]; rfl, rfl⟩
  · have hd : ¬ (60 : Int) < (q : Int) := by omega
    have hq60 : q ≤ 60 := by omega
    clear h60
    go_enter Try.func9, Try.ntmps9
    go_wp2_with fail
    clear hd
    as_aux_lemma =>
    go_loop [2, 3] (fun _ v5 => ∃ k : Nat, k ≤ q ∧ v5 = .int .i64 k ∧ Hid (∀ c ∈ L.take k, c.length ≤ 20)) (fun _ v5 => q - (intOf v5).toNat)
    case atStart => exact ⟨0, Nat.zero_le _, rfl, Lib.hid fun y hy => by rw [List.take_zero] at hy; cases hy⟩
    case round =>
      obtain ⟨k, hk, rfl, HF⟩ := hrel
      by_cases hlt : k < q
      · have hkx : k < L.length := by rw [HQ.out]; exact hlt
        obtain ⟨b, off, da, dc, rfl, ck, _⟩ := H.out.get hkx
        have HS := Lib.hid (fun h => all_snoc (p := fun c => c.length ≤ 20) hkx HF.out h)
        have HBAD : Hid (¬ (L.getD k []).length ≤ 20 → R = false) := Lib.hid fun h => by rw [← HR.out]; exact decide_eq_false fun h2 => h (h2.2 _ (mem_getD hkx))
        have hk1 : (k : Int) < (q : Int) := by omega
        have hk0 : (0 : Int) ≤ (k : Int) := by omega
        clear hkx HF
        generalize (L.getD k []).length = m at *
        by_cases hm : m ≤ 20
        · have HN := Lib.hid (HS.out hm)
          have hd : ¬ (20 : Int) < (m : Int) := by omega
          clear HS HBAD
          as_aux_lemma =>
          go_wp2_with fail
          go_round
          case rel => exact ⟨k + 1, by omega, by go_num, HN⟩
          case measure => simp [intOf]; omega
        · have HN := Lib.hid (HBAD.out hm)
          have hd : (20 : Int) < (m : Int) := by omega
          clear HS HBAD
          as_aux_lemma =>
          go_wp2_with fail
          go_ret
          exact ⟨by rw [HN.out]; rfl, rfl⟩
      · obtain rfl : k = q := by omega
        have HE : Hid (R = true) := Lib.hid (by
          rw [← HR.out]
          refine decide_eq_true ⟨by rw [HQ.out]; exact hq60, ?_⟩
          have := HF.out
          rw [List.take_of_length_le (by rw [HQ.out]; exact Nat.le_refl _)] at this
          exact this)
        clear HF
        as_aux_lemma =>
        go_wp2_with fail
        go_ret
        exact ⟨by rw [HE.out]; rfl, rfl⟩

theorem Good.in64 {n : Nat} {T : Tr} (h : Good n T) {m : Nat} {x : Int} (hx : x ∈ cl T m) : In64 x := by
  have := (h.ok.clause m).2 x hx
  have := h.ok.n2
  unfold In64; omega

set_option maxRecDepth 100000 in
set_option maxHeartbeats 2000000 in
theorem fails_any {w : World} {B : Nat → Prop} {b n : Nat} {T : Tr} (h : TrailAt w B b T) (hg : Good n T) (m : Nat) (hm : m < T.L.length) (hz : ∀ z ∈ cl T m, valOf T z = -1) :
    Calls Try.prog 29 #[.pointer (some ⟨b, 0, none⟩), .int .i64 m] w fun e w' => e = .returned (.bool true) ∧ Below w.heap.size w w' := by
  have hlen := (hg.ok.clause m).1
  have HC := Lib.hid (Clause_at h m hm (by omega))
  have H := Lib.hid h
  have HG := Lib.hid hg
  have HZ := Lib.hid hz
  have hcl : T.L.getD m [] = cl T m := rfl
  rw [hcl] at HC
  obtain ⟨c, hc⟩ : ∃ c, cl T m = c := ⟨_, rfl⟩
  have HI : Hid (∀ x ∈ c, In64 x) := Lib.hid fun x hx => by rw [← hc] at hx; exact hg.in64 hx
  rw [hc] at HC HZ
  have hlen : c.length ≤ 20000 := by rw [← hc]; exact hlen
  clear h hg hz hc hcl
  go_enter Try.func29, Try.ntmps29
  go_wp2_with fail
  go_at_call 25
  refine HC.out.mono ?_
  rintro e w1 ⟨v, rfl, hr, hf, hb⟩
  have hrd := hr.reads
  have HRD := Lib.hid hrd
  have HB := Lib.hid hb
  obtain ⟨a, cc, rfl⟩ := hrd.form
  obtain ⟨q, hq⟩ : ∃ q, c.length = q := ⟨_, rfl⟩
  rw [hq] at HRD hlen ⊢
  have HQ := Lib.hid hq
  clear hrd hr hf hb hq HC
  go_wp2_with fail
  as_aux_lemma =>
  go_loopw [4, 6] (fun _ v6 wr => ∃ k : Nat, k ≤ q ∧ v6 = .int .i64 k ∧ Hid (Below w1.heap.size w1 wr)) (fun _ v6 _ => q - (intOf v6).toNat)
  case atStart => exact ⟨0, Nat.zero_le _, rfl, Lib.hid (Below.refl _ _)⟩
  case round =>
    obtain ⟨k, hk, rfl, HBR⟩ := hrel
    by_cases hlt : k < q
    · have hkx : k < c.length := by rw [HQ.out]; exact hlt
      obtain ⟨bb, off, rfl, ck⟩ := (HRD.out.below HBR.out (Nat.le_refl _)).get hkx
      have HM := Lib.hid (mem_getD (d := 0) hkx)
      have HV := Lib.hid (Value_any ((H.out.below HB.out (Nat.le_refl _)).below HBR.out (Nat.le_refl _)) (c.getD k 0) (HI.out _ HM.out) (by rw [HG.out.ok.fl]; exact HG.out.ok.n2) HG.out.ok.small)
      rw [HZ.out _ HM.out] at HV
      have hk1 : (k : Int) < (q : Int) := by omega
      have hk0 : (0 : Int) ≤ (k : Int) := by omega
      clear hkx HM
      generalize c.getD k 0 = x at *
      as_aux_lemma =>
      go_wp2_with fail
      go_at_call 24
      refine HV.out.mono ?_
      rintro e w2 ⟨rfl, hb2⟩
      have HB2 : Hid (Below w1.heap.size w1 w2) := Lib.hid (HBR.out.trans (hb2.mono HBR.out.size))
      clear hb2
      go_wp2_with fail
      go_roundw
      case rel => exact ⟨k + 1, by omega, by go_num, HB2⟩
      case measure => simp [intOf]; omega
    · obtain rfl : k = q := by omega
      as_aux_lemma =>
      go_wp2_with fail
      go_ret
      exact ⟨rfl, HB.out.trans (HBR.out.mono HB.out.size)⟩
end Go.Proofs.Ytngegkgmenfelaa
