/-
  The statements' helpers: among, keeps, sameInts, small, pick.
-/
import Derived.Test.YtngegkgmenfelaaVd
namespace Go.Proofs.Ytngegkgmenfelaa
open Go.RowKit Go.Lib
attribute [local go_sem ↓] Go.wp_at_zero Go.wp_at_succ

theorem take_all {xs : List Int} {q : Nat} (h : xs.length = q) : xs.take q = xs := List.take_of_length_le (by rw [h]; exact Nat.le_refl _)

/-- A row that is read, element by element. -/
theorem Reads.get {w : World} {a : Option Addr} {n c : Nat} {xs : List Int} (h : Reads w (.slice a n c) xs) {k : Nat} (hk : k < xs.length) : ∃ b off, a = some ⟨b, off, none⟩ ∧ w.cell? ⟨b, off + k, none⟩ = some (.int .i64 (xs.getD k 0)) := by
  obtain ⟨b, off, c', e, _, hc⟩ := h.resolve_left (fun h => by rw [h.2] at hk; simp at hk)
  injection e with e _ _
  exact ⟨b, off, e, hc k hk⟩

set_option maxRecDepth 100000 in
theorem among_any {w : World} {s : Value} {xs : List Int} (h : Reads w s xs) (x : Int) (hl : xs.length ≤ 1000000) :
    Calls Try.prog 36 #[s, .int .i64 x] w fun e w' => e = .returned (.bool (decide (x ∈ xs))) ∧ w' = w := by
  have H := Lib.hid h
  obtain ⟨a, cc, rfl⟩ := h.form
  obtain ⟨q, hq⟩ : ∃ q, xs.length = q := ⟨_, rfl⟩
  rw [hq] at hl H ⊢
  have HQ := Lib.hid hq
  obtain ⟨R, hR⟩ : ∃ R, decide (x ∈ xs) = R := ⟨_, rfl⟩
  rw [hR]
  have HR := Lib.hid hR
  clear h hq hR
  go_enter Try.func36, Try.ntmps36
  go_wp2_with fail
  as_aux_lemma =>
  go_loop [4, 5] (fun _ v5 => ∃ k : Nat, k ≤ q ∧ v5 = .int .i64 k ∧ Hid (∀ y ∈ xs.take k, y ≠ x)) (fun _ v5 => q - (intOf v5).toNat)
  case atStart => exact ⟨0, Nat.zero_le _, rfl, Lib.hid fun y hy => by rw [List.take_zero] at hy; cases hy⟩
  case round =>
    obtain ⟨k, hk, rfl, HF⟩ := hrel
    by_cases hlt : k < q
    · have hkx : k < xs.length := by rw [HQ.out]; exact hlt
      obtain ⟨b, off, rfl, ck⟩ := H.out.get hkx
      have HTS := Lib.hid (take_snoc hkx)
      have HM := Lib.hid (mem_getD (d := 0) hkx)
      have hk1 : (k : Int) < (q : Int) := by omega
      have hk0 : (0 : Int) ≤ (k : Int) := by omega
      clear hkx
      by_cases he : xs.getD k 0 = x
      · rw [he] at ck
        have HE : Hid (R = true) := Lib.hid (by rw [← HR.out]; exact decide_eq_true (by rw [← he]; exact HM.out))
        clear he
        as_aux_lemma =>
        go_wp2_with fail
        go_ret
        exact ⟨by rw [HE.out]; rfl, rfl⟩
      · have hd : (xs.getD k 0 == x) = false := by simpa using he
        have HN : Hid (∀ y ∈ xs.take (k + 1), y ≠ x) := Lib.hid fun y hy => by
          rw [HTS.out] at hy
          rcases List.mem_append.1 hy with hy | hy
          · exact HF.out y hy
          · obtain rfl := List.mem_singleton.1 hy
            exact he
        generalize xs.getD k 0 = y at *
        clear he HF
        as_aux_lemma =>
        go_wp2_with fail
        go_round
        case rel => exact ⟨k + 1, by omega, by go_num, HN⟩
        case measure => simp [intOf]; omega
    · obtain rfl : k = q := by omega
      have HE : Hid (R = false) := Lib.hid (by
        rw [← HR.out]
        refine decide_eq_false fun hx => ?_
        have := HF.out
        rw [take_all HQ.out] at this
        exact this x hx rfl)
      clear HF
      as_aux_lemma =>
      go_wp2_with fail
      go_ret
      exact ⟨by rw [HE.out]; rfl, rfl⟩

def keepsB (xs ys : List Int) : Bool := decide (∀ x ∈ xs, x ∈ ys)
set_option maxRecDepth 100000 in
theorem keeps_any {w : World} {s u : Value} {xs ys : List Int} (h : Reads w s xs) (hy : Reads w u ys) (hl : xs.length ≤ 1000000) (hly : ys.length ≤ 1000000) :
    Calls Try.prog 16 #[s, u] w fun e w' => e = .returned (.bool (keepsB xs ys)) ∧ w' = w := by
  have H := Lib.hid h
  have HA := Lib.hid (fun x => among_any hy x hly)
  obtain ⟨a, cc, rfl⟩ := h.form
  obtain ⟨ua, uc, rfl⟩ := hy.form
  obtain ⟨q, hq⟩ : ∃ q, xs.length = q := ⟨_, rfl⟩
  rw [hq] at hl H ⊢
  generalize ys.length = uq at *
  have HQ := Lib.hid hq
  obtain ⟨R, hR⟩ : ∃ R, keepsB xs ys = R := ⟨_, rfl⟩
  rw [hR]
  have HR := Lib.hid hR
  clear h hq hR hy hly
  go_enter Try.func16, Try.ntmps16
  go_wp2_with fail
  as_aux_lemma =>
  go_loop [4, 5] (fun _ v5 => ∃ k : Nat, k ≤ q ∧ v5 = .int .i64 k ∧ Hid (∀ y ∈ xs.take k, y ∈ ys)) (fun _ v5 => q - (intOf v5).toNat)
  case atStart => exact ⟨0, Nat.zero_le _, rfl, Lib.hid fun y hy => by rw [List.take_zero] at hy; cases hy⟩
  case round =>
    obtain ⟨k, hk, rfl, HF⟩ := hrel
    by_cases hlt : k < q
    · have hkx : k < xs.length := by rw [HQ.out]; exact hlt
      obtain ⟨b, off, rfl, ck⟩ := H.out.get hkx
      have HTS := Lib.hid (take_snoc hkx)
      have HM := Lib.hid (mem_getD (d := 0) hkx)
      have HC := Lib.hid (HA.out (xs.getD k 0))
      have hk1 : (k : Int) < (q : Int) := by omega
      have hk0 : (0 : Int) ≤ (k : Int) := by omega
      clear hkx HA
      by_cases he : xs.getD k 0 ∈ ys
      · rw [decide_eq_true he] at HC
        have HN : Hid (∀ y ∈ xs.take (k + 1), y ∈ ys) := Lib.hid fun y hy => by
          rw [HTS.out] at hy
          rcases List.mem_append.1 hy with hy | hy
          · exact HF.out y hy
          · obtain rfl := List.mem_singleton.1 hy
            exact he
        generalize xs.getD k 0 = y at *
        clear he HF
        as_aux_lemma =>
        go_wp2_with (go_at_call 36; refine HC.out.mono ?_; rintro e w' ⟨rfl, hw⟩; obtain rfl := hw.symm)
        go_round
        case rel => exact ⟨k + 1, by omega, by go_num, HN⟩
        case measure => simp [intOf]; omega
      · rw [decide_eq_false he] at HC
        have HE : Hid (R = false) := Lib.hid (by rw [← HR.out]; exact decide_eq_false fun h => he (h _ HM.out))
        generalize xs.getD k 0 = y at *
        clear he HF
        as_aux_lemma =>
        go_wp2_with (go_at_call 36; refine HC.out.mono ?_; rintro e w' ⟨rfl, hw⟩; obtain rfl := hw.symm)
        go_ret
        exact ⟨by rw [HE.out]; rfl, rfl⟩
    · obtain rfl : k = q := by omega
      have HE : Hid (R = true) := Lib.hid (by
        rw [← HR.out]
        refine decide_eq_true ?_
        have := HF.out
        rw [take_all HQ.out] at this
        exact this)
      clear HF
      as_aux_lemma =>
      go_wp2_with fail
      go_ret
      exact ⟨by rw [HE.out]; rfl, rfl⟩

set_option maxRecDepth 100000 in
theorem sameInts_any {w : World} {s u : Value} {xs ys : List Int} (h : Reads w s xs) (hy : Reads w u ys) (hl : xs.length ≤ 1000000) (hly : ys.length ≤ 1000000) :
    Calls Try.prog 15 #[s, u] w fun e w' => e = .returned (.bool (decide (xs = ys))) ∧ Below w.heap.size w w' := by
  have H := Lib.hid h
  have HY := Lib.hid hy
  obtain ⟨a, cc, rfl⟩ := h.form
  obtain ⟨ua, uc, rfl⟩ := hy.form
  obtain ⟨q, hq⟩ : ∃ q, xs.length = q := ⟨_, rfl⟩
  obtain ⟨uq, huq⟩ : ∃ uq, ys.length = uq := ⟨_, rfl⟩
  rw [hq] at hl H ⊢
  rw [huq] at hly HY ⊢
  have HQ := Lib.hid hq
  have HUQ := Lib.hid huq
  obtain ⟨R, hR⟩ : ∃ R, decide (xs = ys) = R := ⟨_, rfl⟩
  rw [hR]
  have HR := Lib.hid hR
  clear h hq hR hy huq
  by_cases hne : q = uq
  · subst hne
    go_enter Try.func15, Try.ntmps15
    go_wp2_with fail
    as_aux_lemma =>
    go_loopw [4, 5] (fun _ v5 wr => ∃ k : Nat, k ≤ q ∧ v5 = .int .i64 k ∧ Hid (xs.take k = ys.take k) ∧ Hid (Below w.heap.size w wr)) (fun _ v5 _ => q - (intOf v5).toNat)
    case atStart => exact ⟨0, Nat.zero_le _, rfl, Lib.hid (by rw [List.take_zero, List.take_zero]), Lib.hid (Below.refl _ _)⟩
    case round =>
      obtain ⟨k, hk, rfl, HF, HB⟩ := hrel
      by_cases hlt : k < q
      · have hkx : k < xs.length := by rw [HQ.out]; exact hlt
        have hky : k < ys.length := by rw [HUQ.out]; exact hlt
        obtain ⟨b, off, rfl, ck⟩ := (H.out.below HB.out (Nat.le_refl _)).get hkx
        obtain ⟨ub, uoff, rfl, cy⟩ := (HY.out.below HB.out (Nat.le_refl _)).get hky
        have HTS := Lib.hid (take_snoc hkx)
        have HTY := Lib.hid (take_snoc hky)
        have HGET : Hid (xs = ys → xs.getD k 0 = ys.getD k 0) := Lib.hid fun h => by rw [h]
        have hk1 : (k : Int) < (q : Int) := by omega
        have hk0 : (0 : Int) ≤ (k : Int) := by omega
        clear hkx hky
        by_cases he : xs.getD k 0 = ys.getD k 0
        · have HN : Hid (xs.take (k + 1) = ys.take (k + 1)) := Lib.hid (by rw [HTS.out, HTY.out, HF.out, he])
          have hd : (xs.getD k 0 != ys.getD k 0) = false := by simpa using he
          generalize xs.getD k 0 = y at *
          generalize ys.getD k 0 = z at *
          clear he HF
          as_aux_lemma =>
          go_wp2_with fail
          go_quiet (fail)
          go_wp2_with fail
          go_roundw
          case rel => exact ⟨k + 1, by omega, by go_num, HN, Lib.hid (Below.drewN HB.out _)⟩
          case measure => simp [intOf]; omega
        · have hd : (xs.getD k 0 != ys.getD k 0) = true := by simpa using he
          have HE : Hid (R = false) := Lib.hid (by rw [← HR.out]; exact decide_eq_false fun h => he (HGET.out h))
          generalize xs.getD k 0 = y at *
          generalize ys.getD k 0 = z at *
          clear he HF
          as_aux_lemma =>
          go_wp2_with fail
          go_quiet (fail)
          go_wp2_with fail
          go_ret
          exact ⟨by rw [HE.out]; rfl, Below.drewN HB.out _⟩
      · obtain rfl : k = q := by omega
        have HE : Hid (R = true) := Lib.hid (by
          rw [← HR.out]
          refine decide_eq_true ?_
          have := HF.out
          rw [take_all HQ.out, take_all HUQ.out] at this
          exact this)
        clear HF
        as_aux_lemma =>
        go_wp2_with fail
        go_ret
        exact ⟨by rw [HE.out]; rfl, HB.out⟩
  · have hd : ((q : Int) != (uq : Int)) = true := by simp; omega
    have HE : Hid (R = false) := Lib.hid (by rw [← HR.out]; exact decide_eq_false fun h => hne (by rw [← HQ.out, ← HUQ.out, h]))
    clear hne
    go_enter Try.func15, Try.ntmps15
    go_wp2_with fail
    go_ret
    exact ⟨by rw [HE.out]; rfl, Below.refl _ _⟩
end Go.Proofs.Ytngegkgmenfelaa

/-
  The statements' helpers: small, fails; Decide in one; row.
-/
namespace Go.Proofs.Ytngegkgmenfelaa
open Go.RowKit Go.Lib
attribute [local go_sem ↓] Go.wp_at_zero Go.wp_at_succ

def smallB (L : List (List Int)) : Bool := decide (L.length ≤ 60 ∧ ∀ c ∈ L, c.length ≤ 20)

/-- A row of rows that is read, row by row. -/
theorem ReadsL.get {w : World} {a : Option Addr} {n c : Nat} {L : List (List Int)} (h : ReadsL w (.slice a n c) L) {k : Nat} (hk : k < L.length) : ∃ b off da dc, a = some ⟨b, off, none⟩ ∧ w.cell? ⟨b, off + k, none⟩ = some (.slice da (L.getD k []).length dc) ∧ Reads w (.slice da (L.getD k []).length dc) (L.getD k []) := by
  obtain ⟨b, off, c', vs, e, _, hc⟩ := h.resolve_left (fun h => by rw [h.2] at hk; simp at hk)
  injection e with e _ _
  obtain ⟨h1, h2⟩ := hc k hk
  obtain ⟨da, dc, e2⟩ := h2.form
  rw [e2] at h1 h2
  exact ⟨b, off, da, dc, e, h1, h2⟩

theorem all_snoc {L : List (List Int)} {k : Nat} {p : List Int → Prop} (hk : k < L.length) (h : ∀ c ∈ L.take k, p c) (h1 : p (L.getD k [])) : ∀ c ∈ L.take (k + 1), p c := fun c hc => by
  rw [List.take_succ_eq_append_getElem hk] at hc
  rcases List.mem_append.1 hc with hc | hc
  · exact h c hc
  · obtain rfl := List.mem_singleton.1 hc
    rw [List.getD_eq_getElem?_getD, List.getElem?_eq_getElem hk, Option.getD_some] at h1
    exact h1

set_option maxRecDepth 100000 in
theorem small_any {w : World} {s : Value} {L : List (List Int)} (h : ReadsL w s L) :
    Calls Try.prog 9 #[s] w fun e w' => e = .returned (.bool (smallB L)) ∧ w' = w := by
  have H := Lib.hid h
  obtain ⟨a, cc, rfl⟩ := h.form
  obtain ⟨q, hq⟩ : ∃ q, L.length = q := ⟨_, rfl⟩
  rw [hq] at H ⊢
  have HQ := Lib.hid hq
  obtain ⟨R, hR⟩ : ∃ R, smallB L = R := ⟨_, rfl⟩
  rw [hR]
  have HR := Lib.hid hR
  clear h hq hR
  by_cases h60 : 60 < q
  · have HE : Hid (R = false) := Lib.hid (by rw [← HR.out]; exact decide_eq_false fun h => by have h1 := h.1; rw [HQ.out] at h1; omega)
    have hd : (60 : Int) < (q : Int) := by omega
    go_enter Try.func9, Try.ntmps9
    go_wp2_with fail
    go_ret
    exact ⟨by rw [HE.out]; rfl, rfl⟩
  · have hd : ¬ (60 : Int) < (q : Int) := by omega
    have hq60 : q ≤ 60 := by omega
    clear h60
    go_enter Try.func9, Try.ntmps9
    go_wp2_with fail
    clear hd
    as_aux_lemma =>
    go_loop [2, 3] (fun _ v5 => ∃ k : Nat, k ≤ q ∧ v5 = .int .i64 k ∧ Hid (∀ c ∈ L.take k, c.length ≤ 20)) (fun _ v5 => q - (intOf v5).toNat)
    case atStart => exact ⟨0, Nat.zero_le _, rfl, Lib.hid fun y hy => by rw [List.take_zero] at hy; cases hy⟩
    case round =>
      obtain ⟨k, hk, rfl, HF⟩ := hrel
      by_cases hlt : k < q
      · have hkx : k < L.length := by rw [HQ.out]; exact hlt
        obtain ⟨b, off, da, dc, rfl, ck, _⟩ := H.out.get hkx
        have HS := Lib.hid (fun h => all_snoc (p := fun c => c.length ≤ 20) hkx HF.out h)
        have HBAD : Hid (¬ (L.getD k []).length ≤ 20 → R = false) := Lib.hid fun h => by rw [← HR.out]; exact decide_eq_false fun h2 => h (h2.2 _ (mem_getD hkx))
        have hk1 : (k : Int) < (q : Int) := by omega
        have hk0 : (0 : Int) ≤ (k : Int) := by omega
        clear hkx HF
        generalize (L.getD k []).length = m at *
        by_cases hm : m ≤ 20
        · have HN := Lib.hid (HS.out hm)
          have hd : ¬ (20 : Int) < (m : Int) := by omega
          clear HS HBAD
          as_aux_lemma =>
          go_wp2_with fail
          go_round
          case rel => exact ⟨k + 1, by omega, by go_num, HN⟩
          case measure => simp [intOf]; omega
        · have HN := Lib.hid (HBAD.out hm)
          have hd : (20 : Int) < (m : Int) := by omega
          clear HS HBAD
          as_aux_lemma =>
          go_wp2_with fail
          go_ret
          exact ⟨by rw [HN.out]; rfl, rfl⟩
      · obtain rfl : k = q := by omega
        have HE : Hid (R = true) := Lib.hid (by
          rw [← HR.out]
          refine decide_eq_true ⟨by rw [HQ.out]; exact hq60, ?_⟩
          have := HF.out
          rw [List.take_of_length_le (by rw [HQ.out]; exact Nat.le_refl _)] at this
          exact this)
        clear HF
        as_aux_lemma =>
        go_wp2_with fail
        go_ret
        exact ⟨by rw [HE.out]; rfl, rfl⟩

theorem Good.in64 {n : Nat} {T : Tr} (h : Good n T) {m : Nat} {x : Int} (hx : x ∈ cl T m) : In64 x := by
  have := (h.ok.clause m).2 x hx
  have := h.ok.n2
  unfold In64; omega

set_option maxRecDepth 100000 in
set_option maxHeartbeats 2000000 in
theorem fails_any {w : World} {B : Nat → Prop} {b n : Nat} {T : Tr} (h : TrailAt w B b T) (hg : Good n T) (m : Nat) (hm : m < T.L.length) (hz : ∀ z ∈ cl T m, valOf T z = -1) :
    Calls Try.prog 29 #[.pointer (some ⟨b, 0, none⟩), .int .i64 m] w fun e w' => e = .returned (.bool true) ∧ Below w.heap.size w w' := by
  have hlen := (hg.ok.clause m).1
  have HC := Lib.hid (Clause_at h m hm (by omega))
  have H := Lib.hid h
  have HG := Lib.hid hg
  have HZ := Lib.hid hz
  have hcl : T.L.getD m [] = cl T m := rfl
  rw [hcl] at HC
  obtain ⟨c, hc⟩ : ∃ c, cl T m = c := ⟨_, rfl⟩
  have HI : Hid (∀ x ∈ c, In64 x) := Lib.hid fun x hx => by rw [← hc] at hx; exact hg.in64 hx
  rw [hc] at HC HZ
  have hlen : c.length ≤ 20000 := by rw [← hc]; exact hlen
  clear h hg hz hc hcl
  go_enter Try.func29, Try.ntmps29
  go_wp2_with fail
  go_at_call 25
  refine HC.out.mono ?_
  rintro e w1 ⟨v, rfl, hr, hf, hb⟩
  have hrd := hr.reads
  have HRD := Lib.hid hrd
  have HB := Lib.hid hb
  obtain ⟨a, cc, rfl⟩ := hrd.form
  obtain ⟨q, hq⟩ : ∃ q, c.length = q := ⟨_, rfl⟩
  rw [hq] at HRD hlen ⊢
  have HQ := Lib.hid hq
  clear hrd hr hf hb hq HC
  go_wp2_with fail
  as_aux_lemma =>
  go_loopw [4, 6] (fun _ v6 wr => ∃ k : Nat, k ≤ q ∧ v6 = .int .i64 k ∧ Hid (Below w1.heap.size w1 wr)) (fun _ v6 _ => q - (intOf v6).toNat)
  case atStart => exact ⟨0, Nat.zero_le _, rfl, Lib.hid (Below.refl _ _)⟩
  case round =>
    obtain ⟨k, hk, rfl, HBR⟩ := hrel
    by_cases hlt : k < q
    · have hkx : k < c.length := by rw [HQ.out]; exact hlt
      obtain ⟨bb, off, rfl, ck⟩ := (HRD.out.below HBR.out (Nat.le_refl _)).get hkx
      have HM := Lib.hid (mem_getD (d := 0) hkx)
      have HV := Lib.hid (Value_any ((H.out.below HB.out (Nat.le_refl _)).below HBR.out (Nat.le_refl _)) (c.getD k 0) (HI.out _ HM.out) (by rw [HG.out.ok.fl]; exact HG.out.ok.n2) HG.out.ok.small)
      rw [HZ.out _ HM.out] at HV
      have hk1 : (k : Int) < (q : Int) := by omega
      have hk0 : (0 : Int) ≤ (k : Int) := by omega
      clear hkx HM
      generalize c.getD k 0 = x at *
      as_aux_lemma =>
      go_wp2_with fail
      go_at_call 24
      refine HV.out.mono ?_
      rintro e w2 ⟨rfl, hb2⟩
      have HB2 : Hid (Below w1.heap.size w1 w2) := Lib.hid (HBR.out.trans (hb2.mono HBR.out.size))
      clear hb2
      go_wp2_with fail
      go_roundw
      case rel => exact ⟨k + 1, by omega, by go_num, HB2⟩
      case measure => simp [intOf]; omega
    · obtain rfl : k = q := by omega
      as_aux_lemma =>
      go_wp2_with fail
      go_ret
      exact ⟨rfl, HB.out.trans (HBR.out.mono HB.out.size)⟩
end Go.Proofs.Ytngegkgmenfelaa

/-
  Decide in one; the statements' helper row.
-/
namespace Go.Proofs.Ytngegkgmenfelaa
open Go.RowKit Go.Lib
attribute [local go_sem ↓] Go.wp_at_zero Go.wp_at_succ

/-- What Decide tells, and leaves. -/
def decE (T : Tr) (x : Int) : Int := if isVar T x then (if (factOf T x).1 = 0 then 0 else 7) else 1
def decS (T : Tr) (x : Int) : Tr := if decE T x = 0 then decideT T x else T

theorem decE_zero {T : Tr} {x : Int} : decE T x = 0 ↔ isVar T x = true ∧ (factOf T x).1 = 0 := by
  unfold decE
  constructor
  · intro h
    by_cases h1 : isVar T x = true
    · rw [if_pos h1] at h
      by_cases h2 : (factOf T x).1 = 0
      · exact ⟨h1, h2⟩
      · rw [if_neg h2] at h; omega
    · rw [if_neg h1] at h; omega
  · rintro ⟨h1, h2⟩; rw [if_pos h1, if_pos h2]

theorem Good.startsLen {n : Nat} {T : Tr} (h : Good n T) : T.starts.length ≤ T.lits.length := by
  have key : ∀ a, a < T.starts.length → (a : Int) ≤ T.starts.getD a 0 := by
    intro a
    induction a with
    | zero => intro ha; exact (h.stIn 0 ha).1
    | succ a ih =>
      intro ha
      have h1 := ih (by omega)
      have h2 := h.stUp a (a + 1) (by omega) ha
      omega
  by_cases h0 : T.starts.length = 0
  · omega
  · have h1 := key (T.starts.length - 1) (by omega)
    have h2 := (h.stIn (T.starts.length - 1) (by omega)).2
    omega

theorem fact_val {T : Tr} {x : Int} (h : (factOf T x).1 = 0) : valOf T x = 0 := by unfold valOf; rw [h]; split <;> rfl
theorem val_fact {T : Tr} {x : Int} (h : valOf T x = 0) : (factOf T x).1 = 0 := by unfold valOf at h; split at h <;> omega

theorem Good.decS {n : Nat} {T : Tr} (h : Good n T) (x : Int) : Good n (Ytngegkgmenfelaa.decS T x) := by
  unfold Ytngegkgmenfelaa.decS
  by_cases h0 : decE T x = 0
  · rw [if_pos h0]
    obtain ⟨h1, h2⟩ := decE_zero.1 h0
    refine h.decided x ?_ (fact_val h2)
    have := (isVar_iff T x).1 h1
    rw [h.ok.fl] at this; exact this
  · rw [if_neg h0]; exact h

theorem Decide_any {w : World} {B : Nat → Prop} {b n : Nat} {T : Tr} (h : TrailAt w B b T) (hg : Good n T) (x : Int) (hx : In64 x) :
    Calls Try.prog 27 #[.pointer (some ⟨b, 0, none⟩), .int .i64 x] w fun e w' => e = .returned (.int .i64 (decE T x)) ∧ Keep B w w' ∧ TrailAt w' B b (decS T x) := by
  have hn : T.F.length ≤ 20000 := by rw [hg.ok.fl]; exact hg.ok.n2
  have hB := h.there
  unfold decS decE
  cases hv : isVar T x with
  | false =>
    simp only [Bool.false_eq_true, if_false]
    refine (Decide_arg h x hx hn hv).mono ?_
    rintro e w' ⟨rfl, hb⟩
    exact ⟨rfl, (Keep.refl B w).below hb hB, by rw [if_neg (by decide)]; exact h.below hb (Nat.le_refl _)⟩
  | true =>
    simp only [if_true]
    by_cases h0 : (factOf T x).1 = 0
    · rw [if_pos h0]
      have h1 := hg.litsLen
      have h2 := hg.startsLen
      have h3 := hg.ok.n2
      refine (Decide_ok h x hx hn hv h0 (by omega) (by omega)).mono ?_
      rintro e w' ⟨rfl, hk, ht⟩
      exact ⟨rfl, hk, by rw [if_pos rfl]; exact ht⟩
    · rw [if_neg h0]
      refine (Decide_there h x hx hn hv h0).mono ?_
      rintro e w' ⟨rfl, hb⟩
      exact ⟨rfl, (Keep.refl B w).below hb hB, by rw [if_neg (by decide)]; exact h.below hb (Nat.le_refl _)⟩

/-- row: literals decided, with what follows each time. -/
def rowGo : List Int → Bool → Tr → Bool × Tr
  | [], on, T => (on, T)
  | x :: xs, on, T => if on then (if decE T x = 0 then rowGo xs (followT (decS T x)).1.2 (followT (decS T x)).2 else rowGo xs true T) else (false, T)
def rowT (T : Tr) (xs : List Int) : Bool × Tr := rowGo xs (followT T).1.2 (followT T).2
theorem rowGo_false (xs : List Int) (T : Tr) : rowGo xs false T = (false, T) := by
  cases xs with
  | nil => rfl
  | cons x xs => rfl
theorem decS_no {T : Tr} {x : Int} (h : decE T x ≠ 0) : decS T x = T := if_neg h

def RowRel (w0 : World) (B : Nat → Prop) (b n : Nat) (xs : List Int) (R : Bool × Tr) (i : Nat) (on : Bool) (wr : World) : Prop :=
  ∃ T, rowGo (xs.drop i) on T = R ∧ Good n T ∧ TrailAt wr B b T ∧ Keep B w0 wr
def RowPost (w : World) (B : Nat → Prop) (b : Nat) (R : Bool × Tr) (e : Ending) (w' : World) : Prop := e = .returned (.bool R.1) ∧ Keep B w w' ∧ TrailAt w' B b R.2

set_option maxRecDepth 100000 in
set_option maxHeartbeats 4000000 in
theorem row_any {w : World} {B : Nat → Prop} {b n : Nat} {T : Tr} {s : Value} {xs : List Int} (h : TrailAt w B b T) (hg : Good n T) (hr : ∀ w', Keep B w w' → Reads w' s xs) (hl : xs.length ≤ 1000000) (hx : ∀ x ∈ xs, In64 x) :
    Calls Try.prog 11 #[.pointer (some ⟨b, 0, none⟩), s] w (RowPost w B b (rowT T xs)) := by
  obtain ⟨R, hR⟩ : ∃ R, rowT T xs = R := ⟨_, rfl⟩
  rw [hR]
  unfold rowT at hR
  have HF := Lib.hid (Follow_any h hg)
  have HFG := Lib.hid hg.followT.good
  generalize followT T = S at *
  obtain ⟨⟨k0, on0⟩, T0⟩ := S
  have HGO : Hid (rowGo xs on0 T0 = R) := Lib.hid hR
  have HRD := Lib.hid hr
  have HX := Lib.hid hx
  obtain ⟨a, cc, rfl⟩ := (hr w (Keep.refl B w)).form
  obtain ⟨q, hq⟩ : ∃ q, xs.length = q := ⟨_, rfl⟩
  rw [hq] at HRD hl ⊢
  have HQ := Lib.hid hq
  clear h hg hR hr hx hq
  go_enter Try.func11, Try.ntmps11
  go_wp2_with fail
  go_at_call 28
  refine HF.out.mono ?_
  rintro e w1 ⟨rfl, k1, t1⟩
  have REL0 : RowRel w B b n xs R 0 on0 w1 := ⟨T0, by rw [List.drop_zero]; exact HGO.out, HFG.out, t1, k1⟩
  clear k1 t1 HF HFG HGO
  go_wp2_with fail
  as_aux_lemma =>
  go_loopw [6, 7] (fun v6 v7 wr => ∃ (i : Nat) (on : Bool), i ≤ q ∧ v7 = .int .i64 i ∧ v6 = .bool on ∧ RowRel w B b n xs R i on wr) (fun _ v7 _ => q - (intOf v7).toNat)
  case atStart => exact ⟨0, on0, Nat.zero_le _, rfl, rfl, REL0⟩
  case round =>
    clear REL0
    obtain ⟨i, on, hi, rfl, rfl, T1, hgo, g1, t1, k1⟩ := hrel
    by_cases hlt : i < q
    · have hix : i < xs.length := by rw [HQ.out]; exact hlt
      have hi1 : (i : Int) < (q : Int) := by omega
      have hi0 : (0 : Int) ≤ (i : Int) := by omega
      cases on with
      | false =>
        have HE : Hid ((false, T1) = R) := Lib.hid (by rw [rowGo_false] at hgo; exact hgo)
        have HT := Lib.hid t1
        have HK := Lib.hid k1
        clear hgo g1 t1 k1 hix
        as_aux_lemma =>
        go_wp2_with fail
        go_ret
        exact ⟨by rw [← HE.out]; rfl, HK.out, by rw [← HE.out]; exact HT.out⟩
      | true =>
        obtain ⟨bb, off, rfl, ck⟩ := (HRD.out wr k1).get hix
        rw [drop_cons hix] at hgo
        have HX1 := HX.out _ (mem_getD (d := 0) hix)
        generalize xs.getD i 0 = x at *
        unfold rowGo at hgo
        rw [if_pos rfl] at hgo
        have HD := Lib.hid (Decide_any t1 g1 x HX1)
        have G2 := Lib.hid (g1.decS x)
        have K1 := Lib.hid k1
        by_cases h0 : decE T1 x = 0
        · rw [if_pos h0] at hgo
          rw [h0] at HD
          have HGO := Lib.hid hgo
          generalize decS T1 x = T2 at *
          clear hgo g1 t1 k1 hix h0 HX1
          as_aux_lemma =>
          go_wp2_with fail
          go_at_call 27
          refine HD.out.mono ?_
          rintro e w2 ⟨rfl, k2, t2⟩
          have HF := Lib.hid (Follow_any t2 G2.out)
          have HFG := Lib.hid G2.out.followT.good
          have K2 := Lib.hid k2
          clear k2 t2 ck
          generalize followT T2 = S at *
          obtain ⟨⟨k0, on2⟩, T3⟩ := S
          go_wp2_with fail
          go_at_call 28
          refine HF.out.mono ?_
          rintro e w3 ⟨rfl, k3, t3⟩
          have REL1 : RowRel w B b n xs R (i + 1) on2 w3 := ⟨T3, HGO.out, HFG.out, t3, K1.out.trans (K2.out.trans k3)⟩
          clear k3 t3
          go_wp2_with fail
          go_roundw
          case rel => exact ⟨i + 1, on2, by omega, by go_num, rfl, REL1⟩
          case measure => simp [intOf]; omega
        · rw [if_neg h0] at hgo
          rw [decS_no h0] at HD
          have HGO := Lib.hid hgo
          have G1 := Lib.hid g1
          have hd : (decE T1 x == 0) = false := by simpa using h0
          generalize decE T1 x = v at *
          clear hgo g1 t1 k1 hix h0 HX1
          as_aux_lemma =>
          go_wp2_with fail
          go_at_call 27
          refine HD.out.mono ?_
          rintro e w2 ⟨rfl, k2, t2⟩
          have REL1 : RowRel w B b n xs R (i + 1) true w2 := ⟨T1, HGO.out, G1.out, t2, K1.out.trans k2⟩
          clear k2 t2 ck
          go_wp2_with fail
          go_roundw
          case rel => exact ⟨i + 1, true, by omega, by go_num, rfl, REL1⟩
          case measure => simp [intOf]; omega
    · obtain rfl : i = q := by omega
      have HE : Hid ((on, T1) = R) := Lib.hid (by
        rw [List.drop_of_length_le (by rw [HQ.out]; exact Nat.le_refl _)] at hgo
        exact hgo)
      have HT := Lib.hid t1
      have HK := Lib.hid k1
      clear hgo g1 t1 k1
      as_aux_lemma =>
      go_wp2_with fail
      go_ret
      exact ⟨by rw [← HE.out]; rfl, HK.out, by rw [← HE.out]; exact HT.out⟩
end Go.Proofs.Ytngegkgmenfelaa
