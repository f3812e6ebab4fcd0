/-
  swap, told of plain lists; up; down.
-/
import Derived.Test.YtbihcdjamdkinaaWd
import Derived.Test.YtbihcdjamdkinaaP
import Derived.LoopTactic
namespace Go.Proofs.Ytbihcdjamdkinaa
open Go.RowKit Go.Lib

theorem swap_inv {w : World} {B : Nat → Prop} {b : Nat} {lv pv av : Value} {n : Nat} {L P A : List Int} {sc : Int} (h : QAt w B b lv pv av L P A sc) (hI : Inv n L P A) {i k : Nat} (hi : i < L.length) (hk : k < L.length) :
    Calls Try.prog 50 #[.pointer (some ⟨b, 0, none⟩), .int .i64 i, .int .i64 k] w fun e w' => e = .returned (.tuple #[]) ∧ Keep B w w' ∧ QAt w' B b lv pv av (swL L i k) (swP L P i k) A sc := by
  obtain ⟨e1, _, h1, _⟩ := hI.var hi
  obtain ⟨e2, _, h2, _⟩ := hI.var hk
  exact swap_any h i k (at_ L i) (at_ L k) hi hk e1 e2 (by rw [hI.lenP]; omega) (by rw [hI.lenP]; omega)

theorem ahead_inv {w : World} {B : Nat → Prop} {b : Nat} {lv pv av : Value} {n : Nat} {L P A : List Int} {sc : Int} (h : QAt w B b lv pv av L P A sc) (hI : Inv n L P A) {i k : Nat} (hi : i < L.length) (hk : k < L.length) {r : Bool} (hr : ahd A (at_ L i) (at_ L k) = r) :
    Calls Try.prog 49 #[.pointer (some ⟨b, 0, none⟩), .int .i64 i, .int .i64 k] w fun e w' => e = .returned (.bool r) ∧ Keep B w w' ∧ QAt w' B b lv pv av L P A sc := by
  obtain ⟨e1, _, h1, _⟩ := hI.var hi
  obtain ⟨e2, _, h2, _⟩ := hI.var hk
  subst hr
  refine (ahead_any h i k (at_ L i) (at_ L k) hi hk e1 e2 (by rw [hI.lenA]; omega) (by rw [hI.lenA]; omega)).mono ?_
  rintro e w' ⟨rfl, hb⟩
  exact ⟨rfl, (Keep.refl _ _).below hb h.lt, h.below hb (Nat.le_refl _)⟩

set_option maxRecDepth 100000 in
set_option maxHeartbeats 1000000 in
theorem up_any {w : World} {B : Nat → Prop} {b : Nat} {lv pv av : Value} {n : Nat} {L P A : List Int} {sc : Int} (h : QAt w B b lv pv av L P A sc) (hI : Inv n L P A) (i : Nat) (hi : i < L.length) (hs : L.length ≤ 1000000) :
    Calls Try.prog 40 #[.pointer (some ⟨b, 0, none⟩), .int .i64 i] w fun e w' => e = .returned (.tuple #[]) ∧ Keep B w w' ∧ QAt w' B b lv pv av (upF A (i + 1) i L P).1 (upF A (i + 1) i L P).2 A sc := by
  have H := Lib.hid h
  have HI := Lib.hid hI
  have hT : Hid (upF A (i + 1) i L P = upF A (i + 1) i L P) := rfl
  obtain ⟨T, hT'⟩ : ∃ T, upF A (i + 1) i L P = T := ⟨_, rfl⟩
  rw [hT'] at hT ⊢
  replace hT : Hid (upF A (i + 1) i L P = T) := hT'
  clear h hI hT'
  go_enter Try.func40, Try.ntmps40
  go_wp2_with fail
  go_loopw [1] (fun vi wr => ∃ (j f : Nat) (Lk Pk : List Int), vi = .int .i64 j ∧ j < Lk.length ∧ j < f ∧ Lk.length ≤ 1000000 ∧ Hid (Inv n Lk Pk A) ∧ Hid (QAt wr B b lv pv av Lk Pk A sc) ∧ Hid (Keep B w wr) ∧ Hid (upF A f j Lk Pk = T)) (fun vi _ => (intOf vi).toNat)
  case atStart => exact ⟨i, i + 1, L, P, rfl, hi, Nat.lt_succ_self _, hs, HI, H, Keep.refl _ _, hT⟩
  case round =>
    obtain ⟨j, f, Lk, Pk, rfl, hj, hf, hlk, hIk, hQ, hB, hU⟩ := hrel
    obtain ⟨f', rfl⟩ : ∃ f', f = f' + 1 := ⟨f - 1, by omega⟩
    rcases Nat.eq_zero_or_pos j with h0 | h0
    · subst h0
      have hfin : Hid ((Lk, Pk) = T) := by have h := hU.out; simp only [upF] at h; rw [if_neg (by omega)] at h; exact h
      clear hU hT H HI
      go_wp2_with fail
      go_end0
      rw [← hfin.out]
      exact ⟨rfl, hB.out, hQ.out⟩
    · obtain ⟨jp, rfl⟩ : ∃ jp, j = jp + 1 := ⟨j - 1, by omega⟩
      have hp : jp / 2 < Lk.length := by omega
      cases hr : ahd A (at_ Lk (jp + 1)) (at_ Lk (jp / 2)) with
      | false =>
        have hfin : Hid ((Lk, Pk) = T) := by have h := hU.out; simp only [upF] at h; rw [if_neg (by simp [hr])] at h; exact h
        have C := Lib.hid (ahead_inv hQ.out hIk.out hj hp hr)
        clear hU hT H HI hr
        go_wp2_with (go_at_call 49; refine C.out.mono ?_; rintro e w' ⟨rfl, hb, hq⟩; have hb' := Lib.hid (hB.out.trans hb); have hq' := Lib.hid hq; clear hb hq)
        go_end0
        rw [← hfin.out]
        exact ⟨rfl, hb'.out, hq'.out⟩
      | true =>
        have hnx : Hid (upF A f' (jp / 2) (swL Lk (jp + 1) (jp / 2)) (swP Lk Pk (jp + 1) (jp / 2)) = T) := by have h := hU.out; simp only [upF] at h; rw [if_pos (by simp [hr])] at h; exact h
        have C := Lib.hid (ahead_inv hQ.out hIk.out hj hp hr)
        clear hU hT H HI hr
        go_wp2_with (first
          | (go_at_call 49; refine C.out.mono ?_; rintro e w' ⟨rfl, hb, hq⟩; have hb' := Lib.hid (hB.out.trans hb); have hq' := Lib.hid hq; clear hb hq)
          | (go_at_call 50; refine (swap_inv hq'.out hIk.out hj hp).mono ?_; rintro e w'' ⟨rfl, hb, hq⟩; have hb2 := Lib.hid (hb'.out.trans hb); have hq2 := Lib.hid hq; clear hb hq))
        go_roundw
        case rel => exact ⟨jp / 2, f', _, _, by go_num, by rw [swL_len]; exact hp, by omega, by rw [swL_len]; exact hlk, hIk.out.swap hj hp, hq2.out, hb2.out, hnx.out⟩
        case measure => simp [intOf]; omega

theorem OwnI.form {w : World} {B : Nat} {v : Value} {es : List Int} (h : OwnI w B v es) : ∃ a c, v = .slice a es.length c := by
  rcases h.2 with ⟨rfl, h0⟩ | ⟨g, cap, cur, rfl, _⟩
  · exact ⟨none, 0, by rw [h0]⟩
  · exact ⟨_, _, rfl⟩

set_option maxRecDepth 100000 in
set_option maxHeartbeats 1000000 in
theorem down_any {w : World} {B : Nat → Prop} {b : Nat} {lv pv av : Value} {n : Nat} {L P A : List Int} {sc : Int} (h : QAt w B b lv pv av L P A sc) (hI : Inv n L P A) (i : Nat) (hi : i ≤ 1000000) (hs : L.length ≤ 1000000) (f : Nat) (hf : L.length < f + i) (hf0 : 0 < f) :
    Calls Try.prog 48 #[.pointer (some ⟨b, 0, none⟩), .int .i64 i] w fun e w' => e = .returned (.tuple #[]) ∧ Keep B w w' ∧ QAt w' B b lv pv av (downF A f i L P).1 (downF A f i L P).2 A sc := by
  obtain ⟨la, lc, hlv⟩ := h.l.form
  obtain ⟨ll, hll⟩ : ∃ ll, L.length = ll := ⟨_, rfl⟩
  rw [hll] at hlv hs hf
  obtain ⟨T, hT'⟩ : ∃ T, downF A f i L P = T := ⟨_, rfl⟩
  rw [hT']
  have hT : Hid (downF A f i L P = T) := hT'
  have H := Lib.hid h
  have HI := Lib.hid hI
  have HL := Lib.hid hll
  clear h hI hT' hll
  subst hlv
  go_enter Try.func48, Try.ntmps48
  go_wp2_with fail
  go_loopw [1, 4] (fun vi _ wr => ∃ (j f : Nat) (Lk Pk : List Int), vi = .int .i64 j ∧ j ≤ 1000000 ∧ ll < f + j ∧ 0 < f ∧ Hid (Lk.length = ll) ∧ Hid (Inv n Lk Pk A) ∧ Hid (QAt wr B b (.slice la ll lc) pv av Lk Pk A sc) ∧ Hid (Keep B w wr) ∧ Hid (downF A f j Lk Pk = T)) (fun vi _ _ => 1000001 - (intOf vi).toNat)
  case atStart => exact ⟨i, f, L, P, rfl, hi, hf, hf0, HL, HI, H, Keep.refl _ _, hT⟩
  case round =>
    obtain ⟨j, f, Lk, Pk, rfl, hj, hf, hf0, hlk, hIk, hQ, hB, hU⟩ := hrel
    obtain ⟨f', rfl⟩ : ∃ f', f = f' + 1 := ⟨f - 1, by omega⟩
    have b0 := hQ.out.c0
    rcases Nat.lt_or_ge (2 * j + 1) ll with h1 | h1
    · rcases Nat.lt_or_ge (2 * j + 2) ll with h2 | h2
      · have d1 : decide (2 * j + 1 + 1 < ll) = true := by simp; omega
        have m1 : 2 * j + 2 < Lk.length := by rw [hlk.out]; exact h2
        have m2 : 2 * j + 1 < Lk.length := by rw [hlk.out]; exact h1
        have e1 : ((2 * j + 2 : Nat) : Int) = 2 * (j : Int) + 1 + 1 := by omega
        have e2 : ((2 * j + 1 : Nat) : Int) = 2 * (j : Int) + 1 := by omega
        cases hr1 : ahd A (at_ Lk (2 * j + 2)) (at_ Lk (2 * j + 1)) with
        | false =>
          have hkid : kid A Lk j = 2 * j + 1 := by unfold kid; rw [if_neg (by rw [hr1]; simp)]
          have C0 := Lib.hid (ahead_inv hQ.out hIk.out m1 m2 hr1)
          rw [e1, e2] at C0
          have d2 : decide (ll ≤ 2 * j + 1) = false := by simp; omega
          clear hr1 m1 m2 e1 e2
          have hk : 2 * j + 1 < Lk.length := by rw [hlk.out]; omega
          have hj' : j < Lk.length := by rw [hlk.out]; omega
          have e1 : ((2 * j + 1 : Nat) : Int) = 2 * (j : Int) + 1 := by omega
          cases hr : ahd A (at_ Lk (2 * j + 1)) (at_ Lk j) with
          | false =>
            have hfin : Hid ((Lk, Pk) = T) := by have h := hU.out; simp only [downF] at h; rw [hkid, if_neg (by simp [hr])] at h; exact h
            have C := Lib.hid (fun w' (hq : QAt w' B b (.slice la ll lc) pv av Lk Pk A sc) => ahead_inv hq hIk.out hk hj' hr)
            rw [e1] at C
            have HK := Lib.hid hk
            clear hU hT H HI HL hr hkid hk hj' e1
            go_wp2_with (first
              | (go_at_call 49; with_reducible refine Calls.mono C0.out ?_; rintro e w' ⟨rfl, hb, hq⟩; have BB := Lib.hid (hB.out.trans hb); have QQ := Lib.hid hq; clear hb hq; have b00 := QQ.out.c0)
              | (go_at_call 49; with_reducible refine Calls.mono (C.out _ QQ.out) ?_; rintro e w' ⟨rfl, hb, hq⟩; have hb' := Lib.hid (BB.out.trans hb); have hq' := Lib.hid hq; clear hb hq))
            refine bodyPost_ret (v := .tuple #[]) (results_none rfl _ _ _) rfl ?_
            rw [← hfin.out]
            exact ⟨rfl, hb'.out, hq'.out⟩
          | true =>
            have hnx : Hid (downF A f' (2 * j + 1) (swL Lk j (2 * j + 1)) (swP Lk Pk j (2 * j + 1)) = T) := by have h := hU.out; simp only [downF] at h; rw [hkid, if_pos ⟨hk, hr⟩] at h; exact h
            have C := Lib.hid (fun w' (hq : QAt w' B b (.slice la ll lc) pv av Lk Pk A sc) => ahead_inv hq hIk.out hk hj' hr)
            have S := Lib.hid (fun w' (hq : QAt w' B b (.slice la ll lc) pv av Lk Pk A sc) => swap_inv hq hIk.out hj' hk)
            rw [e1] at C S
            have HK := Lib.hid hk
            have HJ := Lib.hid hj'
            clear hU hT H HI HL hr hkid hk hj' e1
            go_wp2_with (first
              | (go_at_call 49; with_reducible refine Calls.mono C0.out ?_; rintro e w' ⟨rfl, hb, hq⟩; have BB := Lib.hid (hB.out.trans hb); have QQ := Lib.hid hq; clear hb hq; have b00 := QQ.out.c0)
              | (go_at_call 49; with_reducible refine Calls.mono (C.out _ QQ.out) ?_; rintro e w' ⟨rfl, hb, hq⟩; have hb' := Lib.hid (BB.out.trans hb); have hq' := Lib.hid hq; clear hb hq)
              | (go_at_call 50; with_reducible refine Calls.mono (S.out _ hq'.out) ?_; rintro e w'' ⟨rfl, hb, hq⟩; have hb2 := Lib.hid (hb'.out.trans hb); have hq2 := Lib.hid hq; clear hb hq))
            go_roundw
            case rel => exact ⟨2 * j + 1, f', _, _, by go_num, by omega, by omega, by omega, by rw [swL_len]; exact hlk, hIk.out.swap HJ.out HK.out, hq2.out, hb2.out, hnx.out⟩
            case measure => simp [intOf]; omega
        | true =>
          have hkid : kid A Lk j = 2 * j + 2 := by unfold kid; rw [if_pos ⟨m1, hr1⟩]
          have C0 := Lib.hid (ahead_inv hQ.out hIk.out m1 m2 hr1)
          rw [e1, e2] at C0
          have d2 : decide (ll ≤ 2 * j + 1 + 1) = false := by simp; omega
          clear hr1 m1 m2 e1 e2
          have hk : 2 * j + 2 < Lk.length := by rw [hlk.out]; omega
          have hj' : j < Lk.length := by rw [hlk.out]; omega
          have e1 : ((2 * j + 2 : Nat) : Int) = 2 * (j : Int) + 1 + 1 := by omega
          cases hr : ahd A (at_ Lk (2 * j + 2)) (at_ Lk j) with
          | false =>
            have hfin : Hid ((Lk, Pk) = T) := by have h := hU.out; simp only [downF] at h; rw [hkid, if_neg (by simp [hr])] at h; exact h
            have C := Lib.hid (fun w' (hq : QAt w' B b (.slice la ll lc) pv av Lk Pk A sc) => ahead_inv hq hIk.out hk hj' hr)
            rw [e1] at C
            have HK := Lib.hid hk
            clear hU hT H HI HL hr hkid hk hj' e1
            go_wp2_with (first
              | (go_at_call 49; with_reducible refine Calls.mono C0.out ?_; rintro e w' ⟨rfl, hb, hq⟩; have BB := Lib.hid (hB.out.trans hb); have QQ := Lib.hid hq; clear hb hq; have b00 := QQ.out.c0)
              | (go_at_call 49; with_reducible refine Calls.mono (C.out _ QQ.out) ?_; rintro e w' ⟨rfl, hb, hq⟩; have hb' := Lib.hid (BB.out.trans hb); have hq' := Lib.hid hq; clear hb hq))
            refine bodyPost_ret (v := .tuple #[]) (results_none rfl _ _ _) rfl ?_
            rw [← hfin.out]
            exact ⟨rfl, hb'.out, hq'.out⟩
          | true =>
            have hnx : Hid (downF A f' (2 * j + 2) (swL Lk j (2 * j + 2)) (swP Lk Pk j (2 * j + 2)) = T) := by have h := hU.out; simp only [downF] at h; rw [hkid, if_pos ⟨hk, hr⟩] at h; exact h
            have C := Lib.hid (fun w' (hq : QAt w' B b (.slice la ll lc) pv av Lk Pk A sc) => ahead_inv hq hIk.out hk hj' hr)
            have S := Lib.hid (fun w' (hq : QAt w' B b (.slice la ll lc) pv av Lk Pk A sc) => swap_inv hq hIk.out hj' hk)
            rw [e1] at C S
            have HK := Lib.hid hk
            have HJ := Lib.hid hj'
            clear hU hT H HI HL hr hkid hk hj' e1
            go_wp2_with (first
              | (go_at_call 49; with_reducible refine Calls.mono C0.out ?_; rintro e w' ⟨rfl, hb, hq⟩; have BB := Lib.hid (hB.out.trans hb); have QQ := Lib.hid hq; clear hb hq; have b00 := QQ.out.c0)
              | (go_at_call 49; with_reducible refine Calls.mono (C.out _ QQ.out) ?_; rintro e w' ⟨rfl, hb, hq⟩; have hb' := Lib.hid (BB.out.trans hb); have hq' := Lib.hid hq; clear hb hq)
              | (go_at_call 50; with_reducible refine Calls.mono (S.out _ hq'.out) ?_; rintro e w'' ⟨rfl, hb, hq⟩; have hb2 := Lib.hid (hb'.out.trans hb); have hq2 := Lib.hid hq; clear hb hq))
            go_roundw
            case rel => exact ⟨2 * j + 2, f', _, _, by go_num, by omega, by omega, by omega, by rw [swL_len]; exact hlk, hIk.out.swap HJ.out HK.out, hq2.out, hb2.out, hnx.out⟩
            case measure => simp [intOf]; omega
      · have hkid : kid A Lk j = 2 * j + 1 := by unfold kid; rw [if_neg (by rw [hlk.out]; omega)]
        have d1 : decide (2 * j + 1 + 1 < ll) = false := by simp; omega
        have d2 : decide (ll ≤ 2 * j + 1) = false := by simp; omega
        have QQ := hQ
        have BB := hB
        have hk : 2 * j + 1 < Lk.length := by rw [hlk.out]; omega
        have hj' : j < Lk.length := by rw [hlk.out]; omega
        have e1 : ((2 * j + 1 : Nat) : Int) = 2 * (j : Int) + 1 := by omega
        cases hr : ahd A (at_ Lk (2 * j + 1)) (at_ Lk j) with
        | false =>
          have hfin : Hid ((Lk, Pk) = T) := by have h := hU.out; simp only [downF] at h; rw [hkid, if_neg (by simp [hr])] at h; exact h
          have C := Lib.hid (fun w' (hq : QAt w' B b (.slice la ll lc) pv av Lk Pk A sc) => ahead_inv hq hIk.out hk hj' hr)
          rw [e1] at C
          have HK := Lib.hid hk
          clear hU hT H HI HL hr hkid hk hj' e1
          go_wp2_with (first
            | fail
            | (go_at_call 49; with_reducible refine Calls.mono (C.out _ QQ.out) ?_; rintro e w' ⟨rfl, hb, hq⟩; have hb' := Lib.hid (BB.out.trans hb); have hq' := Lib.hid hq; clear hb hq))
          refine bodyPost_ret (v := .tuple #[]) (results_none rfl _ _ _) rfl ?_
          rw [← hfin.out]
          exact ⟨rfl, hb'.out, hq'.out⟩
        | true =>
          have hnx : Hid (downF A f' (2 * j + 1) (swL Lk j (2 * j + 1)) (swP Lk Pk j (2 * j + 1)) = T) := by have h := hU.out; simp only [downF] at h; rw [hkid, if_pos ⟨hk, hr⟩] at h; exact h
          have C := Lib.hid (fun w' (hq : QAt w' B b (.slice la ll lc) pv av Lk Pk A sc) => ahead_inv hq hIk.out hk hj' hr)
          have S := Lib.hid (fun w' (hq : QAt w' B b (.slice la ll lc) pv av Lk Pk A sc) => swap_inv hq hIk.out hj' hk)
          rw [e1] at C S
          have HK := Lib.hid hk
          have HJ := Lib.hid hj'
          clear hU hT H HI HL hr hkid hk hj' e1
          go_wp2_with (first
            | fail
            | (go_at_call 49; with_reducible refine Calls.mono (C.out _ QQ.out) ?_; rintro e w' ⟨rfl, hb, hq⟩; have hb' := Lib.hid (BB.out.trans hb); have hq' := Lib.hid hq; clear hb hq)
            | (go_at_call 50; with_reducible refine Calls.mono (S.out _ hq'.out) ?_; rintro e w'' ⟨rfl, hb, hq⟩; have hb2 := Lib.hid (hb'.out.trans hb); have hq2 := Lib.hid hq; clear hb hq))
          go_roundw
          case rel => exact ⟨2 * j + 1, f', _, _, by go_num, by omega, by omega, by omega, by rw [swL_len]; exact hlk, hIk.out.swap HJ.out HK.out, hq2.out, hb2.out, hnx.out⟩
          case measure => simp [intOf]; omega
    · have hfin : Hid ((Lk, Pk) = T) := by have h := hU.out; simp only [downF] at h; rw [if_neg (by have := hlk.out; unfold kid; split <;> omega)] at h; exact h
      clear hU hT H HI HL
      have d1 : decide (2 * j + 1 + 1 < ll) = false := by simp; omega
      have d2 : decide (ll ≤ 2 * j + 1) = true := by simp; omega
      go_wp2_with fail
      refine bodyPost_ret (v := .tuple #[]) (results_none rfl _ _ _) rfl ?_
      rw [← hfin.out]
      exact ⟨rfl, hB.out, hQ.out⟩
end Go.Proofs.Ytbihcdjamdkinaa
