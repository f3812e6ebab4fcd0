/-
  slices.symMergeCmpFunc, whatever two sorted rows.
-/
import Derived.Test.YtbihcdjamdkinaaSw
namespace Go.Proofs.Ytbihcdjamdkinaa
open Go.RowKit Go.Lib
attribute [local go_sem ↓] Go.wp_at_zero Go.wp_at_succ

/-- What symMerge is to do. -/
def Merges (w0 : World) (g c n bx : Nat) (a : Option Addr) (len cap : Nat) (xs : List Int) (lo m hi : Nat) : Prop := ∀ (w : World) (es : List Int), SAt w0 w g c n bx a len cap xs es → Srt xs es lo m → Srt xs es m hi → Cr xs es lo m hi →
  Calls Try.prog 53 #[.slice (some ⟨g, 0, none⟩) n c, .int .i64 lo, .int .i64 m, .int .i64 hi, clV bx] w fun e w' => e = .returned (.tuple #[]) ∧ ∃ es', Srt xs es' lo hi ∧ Perm' es es' lo hi ∧ SAt w0 w' g c n bx a len cap xs es'

set_option maxRecDepth 100000 in
set_option maxHeartbeats 8000000 in
theorem merge_step {w0 w : World} {g c n bx : Nat} {a : Option Addr} {len cap : Nat} {xs es : List Int} (lo m hi : Nat) (h1 : lo + 1 < m) (h2 : m + 1 < hi) (h3 : hi ≤ n) (hn : n ≤ 1000000)
    (IH : ∀ lo' m' hi', lo' < m' → m' < hi' → hi' ≤ n → hi' - lo' < hi - lo → Merges w0 g c n bx a len cap xs lo' m' hi')
    (h : SAt w0 w g c n bx a len cap xs es) (hs1 : Srt xs es lo m) (hs2 : Srt xs es m hi) (hc : Cr xs es lo m hi) (mid nn p st rr : Nat) (hmid : (lo + hi) / 2 = mid) (hnn : mid + m = nn) (hp : nn - 1 = p)
    (hcase : (mid < m ∧ st = nn - hi ∧ rr = mid) ∨ (m ≤ mid ∧ st = lo ∧ rr = m)) :
    Calls Try.prog 53 #[.slice (some ⟨g, 0, none⟩) n c, .int .i64 lo, .int .i64 m, .int .i64 hi, clV bx] w fun e w' => e = .returned (.tuple #[]) ∧ ∃ es', Srt xs es' lo hi ∧ Perm' es es' lo hi ∧ SAt w0 w' g c n bx a len cap xs es' := by
  have H := Lib.hid h
  have HS1 := Lib.hid hs1
  have HS2 := Lib.hid hs2
  have HC := Lib.hid hc
  have HI := Lib.hid IH
  have f1 : ((lo : Int) + hi) / 2 = (mid : Int) := by omega
  have f2 : IntKind.i64.wrap ((mid : Int) + m) = (nn : Int) := wrap_nat (by omega) (by omega)
  have f2' : (mid : Int) + m = (nn : Int) := by omega
  have f3 : IntKind.i64.wrap ((nn : Int) - 1) = (p : Int) := wrap_nat (by omega) (by omega)
  have f3' : (nn : Int) - 1 = (p : Int) := by omega
  obtain ⟨d1, hd1⟩ : ∃ d1, m - lo = d1 := ⟨_, rfl⟩
  obtain ⟨d2, hd2⟩ : ∃ d2, hi - m = d2 := ⟨_, rfl⟩
  have f4 : IntKind.i64.wrap ((m : Int) - lo) = (d1 : Int) := wrap_nat (by omega) (by omega)
  have f4' : (m : Int) - lo = (d1 : Int) := by omega
  have f5 : IntKind.i64.wrap ((hi : Int) - m) = (d2 : Int) := wrap_nat (by omega) (by omega)
  have f5' : (hi : Int) - m = (d2 : Int) := by omega
  have f6 : ((d1 : Int) == 1) = false := by simp; omega
  have f7 : ((d2 : Int) == 1) = false := by simp; omega
  have A1 : Hid (lo ≤ st ∧ st ≤ rr ∧ rr ≤ m ∧ rr ≤ mid ∧ mid < hi ∧ lo < mid ∧ nn < n + n ∧ nn - st ≤ hi ∧ (st = lo ∨ nn - st = hi) ∧ (rr = m ∨ rr = mid)) := Lib.hid (by omega)
  have HNN := Lib.hid hnn
  have HPP := Lib.hid hp
  have H12 := Lib.hid (And.intro h1 h2)
  clear h hs1 hs2 hc IH hd1 hd2 hmid hnn hp
  rcases hcase with ⟨q1, q2, q3⟩ | ⟨q1, q2, q3⟩
  · have d : decide (mid < m) = true := by simpa using q1
    have f8 : IntKind.i64.wrap ((nn : Int) - hi) = (st : Int) := wrap_nat (by have := A1.out; have := HNN.out; omega) (by have := A1.out; omega)
    have f8' : (nn : Int) - hi = (st : Int) := by have := A1.out; have := HNN.out; omega
    have Q3 := Lib.hid q3
    have HQ := Lib.hid (show (st : Int) = st from rfl)
    clear q1 q2 q3
    go_enter Try.func53, Try.ntmps53
    go_wp2_with fail
    clear f1 f2 f2' f3 f3' f4 f4' f5 f5' f6 f7 d f8 f8'
    go_loopw [20, 21] (fun vi vj wr => ∃ (s r : Nat), vi = .int .i64 s ∧ vj = .int .i64 r ∧ st ≤ s ∧ s ≤ r ∧ r ≤ rr ∧ Hid (∀ q, st ≤ q → q < s → ltX xs (es.getD (p - q) 0) (es.getD q 0) = false) ∧ Hid (∀ q, r ≤ q → q < rr → ltX xs (es.getD (p - q) 0) (es.getD q 0) = true) ∧ Hid (SAt w0 wr g c n bx a len cap xs es)) (fun vi vj _ => (intOf vj - intOf vi).toNat)
    case atStart => exact ⟨st, mid, rfl, rfl, Nat.le_refl _, by have h := A1.out; have := Q3.out; omega, by have := Q3.out; omega, Lib.hid (fun q _ _ => by omega), Lib.hid (fun q _ _ => by have := Q3.out; omega), H⟩
    case round =>
      obtain ⟨s, r, rfl, rfl, hst, hsr, hrr, HL, HG, HK⟩ := hrel
      clear H
      by_cases hlt : s < r
      · obtain ⟨q, hq⟩ : ∃ q, (s + r) / 2 = q := ⟨_, rfl⟩
        obtain ⟨z, hz⟩ : ∃ z, p - q = z := ⟨_, rfl⟩
        have B : Hid (s ≤ q ∧ q < r ∧ m ≤ z ∧ z < hi ∧ p - st < hi ∧ m ≤ p - (rr - 1) ∧ z ≤ p ∧ q ≤ p) := Lib.hid (by have := A1.out; have := HNN.out; have := HPP.out; have := H12.out; omega)
        have hB := B.out
        have e2 : ((s : Int) + r) / 2 = (q : Int) := by omega
        have e3 : IntKind.i64.wrap ((q : Int) + 1) = ((q + 1 : Nat) : Int) := wrap_nat (by omega) (by have := A1.out; omega)
        have e4 : IntKind.i64.wrap ((p : Int) - q) = (z : Int) := wrap_nat (by omega) (by omega)
        have e4' : (p : Int) - q = (z : Int) := by omega
        have hqn : q < n := by have := A1.out; omega
        obtain ⟨cx, _⟩ := HK.out.cells z (by omega)
        obtain ⟨cy, _⟩ := HK.out.cells q hqn
        have ix := HK.out.inl z (by rw [HK.out.hn]; omega)
        have iy := HK.out.inl q (by rw [HK.out.hn]; omega)
        have C := Lib.hid (fun k => (HK.out.drewN k).cl (es.getD z 0) (es.getD q 0) ix iy)
        have b1 : (z : Int) < (n : Int) := by omega
        have b2 : (q : Int) < (n : Int) := by omega
        cases hlv : ltX xs (es.getD z 0) (es.getD q 0) with
        | false =>
          have HL2 : Hid (∀ k, st ≤ k → k < q + 1 → ltX xs (es.getD (p - k) 0) (es.getD k 0) = false) := Lib.hid fun k q1 q2 => by
            have k1 := ltX_no.1 hlv
            have hA := A1.out
            have k2 := HS1.out.le (i := k) (j := q) (by omega) (by omega) (by omega)
            have k3 := HS2.out.le (i := z) (j := p - k) (by omega) (by omega) (by omega)
            exact ltX_no.2 (by omega)
          unfold ltX at hlv
          generalize es.getD z 0 = x at *
          generalize es.getD q 0 = y at *
          generalize fcmpAt xs y.toNat x.toNat = v at *
          clear ix iy HL hq hz hB hqn
          go_wp2_with fail
          go_quiet ((go_at_call 31; exact Calls.quiet_of (C.out _)))
          go_wp2_with fail
          go_roundw
          case rel => exact ⟨q + 1, r, by first | rfl | go_num, rfl, by have := B.out; omega, by have := B.out; omega, hrr, HL2, HG, Lib.hid (HK.out.drewN _)⟩
          case measure => have := B.out; simp [intOf]; omega
        | true =>
          have HG2 : Hid (∀ k, q ≤ k → k < rr → ltX xs (es.getD (p - k) 0) (es.getD k 0) = true) := Lib.hid fun k q1 q2 => by
            have k1 := ltX_iff.1 hlv
            have hA := A1.out
            have k2 := HS1.out.le (i := q) (j := k) (by omega) (by omega) (by omega)
            have k3 := HS2.out.le (i := p - k) (j := z) (by omega) (by omega) (by omega)
            exact ltX_iff.2 (by omega)
          unfold ltX at hlv
          generalize es.getD z 0 = x at *
          generalize es.getD q 0 = y at *
          generalize fcmpAt xs y.toNat x.toNat = v at *
          clear ix iy HG hq hz hB hqn
          go_wp2_with fail
          go_quiet ((go_at_call 31; exact Calls.quiet_of (C.out _)))
          go_wp2_with fail
          go_roundw
          case rel => exact ⟨s, q, rfl, rfl, hst, by have := B.out; omega, by have := B.out; omega, HL, HG2, Lib.hid (HK.out.drewN _)⟩
          case measure => have := B.out; simp [intOf]; omega
      · obtain rfl : s = r := by omega
        obtain ⟨e, he⟩ : ∃ e, nn - s = e := ⟨_, rfl⟩
        have hA := A1.out
        have hN := HNN.out
        have hP := HPP.out
        have h12 := H12.out
        have G : Hid (lo ≤ s ∧ s ≤ m ∧ m ≤ e ∧ e ≤ hi ∧ mid + m = s + e ∧ s ≤ mid ∧ mid ≤ e) := Lib.hid (by omega)
        have e1 : IntKind.i64.wrap ((nn : Int) - s) = (e : Int) := wrap_nat (by omega) (by omega)
        have e1' : (nn : Int) - s = (e : Int) := by omega
        have HALV : Hid (∀ es1, Rot es es1 s m e → Halves xs es1 lo s mid e hi) := Lib.hid fun es1 hr => by
          have hG := G.out
          refine halves HS1.out HS2.out HC.out hG.1 hG.2.1 hG.2.2.1 hG.2.2.2.1 hG.2.2.2.2.1 hG.2.2.2.2.2.1 (fun x1 x2 => ?_) (fun x1 x2 => ?_) hr
          · have := ltX_no.1 (HL.out (s - 1) (by omega) (by omega))
            rw [show p - (s - 1) = e from by omega] at this; exact this
          · have := ltX_iff.1 (HG.out s (Nat.le_refl _) (by omega))
            rw [show p - s = e - 1 from by omega] at this; exact this
        have I1 : Hid (∀ W es1, Halves xs es1 lo s mid e hi → SAt w0 W g c n bx a len cap xs es1 → lo < s → s < mid → Calls Try.prog 53 #[.slice (some ⟨g, 0, none⟩) n c, .int .i64 lo, .int .i64 s, .int .i64 mid, clV bx] W fun e w' => e = .returned (.tuple #[]) ∧ ∃ es', Srt xs es' lo mid ∧ Perm' es1 es' lo mid ∧ SAt w0 w' g c n bx a len cap xs es') :=
          Lib.hid fun W es1 hv hS x1 x2 => HI.out lo s mid x1 x2 (by omega) (by omega) W es1 hS hv.s1 hv.s2 hv.c1
        have I2 : Hid (∀ W es1 es2, Halves xs es1 lo s mid e hi → Perm' es1 es2 lo mid → SAt w0 W g c n bx a len cap xs es2 → mid < e → e < hi → Calls Try.prog 53 #[.slice (some ⟨g, 0, none⟩) n c, .int .i64 mid, .int .i64 e, .int .i64 hi, clV bx] W fun e w' => e = .returned (.tuple #[]) ∧ ∃ es', Srt xs es' mid hi ∧ Perm' es2 es' mid hi ∧ SAt w0 w' g c n bx a len cap xs es') :=
          Lib.hid fun W es1 es2 hv hp2 hS x1 x2 => HI.out mid e hi x1 x2 h3 (by omega) W es2 hS (hv.s3.same (fun j j1 _ => hp2.out j (by omega))) (hv.s4.same (fun j j1 _ => hp2.out j (by omega)))
            (fun p' q' p1 p2 q1 q2 hk => by rw [hp2.out p' (by omega), hp2.out q' (by omega)] at hk ⊢; exact hv.c2 p' q' p1 p2 q1 q2 hk)
        have F : Hid (∀ es1 es2 es3, Rot es es1 s m e → Halves xs es1 lo s mid e hi → Perm' es1 es2 lo mid → Srt xs es2 lo mid → Perm' es2 es3 mid hi → Srt xs es3 mid hi → Srt xs es3 lo hi ∧ Perm' es es3 lo hi) :=
          Lib.hid fun es1 es2 es3 hr hv p2 s2 p3 s3 => ⟨joined hv p2 s2 p3 s3, (hr.perm.mono (by omega) (by omega)).trans ((p2.mono (Nat.le_refl _) (by omega)).trans (p3.mono (by omega) (Nat.le_refl _)))⟩
        have CR : Hid (s < m → m < e → Calls Try.prog 56 #[.slice (some ⟨g, 0, none⟩) n c, .int .i64 s, .int .i64 m, .int .i64 e, clV bx] wr fun r w' => r = .returned (.tuple #[]) ∧ ∃ es', Rot es es' s m e ∧ SAt w0 w' g c n bx a len cap xs es') :=
          Lib.hid fun x1 x2 => rotate_any HK.out s m e x1 x2 (by omega) hn
        have hG := G.out
        have hlm := A1.out.2.2.2.2.2.1
        clear HL HG hlt hA hN hP h12 hst hrr hsr HS1 HS2 HC HI HNN HPP A1 Q3
        by_cases hsm : s < m
        · by_cases hme : m < e
          · have x1 : s < mid := by omega
            have x2 : mid < e := by omega
            by_cases hls : lo < s
            · by_cases heh : e < hi
              · clear hG he
                go_wp2_with (first
                  | (go_at_call 56; with_reducible refine Calls.mono (CR.out hsm hme) ?_; rintro r w5 ⟨rfl, es1, hr, s1⟩; have HR := Lib.hid hr; have S1 := Lib.hid s1; have HV := Lib.hid (HALV.out es1 hr); clear hr s1)
                  | (go_at_call 53; with_reducible refine Calls.mono (I1.out _ _ HV.out S1.out hls x1) ?_; rintro r w6 ⟨rfl, es2, t2, p2, s2⟩; have T2 := Lib.hid t2; have P2 := Lib.hid p2; have S2 := Lib.hid s2; clear t2 p2 s2)
                  | (go_at_call 53; with_reducible refine Calls.mono (I2.out _ _ _ HV.out P2.out S2.out x2 heh) ?_; rintro r w7 ⟨rfl, es3, t3, p3, s3⟩; have T3 := Lib.hid t3; have P3 := Lib.hid p3; have S3 := Lib.hid s3; clear t3 p3 s3))
                go_end0
                exact ⟨rfl, es3, (F.out _ _ _ HR.out HV.out P2.out T2.out P3.out T3.out).1, (F.out _ _ _ HR.out HV.out P2.out T2.out P3.out T3.out).2, S3.out⟩
              · obtain rfl : e = hi := by omega
                have dd : decide (e < e) = false := by simp
                clear hG he heh
                go_wp2_with (first
                  | (go_at_call 56; with_reducible refine Calls.mono (CR.out hsm hme) ?_; rintro r w5 ⟨rfl, es1, hr, s1⟩; have HR := Lib.hid hr; have S1 := Lib.hid s1; have HV := Lib.hid (HALV.out es1 hr); clear hr s1)
                  | (go_at_call 53; with_reducible refine Calls.mono (I1.out _ _ HV.out S1.out hls x1) ?_; rintro r w6 ⟨rfl, es2, t2, p2, s2⟩; have T2 := Lib.hid t2; have P2 := Lib.hid p2; have S2 := Lib.hid s2; clear t2 p2 s2))
                go_end0
                have T3 : Srt xs es2 mid e := HV.out.s3.same (fun j j1 _ => P2.out.out j (by omega))
                exact ⟨rfl, es2, (F.out _ _ _ HR.out HV.out P2.out T2.out (.refl _ _ _) T3).1, (F.out _ _ _ HR.out HV.out P2.out T2.out (.refl _ _ _) T3).2, S2.out⟩
            · obtain rfl : lo = s := by omega
              have dl : decide (lo < lo) = false := by simp
              by_cases heh : e < hi
              · clear hG he hls
                go_wp2_with (first
                  | (go_at_call 56; with_reducible refine Calls.mono (CR.out hsm hme) ?_; rintro r w5 ⟨rfl, es1, hr, s1⟩; have HR := Lib.hid hr; have S1 := Lib.hid s1; have HV := Lib.hid (HALV.out es1 hr); clear hr s1)
                  | (go_at_call 53; with_reducible refine Calls.mono (I2.out _ _ _ HV.out (Perm'.refl _ _ _) S1.out x2 heh) ?_; rintro r w7 ⟨rfl, es3, t3, p3, s3⟩; have T3 := Lib.hid t3; have P3 := Lib.hid p3; have S3 := Lib.hid s3; clear t3 p3 s3))
                go_end0
                exact ⟨rfl, es3, (F.out _ _ _ HR.out HV.out (.refl _ _ _) HV.out.s2 P3.out T3.out).1, (F.out _ _ _ HR.out HV.out (.refl _ _ _) HV.out.s2 P3.out T3.out).2, S3.out⟩
              · obtain rfl : e = hi := by omega
                have dd : decide (e < e) = false := by simp
                clear hG he heh hls
                go_wp2_with (first
                  | fail
                  | (go_at_call 56; with_reducible refine Calls.mono (CR.out hsm hme) ?_; rintro r w5 ⟨rfl, es1, hr, s1⟩; have HR := Lib.hid hr; have S1 := Lib.hid s1; have HV := Lib.hid (HALV.out es1 hr); clear hr s1))
                go_end0
                exact ⟨rfl, es1, (F.out _ _ _ HR.out HV.out (.refl _ _ _) HV.out.s2 (.refl _ _ _) HV.out.s3).1, (F.out _ _ _ HR.out HV.out (.refl _ _ _) HV.out.s2 (.refl _ _ _) HV.out.s3).2, S1.out⟩
          · obtain rfl : m = e := by omega
            obtain rfl : s = mid := by omega
            have HR : Hid (Rot es es s m m) := Lib.hid (Rot.none (.inr rfl))
            have HV := Lib.hid (HALV.out es HR.out)
            have dm : decide (m < m) = false := by simp
            have ds : decide (s < s) = false := by simp
            have x3 : lo < s := hlm
            have x4 : m < hi := by have := H12.out; omega
            clear hG he hme HALV CR
            go_wp2_with (first
              | fail
              | (go_at_call 53; with_reducible refine Calls.mono (I2.out _ _ _ HV.out (Perm'.refl _ _ _) HK.out hsm x4) ?_; rintro r w7 ⟨rfl, es3, t3, p3, s3⟩; have T3 := Lib.hid t3; have P3 := Lib.hid p3; have S3 := Lib.hid s3; clear t3 p3 s3))
            go_end0
            exact ⟨rfl, es3, (F.out _ _ _ HR.out HV.out (.refl _ _ _) HV.out.s1 P3.out T3.out).1, (F.out _ _ _ HR.out HV.out (.refl _ _ _) HV.out.s1 P3.out T3.out).2, S3.out⟩
        · obtain rfl : s = m := by omega
          obtain rfl : e = mid := by omega
          have HR : Hid (Rot es es s s e) := Lib.hid (Rot.none (.inl rfl))
          have HV := Lib.hid (HALV.out es HR.out)
          have dm : decide (s < s) = false := by simp
          have de : decide (e < e) = false := by simp
          have x3 : lo < s := by have := H12.out; omega
          have hem : e ≤ 1000000 := by omega
          by_cases hme : s < e
          · clear hG he hsm HALV CR
            go_wp2_with (first
              | fail
              | (go_at_call 53; with_reducible refine Calls.mono (I1.out _ _ HV.out HK.out x3 hme) ?_; rintro r w6 ⟨rfl, es2, t2, p2, s2⟩; have T2 := Lib.hid t2; have P2 := Lib.hid p2; have S2 := Lib.hid s2; clear t2 p2 s2))
            go_end0
            have T3 : Srt xs es2 e hi := HV.out.s4.same (fun j j1 _ => P2.out.out j (by omega))
            exact ⟨rfl, es2, (F.out _ _ _ HR.out HV.out P2.out T2.out (.refl _ _ _) T3).1, (F.out _ _ _ HR.out HV.out P2.out T2.out (.refl _ _ _) T3).2, S2.out⟩
          · obtain rfl : s = e := by omega
            clear hG he hsm hme HALV CR
            go_wp2_with fail
            go_end0
            exact ⟨rfl, es, (F.out _ _ _ HR.out HV.out (.refl _ _ _) HV.out.s1 (.refl _ _ _) HV.out.s4).1, (F.out _ _ _ HR.out HV.out (.refl _ _ _) HV.out.s1 (.refl _ _ _) HV.out.s4).2, HK.out⟩
  · have d : decide (mid < m) = false := by simpa using q1
    have Q2 := Lib.hid q2
    have Q3 := Lib.hid q3
    clear q1 q2 q3
    go_enter Try.func53, Try.ntmps53
    go_wp2_with fail
    clear f1 f2 f2' f3 f3' f4 f4' f5 f5' f6 f7 d
    go_loopw [20, 21] (fun vi vj wr => ∃ (s r : Nat), vi = .int .i64 s ∧ vj = .int .i64 r ∧ st ≤ s ∧ s ≤ r ∧ r ≤ rr ∧ Hid (∀ q, st ≤ q → q < s → ltX xs (es.getD (p - q) 0) (es.getD q 0) = false) ∧ Hid (∀ q, r ≤ q → q < rr → ltX xs (es.getD (p - q) 0) (es.getD q 0) = true) ∧ Hid (SAt w0 wr g c n bx a len cap xs es)) (fun vi vj _ => (intOf vj - intOf vi).toNat)
    case atStart => exact ⟨lo, m, rfl, rfl, by have := Q2.out; omega, by have := H12.out; omega, by have := Q3.out; omega, Lib.hid (fun q _ _ => by have := Q2.out; omega), Lib.hid (fun q _ _ => by have := Q3.out; omega), H⟩
    case round =>
      obtain ⟨s, r, rfl, rfl, hst, hsr, hrr, HL, HG, HK⟩ := hrel
      clear H
      by_cases hlt : s < r
      · obtain ⟨q, hq⟩ : ∃ q, (s + r) / 2 = q := ⟨_, rfl⟩
        obtain ⟨z, hz⟩ : ∃ z, p - q = z := ⟨_, rfl⟩
        have B : Hid (s ≤ q ∧ q < r ∧ m ≤ z ∧ z < hi ∧ p - st < hi ∧ m ≤ p - (rr - 1) ∧ z ≤ p ∧ q ≤ p) := Lib.hid (by have := A1.out; have := HNN.out; have := HPP.out; have := H12.out; omega)
        have hB := B.out
        have e2 : ((s : Int) + r) / 2 = (q : Int) := by omega
        have e3 : IntKind.i64.wrap ((q : Int) + 1) = ((q + 1 : Nat) : Int) := wrap_nat (by omega) (by have := A1.out; omega)
        have e4 : IntKind.i64.wrap ((p : Int) - q) = (z : Int) := wrap_nat (by omega) (by omega)
        have e4' : (p : Int) - q = (z : Int) := by omega
        have hqn : q < n := by have := A1.out; omega
        obtain ⟨cx, _⟩ := HK.out.cells z (by omega)
        obtain ⟨cy, _⟩ := HK.out.cells q hqn
        have ix := HK.out.inl z (by rw [HK.out.hn]; omega)
        have iy := HK.out.inl q (by rw [HK.out.hn]; omega)
        have C := Lib.hid (fun k => (HK.out.drewN k).cl (es.getD z 0) (es.getD q 0) ix iy)
        have b1 : (z : Int) < (n : Int) := by omega
        have b2 : (q : Int) < (n : Int) := by omega
        cases hlv : ltX xs (es.getD z 0) (es.getD q 0) with
        | false =>
          have HL2 : Hid (∀ k, st ≤ k → k < q + 1 → ltX xs (es.getD (p - k) 0) (es.getD k 0) = false) := Lib.hid fun k q1 q2 => by
            have k1 := ltX_no.1 hlv
            have hA := A1.out
            have k2 := HS1.out.le (i := k) (j := q) (by omega) (by omega) (by omega)
            have k3 := HS2.out.le (i := z) (j := p - k) (by omega) (by omega) (by omega)
            exact ltX_no.2 (by omega)
          unfold ltX at hlv
          generalize es.getD z 0 = x at *
          generalize es.getD q 0 = y at *
          generalize fcmpAt xs y.toNat x.toNat = v at *
          clear ix iy HL hq hz hB hqn
          go_wp2_with fail
          go_quiet ((go_at_call 31; exact Calls.quiet_of (C.out _)))
          go_wp2_with fail
          go_roundw
          case rel => exact ⟨q + 1, r, by first | rfl | go_num, rfl, by have := B.out; omega, by have := B.out; omega, hrr, HL2, HG, Lib.hid (HK.out.drewN _)⟩
          case measure => have := B.out; simp [intOf]; omega
        | true =>
          have HG2 : Hid (∀ k, q ≤ k → k < rr → ltX xs (es.getD (p - k) 0) (es.getD k 0) = true) := Lib.hid fun k q1 q2 => by
            have k1 := ltX_iff.1 hlv
            have hA := A1.out
            have k2 := HS1.out.le (i := q) (j := k) (by omega) (by omega) (by omega)
            have k3 := HS2.out.le (i := p - k) (j := z) (by omega) (by omega) (by omega)
            exact ltX_iff.2 (by omega)
          unfold ltX at hlv
          generalize es.getD z 0 = x at *
          generalize es.getD q 0 = y at *
          generalize fcmpAt xs y.toNat x.toNat = v at *
          clear ix iy HG hq hz hB hqn
          go_wp2_with fail
          go_quiet ((go_at_call 31; exact Calls.quiet_of (C.out _)))
          go_wp2_with fail
          go_roundw
          case rel => exact ⟨s, q, rfl, rfl, hst, by have := B.out; omega, by have := B.out; omega, HL, HG2, Lib.hid (HK.out.drewN _)⟩
          case measure => have := B.out; simp [intOf]; omega
      · obtain rfl : s = r := by omega
        obtain ⟨e, he⟩ : ∃ e, nn - s = e := ⟨_, rfl⟩
        have hA := A1.out
        have hN := HNN.out
        have hP := HPP.out
        have h12 := H12.out
        have G : Hid (lo ≤ s ∧ s ≤ m ∧ m ≤ e ∧ e ≤ hi ∧ mid + m = s + e ∧ s ≤ mid ∧ mid ≤ e) := Lib.hid (by omega)
        have e1 : IntKind.i64.wrap ((nn : Int) - s) = (e : Int) := wrap_nat (by omega) (by omega)
        have e1' : (nn : Int) - s = (e : Int) := by omega
        have HALV : Hid (∀ es1, Rot es es1 s m e → Halves xs es1 lo s mid e hi) := Lib.hid fun es1 hr => by
          have hG := G.out
          refine halves HS1.out HS2.out HC.out hG.1 hG.2.1 hG.2.2.1 hG.2.2.2.1 hG.2.2.2.2.1 hG.2.2.2.2.2.1 (fun x1 x2 => ?_) (fun x1 x2 => ?_) hr
          · have := ltX_no.1 (HL.out (s - 1) (by omega) (by omega))
            rw [show p - (s - 1) = e from by omega] at this; exact this
          · have := ltX_iff.1 (HG.out s (Nat.le_refl _) (by omega))
            rw [show p - s = e - 1 from by omega] at this; exact this
        have I1 : Hid (∀ W es1, Halves xs es1 lo s mid e hi → SAt w0 W g c n bx a len cap xs es1 → lo < s → s < mid → Calls Try.prog 53 #[.slice (some ⟨g, 0, none⟩) n c, .int .i64 lo, .int .i64 s, .int .i64 mid, clV bx] W fun e w' => e = .returned (.tuple #[]) ∧ ∃ es', Srt xs es' lo mid ∧ Perm' es1 es' lo mid ∧ SAt w0 w' g c n bx a len cap xs es') :=
          Lib.hid fun W es1 hv hS x1 x2 => HI.out lo s mid x1 x2 (by omega) (by omega) W es1 hS hv.s1 hv.s2 hv.c1
        have I2 : Hid (∀ W es1 es2, Halves xs es1 lo s mid e hi → Perm' es1 es2 lo mid → SAt w0 W g c n bx a len cap xs es2 → mid < e → e < hi → Calls Try.prog 53 #[.slice (some ⟨g, 0, none⟩) n c, .int .i64 mid, .int .i64 e, .int .i64 hi, clV bx] W fun e w' => e = .returned (.tuple #[]) ∧ ∃ es', Srt xs es' mid hi ∧ Perm' es2 es' mid hi ∧ SAt w0 w' g c n bx a len cap xs es') :=
          Lib.hid fun W es1 es2 hv hp2 hS x1 x2 => HI.out mid e hi x1 x2 h3 (by omega) W es2 hS (hv.s3.same (fun j j1 _ => hp2.out j (by omega))) (hv.s4.same (fun j j1 _ => hp2.out j (by omega)))
            (fun p' q' p1 p2 q1 q2 hk => by rw [hp2.out p' (by omega), hp2.out q' (by omega)] at hk ⊢; exact hv.c2 p' q' p1 p2 q1 q2 hk)
        have F : Hid (∀ es1 es2 es3, Rot es es1 s m e → Halves xs es1 lo s mid e hi → Perm' es1 es2 lo mid → Srt xs es2 lo mid → Perm' es2 es3 mid hi → Srt xs es3 mid hi → Srt xs es3 lo hi ∧ Perm' es es3 lo hi) :=
          Lib.hid fun es1 es2 es3 hr hv p2 s2 p3 s3 => ⟨joined hv p2 s2 p3 s3, (hr.perm.mono (by omega) (by omega)).trans ((p2.mono (Nat.le_refl _) (by omega)).trans (p3.mono (by omega) (Nat.le_refl _)))⟩
        have CR : Hid (s < m → m < e → Calls Try.prog 56 #[.slice (some ⟨g, 0, none⟩) n c, .int .i64 s, .int .i64 m, .int .i64 e, clV bx] wr fun r w' => r = .returned (.tuple #[]) ∧ ∃ es', Rot es es' s m e ∧ SAt w0 w' g c n bx a len cap xs es') :=
          Lib.hid fun x1 x2 => rotate_any HK.out s m e x1 x2 (by omega) hn
        have hG := G.out
        have hlm := A1.out.2.2.2.2.2.1
        clear HL HG hlt hA hN hP h12 hst hrr hsr HS1 HS2 HC HI HNN HPP A1 Q2 Q3
        by_cases hsm : s < m
        · by_cases hme : m < e
          · have x1 : s < mid := by omega
            have x2 : mid < e := by omega
            by_cases hls : lo < s
            · by_cases heh : e < hi
              · clear hG he
                go_wp2_with (first
                  | (go_at_call 56; with_reducible refine Calls.mono (CR.out hsm hme) ?_; rintro r w5 ⟨rfl, es1, hr, s1⟩; have HR := Lib.hid hr; have S1 := Lib.hid s1; have HV := Lib.hid (HALV.out es1 hr); clear hr s1)
                  | (go_at_call 53; with_reducible refine Calls.mono (I1.out _ _ HV.out S1.out hls x1) ?_; rintro r w6 ⟨rfl, es2, t2, p2, s2⟩; have T2 := Lib.hid t2; have P2 := Lib.hid p2; have S2 := Lib.hid s2; clear t2 p2 s2)
                  | (go_at_call 53; with_reducible refine Calls.mono (I2.out _ _ _ HV.out P2.out S2.out x2 heh) ?_; rintro r w7 ⟨rfl, es3, t3, p3, s3⟩; have T3 := Lib.hid t3; have P3 := Lib.hid p3; have S3 := Lib.hid s3; clear t3 p3 s3))
                go_end0
                exact ⟨rfl, es3, (F.out _ _ _ HR.out HV.out P2.out T2.out P3.out T3.out).1, (F.out _ _ _ HR.out HV.out P2.out T2.out P3.out T3.out).2, S3.out⟩
              · obtain rfl : e = hi := by omega
                have dd : decide (e < e) = false := by simp
                clear hG he heh
                go_wp2_with (first
                  | (go_at_call 56; with_reducible refine Calls.mono (CR.out hsm hme) ?_; rintro r w5 ⟨rfl, es1, hr, s1⟩; have HR := Lib.hid hr; have S1 := Lib.hid s1; have HV := Lib.hid (HALV.out es1 hr); clear hr s1)
                  | (go_at_call 53; with_reducible refine Calls.mono (I1.out _ _ HV.out S1.out hls x1) ?_; rintro r w6 ⟨rfl, es2, t2, p2, s2⟩; have T2 := Lib.hid t2; have P2 := Lib.hid p2; have S2 := Lib.hid s2; clear t2 p2 s2))
                go_end0
                have T3 : Srt xs es2 mid e := HV.out.s3.same (fun j j1 _ => P2.out.out j (by omega))
                exact ⟨rfl, es2, (F.out _ _ _ HR.out HV.out P2.out T2.out (.refl _ _ _) T3).1, (F.out _ _ _ HR.out HV.out P2.out T2.out (.refl _ _ _) T3).2, S2.out⟩
            · obtain rfl : lo = s := by omega
              have dl : decide (lo < lo) = false := by simp
              by_cases heh : e < hi
              · clear hG he hls
                go_wp2_with (first
                  | (go_at_call 56; with_reducible refine Calls.mono (CR.out hsm hme) ?_; rintro r w5 ⟨rfl, es1, hr, s1⟩; have HR := Lib.hid hr; have S1 := Lib.hid s1; have HV := Lib.hid (HALV.out es1 hr); clear hr s1)
                  | (go_at_call 53; with_reducible refine Calls.mono (I2.out _ _ _ HV.out (Perm'.refl _ _ _) S1.out x2 heh) ?_; rintro r w7 ⟨rfl, es3, t3, p3, s3⟩; have T3 := Lib.hid t3; have P3 := Lib.hid p3; have S3 := Lib.hid s3; clear t3 p3 s3))
                go_end0
                exact ⟨rfl, es3, (F.out _ _ _ HR.out HV.out (.refl _ _ _) HV.out.s2 P3.out T3.out).1, (F.out _ _ _ HR.out HV.out (.refl _ _ _) HV.out.s2 P3.out T3.out).2, S3.out⟩
              · obtain rfl : e = hi := by omega
                have dd : decide (e < e) = false := by simp
                clear hG he heh hls
                go_wp2_with (first
                  | fail
                  | (go_at_call 56; with_reducible refine Calls.mono (CR.out hsm hme) ?_; rintro r w5 ⟨rfl, es1, hr, s1⟩; have HR := Lib.hid hr; have S1 := Lib.hid s1; have HV := Lib.hid (HALV.out es1 hr); clear hr s1))
                go_end0
                exact ⟨rfl, es1, (F.out _ _ _ HR.out HV.out (.refl _ _ _) HV.out.s2 (.refl _ _ _) HV.out.s3).1, (F.out _ _ _ HR.out HV.out (.refl _ _ _) HV.out.s2 (.refl _ _ _) HV.out.s3).2, S1.out⟩
          · obtain rfl : m = e := by omega
            obtain rfl : s = mid := by omega
            have HR : Hid (Rot es es s m m) := Lib.hid (Rot.none (.inr rfl))
            have HV := Lib.hid (HALV.out es HR.out)
            have dm : decide (m < m) = false := by simp
            have ds : decide (s < s) = false := by simp
            have x3 : lo < s := hlm
            have x4 : m < hi := by have := H12.out; omega
            clear hG he hme HALV CR
            go_wp2_with (first
              | fail
              | (go_at_call 53; with_reducible refine Calls.mono (I2.out _ _ _ HV.out (Perm'.refl _ _ _) HK.out hsm x4) ?_; rintro r w7 ⟨rfl, es3, t3, p3, s3⟩; have T3 := Lib.hid t3; have P3 := Lib.hid p3; have S3 := Lib.hid s3; clear t3 p3 s3))
            go_end0
            exact ⟨rfl, es3, (F.out _ _ _ HR.out HV.out (.refl _ _ _) HV.out.s1 P3.out T3.out).1, (F.out _ _ _ HR.out HV.out (.refl _ _ _) HV.out.s1 P3.out T3.out).2, S3.out⟩
        · obtain rfl : s = m := by omega
          obtain rfl : e = mid := by omega
          have HR : Hid (Rot es es s s e) := Lib.hid (Rot.none (.inl rfl))
          have HV := Lib.hid (HALV.out es HR.out)
          have dm : decide (s < s) = false := by simp
          have de : decide (e < e) = false := by simp
          have x3 : lo < s := by have := H12.out; omega
          have hem : e ≤ 1000000 := by omega
          by_cases hme : s < e
          · clear hG he hsm HALV CR
            go_wp2_with (first
              | fail
              | (go_at_call 53; with_reducible refine Calls.mono (I1.out _ _ HV.out HK.out x3 hme) ?_; rintro r w6 ⟨rfl, es2, t2, p2, s2⟩; have T2 := Lib.hid t2; have P2 := Lib.hid p2; have S2 := Lib.hid s2; clear t2 p2 s2))
            go_end0
            have T3 : Srt xs es2 e hi := HV.out.s4.same (fun j j1 _ => P2.out.out j (by omega))
            exact ⟨rfl, es2, (F.out _ _ _ HR.out HV.out P2.out T2.out (.refl _ _ _) T3).1, (F.out _ _ _ HR.out HV.out P2.out T2.out (.refl _ _ _) T3).2, S2.out⟩
          · obtain rfl : s = e := by omega
            clear hG he hsm hme HALV CR
            go_wp2_with fail
            go_end0
            exact ⟨rfl, es, (F.out _ _ _ HR.out HV.out (.refl _ _ _) HV.out.s1 (.refl _ _ _) HV.out.s4).1, (F.out _ _ _ HR.out HV.out (.refl _ _ _) HV.out.s1 (.refl _ _ _) HV.out.s4).2, HK.out⟩
end Go.Proofs.Ytbihcdjamdkinaa
