/-
  slices.swapRangeCmpFunc, slices.rotateCmpFunc, at the closure of Order.
-/
import Derived.Test.YtbihcdjamdkinaaSq
namespace Go.Proofs.Ytbihcdjamdkinaa
open Go.RowKit Go.Lib
attribute [local go_sem ↓] Go.wp_at_zero Go.wp_at_succ

theorem wrap_nat {x : Int} {p : Nat} (h : x = p) (hp : p ≤ 1000000000) : IntKind.i64.wrap x = (p : Int) := by
  subst h; simp [IntKind.wrap, IntKind.signed, IntKind.bits]; omega

set_option maxRecDepth 100000 in
set_option maxHeartbeats 2000000 in
theorem swapRange_any {w0 w : World} {g c n bx : Nat} {a : Option Addr} {len cap : Nat} {xs es : List Int} (h : SAt w0 w g c n bx a len cap xs es) (lo hi m : Nat) (h1 : lo + m ≤ hi) (h2 : hi + m ≤ n) (hn : n ≤ 1000000) :
    Calls Try.prog 58 #[.slice (some ⟨g, 0, none⟩) n c, .int .i64 lo, .int .i64 hi, .int .i64 m, .func (.func 31) #[] #[.pointer (some ⟨bx, 0, none⟩)]] w fun e w' => e = .returned (.tuple #[]) ∧ SAt w0 w' g c n bx a len cap xs (swR es lo hi m) := by
  have H := Lib.hid h
  clear h
  go_enter Try.func58, Try.ntmps58
  go_wp2_with fail
  go_loopw [10] (fun vi wr => ∃ (k : Nat), vi = .int .i64 k ∧ k ≤ m ∧ Hid (SAt w0 wr g c n bx a len cap xs (swR es lo hi k))) (fun vi _ => m - (intOf vi).toNat)
  case atStart => exact ⟨0, rfl, Nat.zero_le _, H⟩
  case round =>
    obtain ⟨k, rfl, hk, HK⟩ := hrel
    clear H
    by_cases hlt : k < m
    · obtain ⟨p, hp⟩ : ∃ p, lo + k = p := ⟨_, rfl⟩
      obtain ⟨q, hq⟩ : ∃ q, hi + k = q := ⟨_, rfl⟩
      have e1 : IntKind.i64.wrap ((lo : Int) + k) = (p : Int) := wrap_nat (by omega) (by omega)
      have e2 : IntKind.i64.wrap ((hi : Int) + k) = (q : Int) := wrap_nat (by omega) (by omega)
      have e1' : (lo : Int) + k = (p : Int) := by omega
      have e2' : (hi : Int) + k = (q : Int) := by omega
      obtain ⟨cx, fx⟩ := HK.out.cells p (by omega)
      obtain ⟨cy, fy⟩ := HK.out.cells q (by omega)
      have iy := HK.out.inl q (by rw [HK.out.hn]; omega)
      have S1 := Lib.hid (HK.out.swap p q (by omega) (by omega))
      obtain ⟨c3, f3⟩ := (HK.out.store p ((swR es lo hi k).getD q 0) iy).cells q (by omega)
      have HN : Hid (swE (swR es lo hi k) p q = swR es lo hi (k + 1)) := Lib.hid (by rw [← hp, ← hq]; rfl)
      rw [HN.out] at S1
      have b1 : (p : Int) < (n : Int) := by omega
      have b2 : (q : Int) < (n : Int) := by omega
      generalize ((swR es lo hi k).set p ((swR es lo hi k).getD q 0)).getD q 0 = z at *
      generalize (swR es lo hi k).getD p 0 = x at *
      generalize (swR es lo hi k).getD q 0 = y at *
      clear HK iy hp hq HN
      go_wp2_with fail
      go_big_region
      clear cx cy fx fy c3 f3
      generalize ((wr.setCell ⟨g, p, none⟩ (.int .i64 y)).setCell ⟨g, q, none⟩ (.int .i64 x)).drew = W3 at *
      go_wp2_with fail
      go_roundw
      case rel => exact ⟨k + 1, by go_num, by omega, S1⟩
      case measure => simp [intOf]; omega
    · obtain rfl : k = m := by omega
      go_wp2_with fail
      go_end0
      exact ⟨rfl, HK.out⟩

set_option maxRecDepth 100000 in
set_option maxHeartbeats 2000000 in
theorem rotate_any {w0 w : World} {g c n bx : Nat} {a : Option Addr} {len cap : Nat} {xs es : List Int} (h : SAt w0 w g c n bx a len cap xs es) (lo m hi : Nat) (h1 : lo < m) (h2 : m < hi) (h3 : hi ≤ n) (hn : n ≤ 1000000) :
    Calls Try.prog 56 #[.slice (some ⟨g, 0, none⟩) n c, .int .i64 lo, .int .i64 m, .int .i64 hi, .func (.func 31) #[] #[.pointer (some ⟨bx, 0, none⟩)]] w fun e w' => e = .returned (.tuple #[]) ∧ ∃ es', Rot es es' lo m hi ∧ SAt w0 w' g c n bx a len cap xs es' := by
  obtain ⟨T, hT⟩ : ∃ T, rotF m n (m - lo) (hi - m) es = T := ⟨_, rfl⟩
  have HR : Hid (Rot es T lo m hi) := Lib.hid (by
    have := rotF_rot m n (m - lo) (hi - m) es (by omega) (by omega) (by omega) (by omega) (by rw [h.hn]; omega)
    rw [hT, show m - (m - lo) = lo from by omega, show m + (hi - m) = hi from by omega] at this
    exact this)
  have HT := Lib.hid hT
  have H := Lib.hid h
  have e1 : IntKind.i64.wrap ((m : Int) - lo) = ((m - lo : Nat) : Int) := wrap_nat (by omega) (by omega)
  have e2 : IntKind.i64.wrap ((hi : Int) - m) = ((hi - m : Nat) : Int) := wrap_nat (by omega) (by omega)
  have e1' : (m : Int) - lo = ((m - lo : Nat) : Int) := by omega
  have e2' : (hi : Int) - m = ((hi - m : Nat) : Int) := by omega
  clear h hT
  go_enter Try.func56, Try.ntmps56
  go_wp2_with fail
  go_loopw [10, 11] (fun vi vj wr => ∃ (i j f : Nat) (ek : List Int), vi = .int .i64 i ∧ vj = .int .i64 j ∧ i + j ≤ f + 1 ∧ 0 < i ∧ 0 < j ∧ i ≤ m ∧ m + j ≤ n ∧ Hid (SAt w0 wr g c n bx a len cap xs ek) ∧ Hid (rotF m f i j ek = T)) (fun vi vj _ => (intOf vi + intOf vj).toNat)
  case atStart => exact ⟨m - lo, hi - m, n, es, rfl, rfl, by omega, by omega, by omega, by omega, by omega, H, HT⟩
  case round =>
    obtain ⟨i, j, f, ek, rfl, rfl, hf, hi0, hj0, him, hjn, HK, HF⟩ := hrel
    clear H HT e1 e2 e1' e2'
    obtain ⟨f', rfl⟩ : ∃ f', f = f' + 1 := ⟨f - 1, by omega⟩
    obtain ⟨p, hp⟩ : ∃ p, m - i = p := ⟨_, rfl⟩
    have e1 : IntKind.i64.wrap ((m : Int) - i) = (p : Int) := wrap_nat (by omega) (by omega)
    have e1' : (m : Int) - i = (p : Int) := by omega
    by_cases h1 : i = j
    · subst h1
      have hF : Hid (swR ek p m i = T) := Lib.hid (by
        have := HF.out
        unfold rotF at this
        rw [if_pos rfl, hp] at this
        exact this)
      have C := Lib.hid (swapRange_any HK.out p m i (by omega) (by omega) hn)
      rw [hF.out] at C
      have d1 : ((i : Int) != (i : Int)) = false := by simp
      clear HF HK hF
      go_wp2_with (go_at_call 58; with_reducible refine Calls.mono C.out ?_; rintro e w3 ⟨rfl, s3⟩; have S3 := Lib.hid s3; clear s3)
      go_end0
      exact ⟨rfl, T, HR.out, S3.out⟩
    · have d1 : ((i : Int) != (j : Int)) = true := by simp; omega
      by_cases h2 : j < i
      · have hF : Hid (rotF m f' (i - j) j (swR ek p m j) = T) := Lib.hid (by
          have := HF.out
          unfold rotF at this
          rw [if_neg h1, if_pos h2, hp] at this
          exact this)
        have C := Lib.hid (swapRange_any HK.out p m j (by omega) (by omega) hn)
        have e3 : IntKind.i64.wrap ((i : Int) - j) = ((i - j : Nat) : Int) := wrap_nat (by omega) (by omega)
        have e3' : (i : Int) - j = ((i - j : Nat) : Int) := by omega
        have d2 : decide ((j : Int) < (i : Int)) = true := by simp; omega
        clear HF HK
        go_wp2_with (go_at_call 58; with_reducible refine Calls.mono C.out ?_; rintro e w3 ⟨rfl, s3⟩; have S3 := Lib.hid s3; clear s3)
        go_roundw
        case rel => exact ⟨i - j, j, f', _, rfl, rfl, by omega, by omega, hj0, by omega, hjn, S3, hF⟩
        case measure => simp [intOf]; omega
      · obtain ⟨q, hq⟩ : ∃ q, m + j - i = q := ⟨_, rfl⟩
        have hF : Hid (rotF m f' i (j - i) (swR ek p q i) = T) := Lib.hid (by
          have := HF.out
          unfold rotF at this
          rw [if_neg h1, if_neg h2, hp, hq] at this
          exact this)
        have C := Lib.hid (swapRange_any HK.out p q i (by omega) (by omega) hn)
        have e3 : IntKind.i64.wrap ((j : Int) - i) = ((j - i : Nat) : Int) := wrap_nat (by omega) (by omega)
        have e3' : (j : Int) - i = ((j - i : Nat) : Int) := by omega
        obtain ⟨z, hz⟩ : ∃ z, m + j = z := ⟨_, rfl⟩
        have e4 : IntKind.i64.wrap ((m : Int) + j) = (z : Int) := wrap_nat (by omega) (by omega)
        have e4' : (m : Int) + j = (z : Int) := by omega
        have e5 : IntKind.i64.wrap ((z : Int) - i) = (q : Int) := wrap_nat (by omega) (by omega)
        have e5' : (z : Int) - i = (q : Int) := by omega
        have d2 : decide ((j : Int) < (i : Int)) = false := by simp; omega
        have HZ := Lib.hid hz
        clear HF HK hz hq
        go_wp2_with (go_at_call 58; with_reducible refine Calls.mono C.out ?_; rintro e w3 ⟨rfl, s3⟩; have S3 := Lib.hid s3; clear s3)
        go_roundw
        case rel => exact ⟨i, j - i, f', _, rfl, rfl, by omega, hi0, by omega, him, by omega, S3, hF⟩
        case measure => simp [intOf]; omega
end Go.Proofs.Ytbihcdjamdkinaa
