/-
  slices.symMergeCmpFunc, at the closure of Order.
-/
import Derived.Test.YtbihcdjamdkinaaSt
import Derived.Test.YtbihcdjamdkinaaSv
namespace Go.Proofs.Ytbihcdjamdkinaa
open Go.RowKit Go.Lib
attribute [local go_sem ↓] Go.wp_at_zero Go.wp_at_succ

abbrev clV (bx : Nat) : Value := .func (.func 31) #[] #[.pointer (some ⟨bx, 0, none⟩)]

set_option maxRecDepth 100000 in
set_option maxHeartbeats 2000000 in
theorem merge_up {w0 w : World} {g c n bx : Nat} {a : Option Addr} {len cap : Nat} {xs es : List Int} (h : SAt w0 w g c n bx a len cap xs es) (lo hi : Nat) (h1 : lo + 1 ≤ hi) (h2 : hi ≤ n) (hn : n ≤ 1000000)
    (hs : Srt xs es (lo + 1) hi) (hc : Cr xs es lo (lo + 1) hi) :
    Calls Try.prog 53 #[.slice (some ⟨g, 0, none⟩) n c, .int .i64 lo, .int .i64 ((lo + 1 : Nat) : Int), .int .i64 hi, clV bx] w fun e w' => e = .returned (.tuple #[]) ∧ ∃ es', Srt xs es' lo hi ∧ Perm' es es' lo hi ∧ SAt w0 w' g c n bx a len cap xs es' := by
  have H := Lib.hid h
  have HS := Lib.hid hs
  have HC := Lib.hid hc
  obtain ⟨m, hm⟩ : ∃ m, lo + 1 = m := ⟨_, rfl⟩
  rw [hm]
  have e1 : IntKind.i64.wrap ((m : Int) - lo) = 1 := wrap_nat (p := 1) (by omega) (by omega)
  have e1' : (m : Int) - lo = 1 := by omega
  clear h hs hc
  go_enter Try.func53, Try.ntmps53
  go_wp2_with fail
  clear e1 e1'
  go_loopw [10, 11] (fun vi vj wr => ∃ (i j : Nat), vi = .int .i64 i ∧ vj = .int .i64 j ∧ m ≤ i ∧ i ≤ j ∧ j ≤ hi ∧ Hid (∀ q, m ≤ q → q < i → ltX xs (es.getD q 0) (es.getD lo 0) = true) ∧ Hid (∀ q, j ≤ q → q < hi → ltX xs (es.getD q 0) (es.getD lo 0) = false) ∧ Hid (SAt w0 wr g c n bx a len cap xs es)) (fun vi vj _ => (intOf vj - intOf vi).toNat)
  case atStart => exact ⟨m, hi, rfl, rfl, Nat.le_refl _, by omega, Nat.le_refl _, Lib.hid (fun q _ _ => by omega), Lib.hid (fun q _ _ => by omega), H⟩
  case round =>
    obtain ⟨i, j, rfl, rfl, him, hij, hjh, HL, HG, HK⟩ := hrel
    clear H
    by_cases hlt : i < j
    · obtain ⟨p, hp⟩ : ∃ p, (i + j) / 2 = p := ⟨_, rfl⟩
      have e2 : ((i : Int) + j) / 2 = (p : Int) := by omega
      have e3 : IntKind.i64.wrap ((p : Int) + 1) = ((p + 1 : Nat) : Int) := wrap_nat (by omega) (by omega)
      obtain ⟨cx, _⟩ := HK.out.cells p (by omega)
      obtain ⟨cy, _⟩ := HK.out.cells lo (by omega)
      have ix := HK.out.inl p (by rw [HK.out.hn]; omega)
      have iy := HK.out.inl lo (by rw [HK.out.hn]; omega)
      have C := Lib.hid (fun k => (HK.out.drewN k).cl (es.getD p 0) (es.getD lo 0) ix iy)
      have b1 : (p : Int) < (n : Int) := by omega
      have b2 : (lo : Int) < (n : Int) := by omega
      have HP : Hid (i ≤ p ∧ p < j) := Lib.hid (by omega)
      have HLT := Lib.hid hlt
      cases hlv : ltX xs (es.getD p 0) (es.getD lo 0) with
      | true =>
        have HL2 : Hid (∀ q, m ≤ q → q < p + 1 → ltX xs (es.getD q 0) (es.getD lo 0) = true) := Lib.hid fun q q1 q2 => by
          have k1 := ltX_iff.1 hlv
          have k2 := HS.out.le (i := q) (j := p) (by omega) (by omega) (by omega)
          exact ltX_iff.2 (by omega)
        unfold ltX at hlv
        generalize es.getD p 0 = x at *
        generalize es.getD lo 0 = y at *
        generalize fcmpAt xs y.toNat x.toNat = r at *
        clear ix iy HL hp
        go_wp2_with fail
        go_quiet ((go_at_call 31; exact Calls.quiet_of (C.out _)))
        go_wp2_with fail
        go_roundw
        case rel => exact ⟨p + 1, j, by first | rfl | go_num, rfl, by have := HP.out; omega, by have := HP.out; omega, hjh, HL2, HG, Lib.hid (HK.out.drewN _)⟩
        case measure => have := HP.out; simp [intOf]; omega
      | false =>
        have HG2 : Hid (∀ q, p ≤ q → q < hi → ltX xs (es.getD q 0) (es.getD lo 0) = false) := Lib.hid fun q q1 q2 => by
          have k1 := ltX_no.1 hlv
          have k2 := HS.out.le (i := p) (j := q) (by omega) (by omega) (by omega)
          exact ltX_no.2 (by omega)
        unfold ltX at hlv
        generalize es.getD p 0 = x at *
        generalize es.getD lo 0 = y at *
        generalize fcmpAt xs y.toNat x.toNat = r at *
        clear ix iy HG hp
        go_wp2_with fail
        go_quiet ((go_at_call 31; exact Calls.quiet_of (C.out _)))
        go_wp2_with fail
        go_roundw
        case rel => exact ⟨i, p, rfl, rfl, him, by have := HP.out; omega, by have := HP.out; omega, HL, HG2, Lib.hid (HK.out.drewN _)⟩
        case measure => have := HP.out; simp [intOf]; omega
    · obtain rfl : i = j := by omega
      obtain ⟨ip, rfl⟩ : ∃ ip, i = ip + 1 := ⟨i - 1, by omega⟩
      have hd : decide (((ip + 1 : Nat) : Int) < ((ip + 1 : Nat) : Int)) = false := by simp
      have e4 : IntKind.i64.wrap (((ip + 1 : Nat) : Int) - 1) = (ip : Int) := wrap_nat (by omega) (by omega)
      have e4' : ((ip + 1 : Nat) : Int) - 1 = (ip : Int) := by omega
      have FIN : Hid (Srt xs (shR es lo (ip - lo)) lo hi ∧ Perm' es (shR es lo (ip - lo)) lo hi) := Lib.hid (by
        subst hm
        have := one_up (i := ip + 1) (by rw [HK.out.hn]; omega) HS.out HC.out him hjh HL.out HG.out
        rw [show ip + 1 - 1 - lo = ip - lo from by omega] at this
        exact this)
      clear HL HG hlt
      go_wp2_with fail
      clear hd
      go_loopw [13] (fun vi wr => ∃ (k : Nat), vi = .int .i64 ((lo + k : Nat) : Int) ∧ lo + k ≤ ip ∧ Hid (SAt w0 wr g c n bx a len cap xs (shR es lo k))) (fun vi _ => ip - (intOf vi).toNat)
      case atStart => exact ⟨0, rfl, by omega, HK⟩
      case round =>
        obtain ⟨k, rfl, hk, HQ⟩ := hrel
        clear HK
        obtain ⟨p, hp⟩ : ∃ p, lo + k = p := ⟨_, rfl⟩
        rw [hp] at hk ⊢
        by_cases hlt : p < ip
        · have b1 : (p : Int) < (n : Int) := by omega
          obtain ⟨q, hq⟩ : ∃ q, p + 1 = q := ⟨_, rfl⟩
          have b2 : (q : Int) < (n : Int) := by omega
          have e5 : IntKind.i64.wrap ((p : Int) + 1) = (q : Int) := wrap_nat (by omega) (by omega)
          have e5' : (p : Int) + 1 = (q : Int) := by omega
          obtain ⟨cx, fx⟩ := HQ.out.cells p (by omega)
          obtain ⟨cy, fy⟩ := HQ.out.cells q (by omega)
          have iy := HQ.out.inl q (by rw [HQ.out.hn]; omega)
          have S1 := Lib.hid (HQ.out.swap p q (by omega) (by omega))
          obtain ⟨c3, f3⟩ := (HQ.out.store p ((shR es lo k).getD q 0) iy).cells q (by omega)
          have HN : Hid (swE (shR es lo k) p q = shR es lo (k + 1)) := Lib.hid (by rw [← hq, ← hp]; rfl)
          rw [HN.out] at S1
          generalize ((shR es lo k).set p ((shR es lo k).getD q 0)).getD q 0 = z at *
          generalize (shR es lo k).getD p 0 = x at *
          generalize (shR es lo k).getD q 0 = y at *
          have HQQ := Lib.hid hq
          have HPP := Lib.hid hp
          clear HQ iy HN hq hp
          go_wp2_with fail
          go_big_region
          clear cx cy fx fy c3 f3
          generalize ((wr.setCell ⟨g, p, none⟩ (.int .i64 y)).setCell ⟨g, q, none⟩ (.int .i64 x)).drew = W3 at *
          go_wp2_with fail
          go_roundw
          case rel => exact ⟨k + 1, by have h1 := HPP.out; have h2 := HQQ.out; rw [show lo + (k + 1) = q from by omega], by have h1 := HPP.out; omega, S1⟩
          case measure => have h2 := HQQ.out; simp [intOf]; omega
        · obtain rfl : p = ip := by omega
          obtain rfl : k = p - lo := by omega
          clear hp
          go_wp2_with fail
          refine bodyPost_ret (v := .tuple #[]) (results_none rfl _ _ _) rfl ?_
          exact ⟨rfl, _, FIN.out.1, FIN.out.2, HQ.out⟩

set_option maxRecDepth 100000 in
set_option maxHeartbeats 2000000 in
theorem merge_down {w0 w : World} {g c n bx : Nat} {a : Option Addr} {len cap : Nat} {xs es : List Int} (h : SAt w0 w g c n bx a len cap xs es) (lo m : Nat) (h1 : lo + 1 < m) (h2 : m + 1 ≤ n) (hn : n ≤ 1000000)
    (hs : Srt xs es lo m) (hc : Cr xs es lo m (m + 1)) :
    Calls Try.prog 53 #[.slice (some ⟨g, 0, none⟩) n c, .int .i64 lo, .int .i64 m, .int .i64 ((m + 1 : Nat) : Int), clV bx] w fun e w' => e = .returned (.tuple #[]) ∧ ∃ es', Srt xs es' lo (m + 1) ∧ Perm' es es' lo (m + 1) ∧ SAt w0 w' g c n bx a len cap xs es' := by
  have H := Lib.hid h
  have HS := Lib.hid hs
  have HC := Lib.hid hc
  obtain ⟨hi, hm⟩ : ∃ hi, m + 1 = hi := ⟨_, rfl⟩
  rw [hm]
  obtain ⟨d, hd⟩ : ∃ d, m - lo = d := ⟨_, rfl⟩
  have e1 : IntKind.i64.wrap ((m : Int) - lo) = (d : Int) := wrap_nat (by omega) (by omega)
  have e1' : (m : Int) - lo = (d : Int) := by omega
  have e0 : ((d : Int) == 1) = false := by simp; omega
  have e2 : IntKind.i64.wrap ((hi : Int) - m) = 1 := wrap_nat (p := 1) (by omega) (by omega)
  have e2' : (hi : Int) - m = 1 := by omega
  have b2 : (m : Int) < (n : Int) := by omega
  clear h hs hc hd
  go_enter Try.func53, Try.ntmps53
  go_wp2_with fail
  clear e1 e1' e0 e2 e2'
  go_loopw [14, 15] (fun vi vj wr => ∃ (i j : Nat), vi = .int .i64 i ∧ vj = .int .i64 j ∧ lo ≤ i ∧ i ≤ j ∧ j ≤ m ∧ Hid (∀ q, lo ≤ q → q < i → ltX xs (es.getD m 0) (es.getD q 0) = false) ∧ Hid (∀ q, j ≤ q → q < m → ltX xs (es.getD m 0) (es.getD q 0) = true) ∧ Hid (SAt w0 wr g c n bx a len cap xs es)) (fun vi vj _ => (intOf vj - intOf vi).toNat)
  case atStart => exact ⟨lo, m, rfl, rfl, Nat.le_refl _, by omega, Nat.le_refl _, Lib.hid (fun q _ _ => by omega), Lib.hid (fun q _ _ => by omega), H⟩
  case round =>
    obtain ⟨i, j, rfl, rfl, him, hij, hjh, HL, HG, HK⟩ := hrel
    clear H
    by_cases hlt : i < j
    · obtain ⟨p, hp⟩ : ∃ p, (i + j) / 2 = p := ⟨_, rfl⟩
      have e2 : ((i : Int) + j) / 2 = (p : Int) := by omega
      have e3 : IntKind.i64.wrap ((p : Int) + 1) = ((p + 1 : Nat) : Int) := wrap_nat (by omega) (by omega)
      obtain ⟨cx, _⟩ := HK.out.cells p (by omega)
      obtain ⟨cy, _⟩ := HK.out.cells m (by omega)
      have ix := HK.out.inl p (by rw [HK.out.hn]; omega)
      have iy := HK.out.inl m (by rw [HK.out.hn]; omega)
      have C := Lib.hid (fun k => (HK.out.drewN k).cl (es.getD m 0) (es.getD p 0) iy ix)
      have b1 : (p : Int) < (n : Int) := by omega
      have HP : Hid (i ≤ p ∧ p < j) := Lib.hid (by omega)
      cases hlv : ltX xs (es.getD m 0) (es.getD p 0) with
      | false =>
        have HL2 : Hid (∀ q, lo ≤ q → q < p + 1 → ltX xs (es.getD m 0) (es.getD q 0) = false) := Lib.hid fun q q1 q2 => by
          have k1 := ltX_no.1 hlv
          have k2 := HS.out.le (i := q) (j := p) (by omega) (by omega) (by omega)
          exact ltX_no.2 (by omega)
        unfold ltX at hlv
        generalize es.getD p 0 = x at *
        generalize es.getD m 0 = y at *
        generalize fcmpAt xs x.toNat y.toNat = r at *
        clear ix iy HL hp
        go_wp2_with fail
        go_quiet ((go_at_call 31; exact Calls.quiet_of (C.out _)))
        go_wp2_with fail
        go_roundw
        case rel => exact ⟨p + 1, j, by first | rfl | go_num, rfl, by have := HP.out; omega, by have := HP.out; omega, hjh, HL2, HG, Lib.hid (HK.out.drewN _)⟩
        case measure => have := HP.out; simp [intOf]; omega
      | true =>
        have HG2 : Hid (∀ q, p ≤ q → q < m → ltX xs (es.getD m 0) (es.getD q 0) = true) := Lib.hid fun q q1 q2 => by
          have k1 := ltX_iff.1 hlv
          have k2 := HS.out.le (i := p) (j := q) (by omega) (by omega) (by omega)
          exact ltX_iff.2 (by omega)
        unfold ltX at hlv
        generalize es.getD p 0 = x at *
        generalize es.getD m 0 = y at *
        generalize fcmpAt xs x.toNat y.toNat = r at *
        clear ix iy HG hp
        go_wp2_with fail
        go_quiet ((go_at_call 31; exact Calls.quiet_of (C.out _)))
        go_wp2_with fail
        go_roundw
        case rel => exact ⟨i, p, rfl, rfl, him, by have := HP.out; omega, by have := HP.out; omega, HL, HG2, Lib.hid (HK.out.drewN _)⟩
        case measure => have := HP.out; simp [intOf]; omega
    · obtain rfl : i = j := by omega
      have hd : decide ((i : Int) < (i : Int)) = false := by simp
      have FIN : Hid (Srt xs (shL es m (m - i)) lo hi ∧ Perm' es (shL es m (m - i)) lo hi) := Lib.hid (by
        subst hm
        exact one_down (by rw [HK.out.hn]; omega) HS.out HC.out him hjh HL.out HG.out)
      clear HL HG hlt
      go_wp2_with fail
      clear hd
      go_loopw [17] (fun vi wr => ∃ (k : Nat), vi = .int .i64 ((m - k : Nat) : Int) ∧ k ≤ m - i ∧ Hid (SAt w0 wr g c n bx a len cap xs (shL es m k))) (fun vi _ => (intOf vi).toNat)
      case atStart => exact ⟨0, rfl, by omega, HK⟩
      case round =>
        obtain ⟨k, rfl, hk, HQ⟩ := hrel
        clear HK
        obtain ⟨p, hp⟩ : ∃ p, m - k = p := ⟨_, rfl⟩
        rw [hp]
        by_cases hlt : i < p
        · have b1 : (p : Int) < (n : Int) := by omega
          obtain ⟨q, hq⟩ : ∃ q, p - 1 = q := ⟨_, rfl⟩
          have b3 : (q : Int) < (n : Int) := by omega
          have e5 : IntKind.i64.wrap ((p : Int) - 1) = (q : Int) := wrap_nat (by omega) (by omega)
          have e5' : (p : Int) - 1 = (q : Int) := by omega
          obtain ⟨cx, fx⟩ := HQ.out.cells p (by omega)
          obtain ⟨cy, fy⟩ := HQ.out.cells q (by omega)
          have iy := HQ.out.inl q (by rw [HQ.out.hn]; omega)
          have S1 := Lib.hid (HQ.out.swap p q (by omega) (by omega))
          obtain ⟨c3, f3⟩ := (HQ.out.store p ((shL es m k).getD q 0) iy).cells q (by omega)
          have HN : Hid (swE (shL es m k) p q = shL es m (k + 1)) := Lib.hid (by rw [← hq, ← hp]; rfl)
          rw [HN.out] at S1
          generalize ((shL es m k).set p ((shL es m k).getD q 0)).getD q 0 = z at *
          generalize (shL es m k).getD p 0 = x at *
          generalize (shL es m k).getD q 0 = y at *
          have HQQ := Lib.hid hq
          have HPP := Lib.hid hp
          have hpos : 0 < p := by omega
          clear HQ iy HN hq hp
          go_wp2_with fail
          go_big_region
          clear cx cy fx fy c3 f3
          generalize ((wr.setCell ⟨g, p, none⟩ (.int .i64 y)).setCell ⟨g, q, none⟩ (.int .i64 x)).drew = W3 at *
          go_wp2_with fail
          go_roundw
          case rel => exact ⟨k + 1, by have h1 := HPP.out; have h2 := HQQ.out; rw [show m - (k + 1) = q from by omega], by have h1 := HPP.out; omega, S1⟩
          case measure => have h2 := HQQ.out; simp [intOf]; omega
        · obtain rfl : p = i := by omega
          obtain rfl : k = m - p := by omega
          have hd : decide ((p : Int) < (p : Int)) = false := by simp
          clear hp
          go_wp2_with fail
          refine bodyPost_ret (v := .tuple #[]) (results_none rfl _ _ _) rfl ?_
          exact ⟨rfl, _, FIN.out.1, FIN.out.2, HQ.out⟩
end Go.Proofs.Ytbihcdjamdkinaa
