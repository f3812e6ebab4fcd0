/-
  The document's answer: nan, value, Compare, Best.
-/
import Derived.Test.YtbihcdjamdkinaaSy
import Derived.Test.YtbihcdjamdkinaaIn
namespace Go.Proofs.Ytbihcdjamdkinaa
open Go.RowKit Go.Lib
attribute [local go_sem ↓] Go.wp_at_zero Go.wp_at_succ

/-- All but the sign. -/
def low (a : Int) : Int := bits .and .u64 a 9223372036854775807
theorem low_eq {a : Int} (ha : U64 a) : low a = (frung a.toNat : Int) := by
  obtain ⟨x, rfl⟩ := Int.eq_ofNat_of_zero_le ha.1
  have hx : x < 18446744073709551616 := by have := ha.2; omega
  have e : (BitVec.ofInt 64 (x : Int) &&& BitVec.ofInt 64 9223372036854775807).toNat = x % 9223372036854775808 := by
    rw [BitVec.toNat_and, BitVec.toNat_ofInt, BitVec.toNat_ofInt]
    have h1 : ((x : Int) % ((2 ^ 64 : Nat) : Int)).toNat = x := by omega
    have h2 : ((9223372036854775807 : Int) % ((2 ^ 64 : Nat) : Int)).toNat = 2 ^ 63 - 1 := by decide
    rw [h1, h2, Nat.and_two_pow_sub_one_eq_mod]
  show IntKind.u64.wrap ((BitVec.ofInt 64 (x : Int) &&& BitVec.ofInt 64 9223372036854775807).toNat : Int) = _
  rw [e, Int.toNat_natCast]
  unfold frung
  generalize hy : x % 9223372036854775808 = y
  have : y < 9223372036854775808 := by omega
  simp [IntKind.wrap, IntKind.signed, IntKind.bits]
  omega

theorem nan_any (a : Int) (w : World) (ha : U64 a) : Calls Try.prog 34 #[.int .u64 a] w fun e w' => e = .returned (.bool (fnan a.toNat)) ∧ w' = w := by
  have e1 : bits .and .u64 a 9223372036854775807 = (frung a.toNat : Int) := low_eq ha
  have e2 : fnan a.toNat = decide (9218868437227405312 < frung a.toNat) := rfl
  rw [e2]
  clear e2 ha
  generalize frung a.toNat = r at *
  have e3 : decide ((9218868437227405312 : Int) < (r : Int)) = decide (9218868437227405312 < r) := by
    by_cases h : 9218868437227405312 < r
    · rw [decide_eq_true h, decide_eq_true (by omega)]
    · rw [decide_eq_false h, decide_eq_false (by omega)]
  generalize decide (9218868437227405312 < r) = b at *
  go_enter Try.func34, Try.ntmps34
  go_wp2_with fail
  go_ret
  exact ⟨by first | rfl | simp [e3], rfl⟩

theorem value_any (a : Int) (w : World) (ha : U64 a) : Calls Try.prog 35 #[.int .u64 a] w fun e w' => e = .returned (.int .i64 (fkey a.toNat)) ∧ w' = w := by
  have e1 : bits .and .u64 a 9223372036854775807 = (frung a.toNat : Int) := low_eq ha
  have hr : frung a.toNat < 9223372036854775808 := by unfold frung; omega
  have hneg : fneg a.toNat = decide (9223372036854775808 ≤ a) := by
    unfold fneg
    obtain ⟨x, rfl⟩ := Int.eq_ofNat_of_zero_le ha.1
    have hx : x < 18446744073709551616 := by have := ha.2; omega
    rw [Int.toNat_natCast]
    by_cases h : 9223372036854775808 ≤ x
    · rw [decide_eq_true (by omega), show x / 9223372036854775808 = 1 from by omega]; rfl
    · rw [decide_eq_false (by omega), show x / 9223372036854775808 = 0 from by omega]; rfl
  have hk : fkey a.toNat = if decide (9223372036854775808 ≤ a) then -(frung a.toNat : Int) else frung a.toNat := by unfold fkey; rw [hneg]
  rw [hk]
  clear hk hneg ha
  generalize frung a.toNat = r at *
  have f1 : IntKind.i64.wrap (r : Int) = r := by simp [IntKind.wrap, IntKind.signed, IntKind.bits]; omega
  have f2 : IntKind.i64.wrap (-(r : Int)) = -(r : Int) := by simp [IntKind.wrap, IntKind.signed, IntKind.bits]; omega
  cases hd : decide (9223372036854775808 ≤ a) with
  | true =>
    go_enter Try.func35, Try.ntmps35
    go_wp2_with fail
    go_ret
    exact ⟨rfl, rfl⟩
  | false =>
    go_enter Try.func35, Try.ntmps35
    go_wp2_with fail
    go_ret
    exact ⟨rfl, rfl⟩

theorem rCompare_any (a b : Int) (w : World) (ha : U64 a) (hb : U64 b) : Calls Try.prog 13 #[.int .u64 a, .int .u64 b] w fun e w' => e = .returned (.int .i64 (fcmp a.toNat b.toNat)) ∧ w' = w := by
  have N1 := Lib.hid (fun w => nan_any a w ha)
  have N2 := Lib.hid (fun w => nan_any b w hb)
  have V1 := Lib.hid (fun w => value_any a w ha)
  have V2 := Lib.hid (fun w => value_any b w hb)
  unfold fcmp
  clear ha hb
  generalize fnan a.toNat = na at *
  generalize fnan b.toNat = nb at *
  generalize fkey a.toNat = x at *
  generalize fkey b.toNat = y at *
  cases na with
  | true =>
    cases nb with
    | true =>
      rw [if_pos rfl, if_pos rfl]
      go_enter Try.func13, Try.ntmps13
      go_wp2_with (first
        | (go_at_call 34; with_reducible refine Calls.mono (N1.out _) ?_; rintro e w' ⟨rfl, rfl⟩)
        | (go_at_call 34; with_reducible refine Calls.mono (N2.out _) ?_; rintro e w' ⟨rfl, rfl⟩))
      go_ret
      exact ⟨rfl, rfl⟩
    | false =>
      rw [if_pos rfl, if_neg (by simp)]
      go_enter Try.func13, Try.ntmps13
      go_wp2_with (first
        | (go_at_call 34; with_reducible refine Calls.mono (N1.out _) ?_; rintro e w' ⟨rfl, rfl⟩)
        | (go_at_call 34; with_reducible refine Calls.mono (N2.out _) ?_; rintro e w' ⟨rfl, rfl⟩))
      go_ret
      exact ⟨rfl, rfl⟩
  | false =>
    cases nb with
    | true =>
      rw [if_neg (by simp), if_pos rfl]
      go_enter Try.func13, Try.ntmps13
      go_wp2_with (first
        | (go_at_call 34; with_reducible refine Calls.mono (N1.out _) ?_; rintro e w' ⟨rfl, rfl⟩)
        | (go_at_call 34; with_reducible refine Calls.mono (N2.out _) ?_; rintro e w' ⟨rfl, rfl⟩))
      go_ret
      exact ⟨rfl, rfl⟩
    | false =>
      rw [if_neg (by simp), if_neg (by simp)]
      have hc : (decide (x < y) = true) ∨ (decide (x < y) = false ∧ decide (y < x) = true) ∨ (decide (x < y) = false ∧ decide (y < x) = false) := by
        by_cases h1 : x < y
        · exact .inl (by simpa using h1)
        · by_cases h2 : y < x
          · exact .inr (.inl ⟨by simpa using h1, by simpa using h2⟩)
          · exact .inr (.inr ⟨by simpa using h1, by simpa using h2⟩)
      rcases hc with g1 | ⟨g1, g2⟩ | ⟨g1, g2⟩
      · rw [if_pos (of_decide_eq_true g1)]
        go_enter Try.func13, Try.ntmps13
        go_wp2_with (first
          | (go_at_call 34; with_reducible refine Calls.mono (N1.out _) ?_; rintro e w' ⟨rfl, rfl⟩)
          | (go_at_call 34; with_reducible refine Calls.mono (N2.out _) ?_; rintro e w' ⟨rfl, rfl⟩)
          | (go_at_call 35; with_reducible refine Calls.mono (V1.out _) ?_; rintro e w' ⟨rfl, rfl⟩)
          | (go_at_call 35; with_reducible refine Calls.mono (V2.out _) ?_; rintro e w' ⟨rfl, rfl⟩))
        go_ret
        exact ⟨rfl, rfl⟩
      · rw [if_neg (of_decide_eq_false g1), if_pos (of_decide_eq_true g2)]
        go_enter Try.func13, Try.ntmps13
        go_wp2_with (first
          | (go_at_call 34; with_reducible refine Calls.mono (N1.out _) ?_; rintro e w' ⟨rfl, rfl⟩)
          | (go_at_call 34; with_reducible refine Calls.mono (N2.out _) ?_; rintro e w' ⟨rfl, rfl⟩)
          | (go_at_call 35; with_reducible refine Calls.mono (V1.out _) ?_; rintro e w' ⟨rfl, rfl⟩)
          | (go_at_call 35; with_reducible refine Calls.mono (V2.out _) ?_; rintro e w' ⟨rfl, rfl⟩))
        go_ret
        exact ⟨rfl, rfl⟩
      · rw [if_neg (of_decide_eq_false g1), if_neg (of_decide_eq_false g2)]
        go_enter Try.func13, Try.ntmps13
        go_wp2_with (first
          | (go_at_call 34; with_reducible refine Calls.mono (N1.out _) ?_; rintro e w' ⟨rfl, rfl⟩)
          | (go_at_call 34; with_reducible refine Calls.mono (N2.out _) ?_; rintro e w' ⟨rfl, rfl⟩)
          | (go_at_call 35; with_reducible refine Calls.mono (V1.out _) ?_; rintro e w' ⟨rfl, rfl⟩)
          | (go_at_call 35; with_reducible refine Calls.mono (V2.out _) ?_; rintro e w' ⟨rfl, rfl⟩))
        go_ret
        exact ⟨rfl, rfl⟩

theorem u64_at {xs : List Int} (h : ∀ x ∈ xs, U64 x) (i : Nat) : U64 (xs.getD i 0) := by
  rw [List.getD_eq_getElem?_getD]
  by_cases hi : i < xs.length
  · rw [List.getElem?_eq_getElem hi]; exact h _ (List.getElem_mem hi)
  · rw [List.getElem?_eq_none (by omega)]; exact ⟨by decide, by decide⟩

set_option maxRecDepth 100000 in
set_option maxHeartbeats 1000000 in
theorem rBest_any (a : Option Addr) (len cap : Nat) (xs : List Int) (w : World) (hl : len ≤ 1000000) (hi : IsU w a len xs) (hu : ∀ x ∈ xs, U64 x) :
    Calls Try.prog 15 #[.slice a len cap] w fun e w' => e = .returned (.int .i64 (bestTo xs len)) ∧ ∃ n, w' = w.drewN n := by
  have HI := Lib.hid hi
  have HU := Lib.hid hu
  clear hi hu
  go_enter Try.func15, Try.ntmps15
  go_wp2_with fail
  go_loopw [3, 4] (fun bv vi wr => ∃ (k : Nat), k ≤ len ∧ vi = .int .i64 k ∧ bv = .int .i64 (bestTo xs k) ∧ Hid (∃ n, wr = w.drewN n)) (fun _ vi _ => len - (intOf vi).toNat)
  case atStart => exact ⟨0, Nat.zero_le _, rfl, rfl, Lib.hid ⟨0, rfl⟩⟩
  case round =>
    obtain ⟨k, hk, rfl, rfl, hW⟩ := hrel
    obtain ⟨nd, rfl⟩ := hW.out
    clear hW
    by_cases hlt : k < len
    · obtain ⟨b, off, rfl, _, hc⟩ := HI.out.2.resolve_left (by omega)
      have hc' : ∀ i, i < len → (w.drewN nd).cell? ⟨b, off + i, none⟩ = some (.int .u64 (xs.getD i 0)) := hc
      have ck := hc' k hlt
      obtain ⟨b0, b1⟩ := bestTo_bd xs k
      have b2 : (k : Int) < (len : Int) := by omega
      by_cases hneg : bestTo xs k < 0
      · have HN : Hid (bestTo xs (k + 1) = k) := Lib.hid (by unfold bestTo; rw [if_pos (.inl hneg)])
        have d1 : decide (bestTo xs k < 0) = true := decide_eq_true hneg
        generalize bestTo xs k = t at *
        clear hc hc'
        generalize hW : w.drewN nd = W at *
        have HW := Lib.hid hW
        clear hW
        go_wp2_with fail
        go_quiet (fail)
        go_wp2_with fail
        go_roundw
        case rel => exact ⟨k + 1, by omega, by go_num, by rw [HN.out], Lib.hid ⟨nd + nq, by rw [← HW.out, World.drewN_drewN]⟩⟩
        case measure => simp [intOf]; omega
      · obtain ⟨t, ht⟩ := Int.eq_ofNat_of_zero_le (show 0 ≤ bestTo xs k by omega)
        have htk : t < len := by omega
        have ct := hc' t htk
        have b3 : (t : Int) < (len : Int) := by omega
        have HC := Lib.hid (fun w => rCompare_any (xs.getD k 0) (xs.getD t 0) w (u64_at HU.out k) (u64_at HU.out t))
        have e0 : fcmpAt xs k t = fcmp (xs.getD k 0).toNat (xs.getD t 0).toNat := rfl
        rw [← e0] at HC
        clear e0
        generalize hW : w.drewN nd = W at *
        have HW := Lib.hid hW
        clear hW
        cases hf : decide (0 < fcmpAt xs k t) with
        | true =>
          have HN : Hid (bestTo xs (k + 1) = k) := Lib.hid (by unfold bestTo; rw [ht, Int.toNat_natCast, if_pos (.inr (of_decide_eq_true hf))])
          rw [ht]
          have d1 : decide ((t : Int) < 0) = false := by simp
          generalize fcmpAt xs k t = q at *
          generalize xs.getD k 0 = x at *
          generalize xs.getD t 0 = y at *
          clear hc hc' ht hneg b0 b1
          go_wp2_with fail
          go_quiet ((go_at_call 13; exact Calls.quiet_of_same (HC.out _)))
          go_wp2_with fail
          go_roundw
          case rel => exact ⟨k + 1, by omega, by go_num, by rw [HN.out], Lib.hid ⟨nd + nq, by rw [← HW.out, World.drewN_drewN]⟩⟩
          case measure => simp [intOf]; omega
        | false =>
          have HN : Hid (bestTo xs (k + 1) = t) := Lib.hid (by
            unfold bestTo
            have hf' := of_decide_eq_false hf
            rw [ht, Int.toNat_natCast, if_neg (fun h => by rcases h with h | h; omega; exact hf' h)])
          rw [ht]
          have d1 : decide ((t : Int) < 0) = false := by simp
          generalize fcmpAt xs k t = q at *
          generalize xs.getD k 0 = x at *
          generalize xs.getD t 0 = y at *
          clear hc hc' ht hneg b0 b1
          go_wp2_with fail
          go_quiet ((go_at_call 13; exact Calls.quiet_of_same (HC.out _)))
          go_wp2_with fail
          go_roundw
          case rel => exact ⟨k + 1, by omega, by go_num, by rw [HN.out], Lib.hid ⟨nd + nq, by rw [← HW.out, World.drewN_drewN]⟩⟩
          case measure => simp [intOf]; omega
    · obtain rfl : k = len := by omega
      have hnl : decide ((k : Int) < k) = false := by simp
      go_wp2_with fail
      go_ret
      exact ⟨rfl, nd, rfl⟩
end Go.Proofs.Ytbihcdjamdkinaa
