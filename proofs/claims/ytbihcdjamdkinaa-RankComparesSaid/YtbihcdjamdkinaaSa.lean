/-
  Rows of floats' bits; Best; the closure that Order hands to the sort.
-/
import Derived.Test.YtbihcdjamdkinaaRa
import Derived.Deep.QuietTactic
import Derived.BigQuiet
namespace Go.Proofs.Ytbihcdjamdkinaa
open Go.RowKit Go.Lib
attribute [local go_sem ↓] Go.wp_at_zero Go.wp_at_succ

/-- The numbers that a slice of uint64 holds. -/
def IsU (w : World) (a : Option Addr) (len : Nat) (xs : List Int) : Prop :=
  xs.length = len ∧ (len = 0 ∨ ∃ b off, a = some ⟨b, off, none⟩ ∧ b < w.heap.size ∧ ∀ i, i < len → w.cell? ⟨b, off + i, none⟩ = some (.int .u64 (xs.getD i 0)))

theorem IsU.below {w w' : World} {a : Option Addr} {len : Nat} {xs : List Int} {B : Nat} (h : IsU w a len xs) (hb : Below B w w') (hB : w.heap.size ≤ B) : IsU w' a len xs := by
  refine ⟨h.1, ?_⟩
  rcases h.2 with h | ⟨b, off, e, hl, hc⟩
  · exact .inl h
  · exact .inr ⟨b, off, e, Nat.lt_of_lt_of_le hl hb.size, fun i hi => (hb.cell (p := ⟨b, off + i, none⟩) (Nat.lt_of_lt_of_le hl hB)).trans (hc i hi)⟩
/-- The block of a row is not g. -/
def NotIn (a : Option Addr) (g : Nat) : Prop := ∀ b off, a = some ⟨b, off, none⟩ → b ≠ g
theorem IsU.keep {w w' : World} {a : Option Addr} {len : Nat} {xs : List Int} {g : Nat} (h : IsU w a len xs) (hg : NotIn a g) (hb : Keep (fun k => k < w.heap.size ∧ k ≠ g) w w') : IsU w' a len xs := by
  refine ⟨h.1, ?_⟩
  rcases h.2 with h | ⟨b, off, e, hl, hc⟩
  · exact .inl h
  · exact .inr ⟨b, off, e, Nat.lt_of_lt_of_le hl hb.size, fun i hi => (hb.cell (p := ⟨b, off + i, none⟩) ⟨hl, hg b off e⟩).trans (hc i hi)⟩

/-- How the float at place i stands to that at place k, by those of the list. -/
def fcmpAt (xs : List Int) (i k : Nat) : Int := fcmp (xs.getD i 0).toNat (xs.getD k 0).toNat

/-- The first than which none of the first k is greater. -/
def bestTo (xs : List Int) : Nat → Int
  | 0 => -1
  | k + 1 => if bestTo xs k < 0 ∨ 0 < fcmpAt xs k (bestTo xs k).toNat then k else bestTo xs k
theorem bestTo_bd (xs : List Int) : ∀ k, -1 ≤ bestTo xs k ∧ bestTo xs k < k
  | 0 => by unfold bestTo; omega
  | k + 1 => by
    have := bestTo_bd xs k
    unfold bestTo
    split <;> omega

set_option maxRecDepth 100000 in
set_option maxHeartbeats 1000000 in
theorem Best_any (a : Option Addr) (len cap : Nat) (xs : List Int) (w : World) (hl : len ≤ 1000000) (hi : IsU w a len xs) :
    Calls Try.prog 14 #[.slice a len cap] w fun e w' => e = .returned (.int .i64 (bestTo xs len)) ∧ w' = w := by
  have hd : 0 < len → ∃ b off, a = some ⟨b, off, none⟩ ∧ ∀ i, i < len → w.cell? ⟨b, off + i, none⟩ = some (.int .u64 (xs.getD i 0)) := fun h => by
    rcases hi.2 with h' | ⟨b, off, e, _, hc⟩
    · omega
    · exact ⟨b, off, e, hc⟩
  have HD := Lib.hid hd
  clear hi hd
  go_enter Try.func14, Try.ntmps14
  go_wp2_with fail
  go_loop [3, 8] (fun bv vi => ∃ k : Nat, k ≤ len ∧ vi = .int .i64 k ∧ bv = .int .i64 (bestTo xs k)) (fun _ vi => len - (intOf vi).toNat)
  case atStart => exact ⟨0, Nat.zero_le _, rfl, rfl⟩
  case round =>
    obtain ⟨k, hk, rfl, rfl⟩ := hrel
    by_cases hlt : k < len
    · obtain ⟨b, off, rfl, hc⟩ := HD.out (by omega)
      have ck := hc k hlt
      obtain ⟨b0, b1⟩ := bestTo_bd xs k
      by_cases hneg : bestTo xs k < 0
      · have HN : Hid (bestTo xs (k + 1) = k) := Lib.hid (by unfold bestTo; rw [if_pos (.inl hneg)])
        have d1 : decide (bestTo xs k < 0) = true := decide_eq_true hneg
        generalize bestTo xs k = t at *
        clear hc
        go_wp2_with fail
        go_round
        case rel => exact ⟨k + 1, by omega, by go_num, by rw [HN.out]⟩
        case measure => simp [intOf]; omega
      · obtain ⟨t, ht⟩ := Int.eq_ofNat_of_zero_le (show 0 ≤ bestTo xs k by omega)
        have htk : t < len := by omega
        have ct := hc t htk
        have HC := Lib.hid (fun w => Compare_any (xs.getD k 0) (xs.getD t 0) w)
        have e0 : fcmpAt xs k t = fcmp (xs.getD k 0).toNat (xs.getD t 0).toNat := rfl
        rw [← e0] at HC
        clear e0
        cases hf : decide (0 < fcmpAt xs k t) with
        | true =>
          have HN : Hid (bestTo xs (k + 1) = k) := Lib.hid (by unfold bestTo; rw [ht, Int.toNat_natCast, if_pos (.inr (of_decide_eq_true hf))])
          rw [ht]
          have d1 : decide ((t : Int) < 0) = false := by simp
          generalize fcmpAt xs k t = q at *
          generalize xs.getD k 0 = x at *
          generalize xs.getD t 0 = y at *
          clear hc ht hneg b0 b1
          go_wp2_with (go_at_call 12; refine (HC.out _).mono ?_; rintro e w' ⟨rfl, rfl⟩)
          go_round
          case rel => exact ⟨k + 1, by omega, by go_num, by rw [HN.out]⟩
          case measure => simp [intOf]; omega
        | false =>
          have HN : Hid (bestTo xs (k + 1) = t) := Lib.hid (by
            unfold bestTo
            have hf' := of_decide_eq_false hf
            rw [ht, Int.toNat_natCast, if_neg (fun h => by rcases h with h | h; omega; exact hf' h)])
          rw [ht]
          have d1 : decide ((t : Int) < 0) = false := by simp
          generalize fcmpAt xs k t = q at *
          generalize xs.getD k 0 = x at *
          generalize xs.getD t 0 = y at *
          clear hc ht hneg b0 b1
          go_wp2_with (go_at_call 12; refine (HC.out _).mono ?_; rintro e w' ⟨rfl, rfl⟩)
          go_round
          case rel => exact ⟨k + 1, by omega, by go_num, by rw [HN.out]⟩
          case measure => simp [intOf]; omega
    · obtain rfl : k = len := by omega
      go_wp2_with fail
      go_ret
      exact ⟨rfl, rfl⟩

set_option maxRecDepth 100000 in
set_option maxHeartbeats 1000000 in
/-- The closure: the float at k held against that at i. -/
theorem cl_any (w : World) (bx : Nat) (a : Option Addr) (len cap : Nat) (xs : List Int) (hb : w.cell? ⟨bx, 0, none⟩ = some (.slice a len cap)) (hx : IsU w a len xs) (i k : Nat) (hi : i < len) (hk : k < len) :
    Calls Try.prog 31 #[.int .i64 i, .int .i64 k, .pointer (some ⟨bx, 0, none⟩)] w fun e w' => e = .returned (.int .i64 (fcmpAt xs k i)) ∧ ∃ n, w' = w.drewN n := by
  rcases hx.2 with h | ⟨b, off, rfl, _, hc⟩
  · omega
  have ci := hc i hi
  have ck := hc k hk
  have HC := Lib.hid (fun w => Compare_any (xs.getD k 0) (xs.getD i 0) w)
  have e0 : fcmpAt xs k i = fcmp (xs.getD k 0).toNat (xs.getD i 0).toNat := rfl
  rw [← e0] at HC
  clear e0 hx hc
  generalize fcmpAt xs k i = q at *
  generalize xs.getD k 0 = x at *
  generalize xs.getD i 0 = y at *
  go_enter Try.func31, Try.ntmps31
  go_wp2_with fail
  go_quiet ((go_at_call 12; exact Calls.quiet_of_same (HC.out _)))
  go_wp2_with fail
  go_ret
  exact ⟨rfl, _, rfl⟩
end Go.Proofs.Ytbihcdjamdkinaa
