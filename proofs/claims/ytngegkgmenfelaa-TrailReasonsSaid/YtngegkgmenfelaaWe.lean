/-
  clause.Right and its closures.
-/
import Derived.Test.YtngegkgmenfelaaWd
import Derived.Deep.LoopGhost
namespace Go.Proofs.Ytngegkgmenfelaa
open Go.RowKit Go.Lib
attribute [local go_sem ↓] Go.wp_at_zero Go.wp_at_succ

/-- The variable of a literal below an end; 0: it has none. -/
def okLit (x : Int) (n : Nat) : Bool := decide (1 ≤ x.natAbs ∧ x.natAbs ≤ n)
def varI (x : Int) (n : Nat) : Int := if okLit x n then (x.natAbs : Nat) else 0

set_option maxRecDepth 100000 in
theorem variable_any (x : Int) (n : Nat) (w : World) (hx : In64 x) (hn : n ≤ 1000000) : Calls Try.prog 53 #[.int .i64 x, .int .i64 n] w fun e w' => e = .returned (.int .i64 (varI x n)) ∧ w' = w := by
  by_cases hmin : x = -9223372036854775808
  · subst hmin
    have e0 : varI (-9223372036854775808) n = 0 := by unfold varI okLit; rw [if_neg]; simp; omega
    rw [e0]
    have w1 : wrap64 9223372036854775808 = -9223372036854775808 := by unfold wrap64; omega
    go_enter Try.func53, Try.ntmps53
    go_wp2_with fail
    go_ret
    exact ⟨rfl, rfl⟩
  · by_cases hneg : x < 0
    · obtain ⟨m, rfl⟩ : ∃ m : Nat, x = -((m : Int) + 1) := ⟨x.natAbs - 1, by omega⟩
      have w3 : wrap64 ((m : Int) + 1) = (m : Int) + 1 := by have := hx.1; unfold wrap64; omega
      by_cases hm : m + 1 ≤ n
      · have e0 : varI (-((m : Int) + 1)) n = (m : Int) + 1 := by unfold varI okLit; rw [if_pos (by simp; omega)]; omega
        rw [e0]
        have d1 : (m : Int) + 1 ≤ (n : Int) := by omega
        clear hx hmin e0
        go_enter Try.func53, Try.ntmps53
        go_wp2_with fail
        go_ret
        exact ⟨rfl, rfl⟩
      · have e0 : varI (-((m : Int) + 1)) n = 0 := by unfold varI okLit; rw [if_neg (by simp; omega)]
        rw [e0]
        have d1 : (n : Int) < (m : Int) + 1 := by omega
        clear hx hmin e0
        go_enter Try.func53, Try.ntmps53
        go_wp2_with fail
        go_ret
        exact ⟨rfl, rfl⟩
    · obtain ⟨m, rfl⟩ := Int.eq_ofNat_of_zero_le (show 0 ≤ x by omega)
      by_cases h0 : m = 0
      · subst h0
        have e0 : varI ((0 : Nat) : Int) n = 0 := by unfold varI okLit; rw [if_neg (by simp)]
        rw [e0]
        clear hx hmin e0
        go_enter Try.func53, Try.ntmps53
        go_wp2_with fail
        go_ret
        exact ⟨rfl, rfl⟩
      · have w3 : wrap64 (m : Int) = (m : Int) := by have := hx.2; unfold wrap64; omega
        have hm1 : 1 ≤ m := by omega
        by_cases hm : m ≤ n
        · have e0 : varI (m : Int) n = (m : Int) := by unfold varI okLit; rw [if_pos (by simp; omega)]; omega
          rw [e0]
          clear hx hmin e0
          go_enter Try.func53, Try.ntmps53
          go_wp2_with fail
          go_ret
          exact ⟨rfl, rfl⟩
        · have e0 : varI (m : Int) n = 0 := by unfold varI okLit; rw [if_neg (by simp; omega)]
          rw [e0]
          have hm2 : n < m := by omega
          clear hx hmin e0 hm
          go_enter Try.func53, Try.ntmps53
          go_wp2_with fail
          go_ret
          exact ⟨rfl, rfl⟩

theorem varI_zero (x : Int) (n : Nat) : (varI x n == 0) = !okLit x n := by
  unfold varI
  cases h : okLit x n with
  | true =>
    have := of_decide_eq_true h
    rw [if_pos rfl]
    simp; omega
  | false => simp

/-- Right's inner closure. -/
theorem lit_no (x : Int) (n p : Nat) (w : World) (hx : In64 x) (hn : n ≤ 1000000) (hp : w.cell? ⟨p, 0, none⟩ = some (.int .i64 n)) :
    Calls Try.prog 52 #[.int .i64 x, .pointer (some ⟨p, 0, none⟩)] w fun e w' => e = .returned (.bool (!okLit x n)) ∧ w' = w := by
  have HC := Lib.hid (variable_any x n w hx hn)
  rw [← varI_zero]
  generalize varI x n = v at *
  go_enter Try.func52, Try.ntmps52
  go_wp2_with (go_at_call 53; refine HC.out.mono ?_; rintro e w' ⟨rfl, rfl⟩)
  go_ret
  exact ⟨rfl, rfl⟩

/-- slices.IndexFunc at that closure. -/
theorem index_lit {w : World} {s : Value} {xs : List Int} (h : Reads w s xs) (n p : Nat) (hl : xs.length ≤ 1000000) (hx : ∀ x ∈ xs, In64 x) (hn : n ≤ 1000000) (hp : w.cell? ⟨p, 0, none⟩ = some (.int .i64 n)) :
    Calls Try.prog 57 #[s, .func (.func 52) #[] #[.pointer (some ⟨p, 0, none⟩)]] w fun e w' => (∃ r : Int, e = .returned (.int .i64 r) ∧ decide (0 ≤ r) = xs.any (fun x => !okLit x n)) ∧ w' = w := by
  have H := Lib.hid h
  obtain ⟨a, c, rfl⟩ : ∃ a c, s = .slice a xs.length c := by
    rcases h with ⟨⟨a, c, rfl⟩, rfl⟩ | ⟨b, off, c, rfl, _⟩
    · exact ⟨a, c, rfl⟩
    · exact ⟨_, _, rfl⟩
  obtain ⟨q, hq⟩ : ∃ q, xs.length = q := ⟨_, rfl⟩
  have HX := Lib.hid hx
  rw [hq] at hl H ⊢
  have HQ := Lib.hid hq
  clear h hx hq
  go_enter Try.func57, Try.ntmps57
  go_wp2_with fail
  go_loop [8] (fun vi => ∃ k : Nat, k ≤ q ∧ vi = .int .i64 k ∧ Hid (∀ j, j < k → okLit (xs.getD j 0) n = true)) (fun vi => q - (intOf vi).toNat)
  case atStart => exact ⟨0, Nat.zero_le _, rfl, Lib.hid (fun j hj => by omega)⟩
  case round =>
    obtain ⟨k, hk, rfl, HK⟩ := hrel
    by_cases hlt : k < q
    · obtain ⟨b, off, c', e, _, hc⟩ := H.out.resolve_left (fun h => by have := HQ.out; rw [h.2] at this; simp at this; omega)
      injection e with e1 n1 n2
      subst e1
      clear n1 n2
      have ck := hc k (by rw [HQ.out]; exact hlt)
      have hxk : In64 (xs.getD k 0) := HX.out _ (by rw [List.getD_eq_getElem?_getD, List.getElem?_eq_getElem (by rw [HQ.out]; exact hlt)]; exact List.getElem_mem _)
      have HC := Lib.hid (lit_no (xs.getD k 0) n p w hxk hn hp)
      clear hc hxk
      cases ho : okLit (xs.getD k 0) n with
      | true =>
        rw [ho] at HC
        have HO := Lib.hid ho
        clear ho
        generalize hz : xs.getD k 0 = z at *
        have HZ := Lib.hid hz
        clear hz
        go_wp2_with (go_at_call 52; refine HC.out.mono ?_; rintro e w' ⟨rfl, rfl⟩)
        go_round
        case rel => exact ⟨k + 1, by omega, by go_num, Lib.hid (fun j hj => by
          by_cases e : j = k
          · rw [e, HZ.out]; exact HO.out
          · exact HK.out j (by omega))⟩
        case measure => simp [intOf]; omega
      | false =>
        rw [ho] at HC
        have HA : Hid (xs.any (fun x => !okLit x n) = true) := Lib.hid (List.any_eq_true.2 ⟨xs.getD k 0, by rw [List.getD_eq_getElem?_getD, List.getElem?_eq_getElem (by rw [HQ.out]; exact hlt)]; exact List.getElem_mem _, by rw [ho]; rfl⟩)
        clear ho
        generalize xs.getD k 0 = z at *
        go_wp2_with (go_at_call 52; refine HC.out.mono ?_; rintro e w' ⟨rfl, rfl⟩)
        go_ret
        exact ⟨⟨k, rfl, by rw [HA.out]; simp⟩, rfl⟩
    · obtain rfl : k = q := by omega
      go_wp2_with fail
      go_ret
      refine ⟨⟨-1, rfl, ?_⟩, rfl⟩
      have : xs.any (fun x => !okLit x n) = false := List.any_eq_false.2 fun x hx => by
        obtain ⟨j, hj, e⟩ := List.getElem_of_mem hx
        have := HK.out j (by rw [← HQ.out]; exact hj)
        rw [List.getD_eq_getElem?_getD, List.getElem?_eq_getElem hj, Option.getD_some, e] at this
        rw [this]; simp
      rw [this]; rfl

theorem contains_lit {w : World} {s : Value} {xs : List Int} (h : Reads w s xs) (n p : Nat) (hl : xs.length ≤ 1000000) (hx : ∀ x ∈ xs, In64 x) (hn : n ≤ 1000000) (hp : w.cell? ⟨p, 0, none⟩ = some (.int .i64 n)) :
    Calls Try.prog 51 #[s, .func (.func 52) #[] #[.pointer (some ⟨p, 0, none⟩)]] w fun e w' => e = .returned (.bool (xs.any (fun x => !okLit x n))) ∧ w' = w := by
  have HC := Lib.hid (index_lit h n p hl hx hn hp)
  clear h hl hx
  generalize xs.any (fun x => !okLit x n) = o at *
  go_enter Try.func51, Try.ntmps51
  go_wp2_with (go_at_call 57; refine HC.out.mono ?_; rintro e w' ⟨⟨r, rfl, hr⟩, rfl⟩)
  go_ret
  exact ⟨by first | rfl | simp [hr], rfl⟩

def badC (n : Nat) (c : List Int) : Bool := decide (20000 < c.length) || c.any (fun x => !okLit x n)

/-- Right's closure. -/
theorem clause_bad {w : World} {s : Value} {xs : List Int} (h : Reads w s xs) (n p : Nat) (hx : ∀ x ∈ xs, In64 x) (hn : n ≤ 1000000) (hp : w.cell? ⟨p, 0, none⟩ = some (.int .i64 n)) :
    Calls Try.prog 50 #[s, .pointer (some ⟨p, 0, none⟩)] w fun e w' => e = .returned (.bool (badC n xs)) ∧ w' = w := by
  have HC : Hid (xs.length ≤ 20000 → Calls Try.prog 51 #[s, .func (.func 52) #[] #[.pointer (some ⟨p, 0, none⟩)]] w fun e w' => e = .returned (.bool (xs.any (fun x => !okLit x n))) ∧ w' = w) := Lib.hid fun hl => contains_lit h n p (by omega) hx hn hp
  obtain ⟨a, c, rfl⟩ : ∃ a c, s = .slice a xs.length c := by
    rcases h with ⟨⟨a, c, rfl⟩, rfl⟩ | ⟨b, off, c, rfl, _⟩
    · exact ⟨a, c, rfl⟩
    · exact ⟨_, _, rfl⟩
  unfold badC
  generalize xs.any (fun x => !okLit x n) = o at *
  generalize xs.length = q at *
  clear h hx
  by_cases hl : 20000 < q
  · rw [show (decide (20000 < q) || o) = true from by simp [hl]]
    go_enter Try.func50, Try.ntmps50
    go_wp2_with fail
    go_ret
    exact ⟨rfl, rfl⟩
  · rw [show (decide (20000 < q) || o) = o from by simp [hl]]
    have hl' : q ≤ 20000 := by omega
    clear hl
    go_enter Try.func50, Try.ntmps50
    go_wp2_with (go_at_call 51; refine (HC.out hl').mono ?_; rintro e w' ⟨rfl, rfl⟩)
    go_ret
    have hz : ¬ (20000 : Int) < q := by omega
    exact ⟨by simp [hz], rfl⟩
end Go.Proofs.Ytngegkgmenfelaa
