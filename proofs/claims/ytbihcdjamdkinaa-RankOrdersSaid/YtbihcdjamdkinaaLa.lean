/-
  RankOrders: the walk.
-/
import Derived.Test.YtbihcdjamdkinaaIn
namespace Go.Proofs.Ytbihcdjamdkinaa
open Go.RowKit Go.Lib
attribute [local go_sem ↓] Go.wp_at_zero Go.wp_at_succ

/-- The sign turned. -/
def turn (a : Int) : Int := bits .xor .u64 a 9223372036854775808
theorem turn_nat {a : Int} (ha : U64 a) : (turn a).toNat = a.toNat ^^^ 2 ^ 63 := by
  obtain ⟨x, rfl⟩ := Int.eq_ofNat_of_zero_le ha.1
  have hx : x < 18446744073709551616 := by have := ha.2; omega
  have e : (BitVec.ofInt 64 (x : Int) ^^^ BitVec.ofInt 64 9223372036854775808).toNat = x ^^^ 2 ^ 63 := by
    rw [BitVec.toNat_xor, BitVec.toNat_ofInt, BitVec.toNat_ofInt]
    congr 1
    omega
  have hlt : x ^^^ 2 ^ 63 < 18446744073709551616 := by rw [← e]; exact BitVec.isLt _
  show (IntKind.u64.wrap ((BitVec.ofInt 64 (x : Int) ^^^ BitVec.ofInt 64 9223372036854775808).toNat : Int)).toNat = _
  rw [e, Int.toNat_natCast]
  obtain ⟨y, hy⟩ : ∃ y, x ^^^ 2 ^ 63 = y := ⟨_, rfl⟩
  rw [hy] at hlt ⊢
  simp [IntKind.wrap, IntKind.signed, IntKind.bits]
  omega
theorem turn_rung {a : Int} (ha : U64 a) : frung (turn a).toNat = frung a.toNat := by
  unfold frung
  rw [turn_nat ha, show (9223372036854775808 : Nat) = 2 ^ 63 from by decide, Nat.xor_mod_two_pow]
  simp
theorem turn_neg {a : Int} (ha : U64 a) : fneg (turn a).toNat = !fneg a.toNat := by
  unfold fneg
  have h := Nat.xor_div_two_pow (a := a.toNat) (b := 2 ^ 63) (n := 63)
  rw [turn_nat ha, show (9223372036854775808 : Nat) = 2 ^ 63 from by decide, h, Nat.div_self (by decide)]
  have hq : a.toNat / 2 ^ 63 = 0 ∨ a.toNat / 2 ^ 63 = 1 := by have := ha.2; omega
  rcases hq with hq | hq <;> rw [hq] <;> decide
theorem turn_nan {a : Int} (ha : U64 a) : fnan (turn a).toNat = fnan a.toNat := by unfold fnan; rw [turn_rung ha]
theorem turn_key {a : Int} (ha : U64 a) : fkey (turn a).toNat = -fkey a.toNat := by
  unfold fkey
  rw [turn_rung ha, turn_neg ha]
  cases fneg a.toNat <;> simp
theorem turn_cmp {a b : Int} (ha : U64 a) (hb : U64 b) : fcmp (turn a).toNat (turn b).toNat = if fnan a.toNat = true ∨ fnan b.toNat = true then fcmp a.toNat b.toNat else -fcmp a.toNat b.toNat := by
  unfold fcmp
  rw [turn_nan ha, turn_nan hb, turn_key ha, turn_key hb]
  cases fnan a.toNat <;> cases fnan b.toNat <;> simp
  generalize fkey a.toNat = x
  generalize fkey b.toNat = y
  by_cases h1 : x < y
  · have : ¬ y < x := by omega
    simp [h1, this]
  · by_cases h2 : y < x
    · simp [h1, h2]
    · simp [h1, h2]
theorem none_nan : fnan 9221120237041090560 = true := by decide +kernel
theorem cmp_none (x : Nat) : (fcmp x 9221120237041090560 == 0) = fnan x := by
  unfold fcmp; rw [none_nan]; cases fnan x <;> simp
theorem none_cmp (x : Nat) : decide (0 < fcmp 9221120237041090560 x) = false := by
  unfold fcmp; rw [none_nan]; cases fnan x <;> simp

theorem bestTo_best (xs : List Int) : ∀ n, 0 < n → ∃ k : Nat, bestTo xs n = k ∧ k < n ∧ (∀ i, i < n → kAt xs i ≤ kAt xs k) ∧ ∀ i, i < k → kAt xs i < kAt xs k
  | 0, h => absurd h (Nat.lt_irrefl _)
  | n + 1, _ => by
    by_cases h0 : n = 0
    · subst h0
      exact ⟨0, rfl, by omega, fun i hi => by obtain rfl : i = 0 := by omega
                                              exact Int.le_refl _, fun i hi => by omega⟩
    · obtain ⟨k, e, hk, h1, h2⟩ := bestTo_best xs n (by omega)
      unfold bestTo
      rw [e]
      have hp := fcmpAt_pos (xs := xs) (i := n) (k := k)
      by_cases hc : (k : Int) < 0 ∨ 0 < fcmpAt xs n (k : Int).toNat
      · rw [if_pos hc]
        have hlt : kAt xs k < kAt xs n := by
          rcases hc with h | h
          · omega
          · rw [Int.toNat_natCast] at h; exact hp.1 h
        refine ⟨n, rfl, by omega, fun i hi => ?_, fun i hi => ?_⟩
        · by_cases ei : i = n
          · subst ei; exact Int.le_refl _
          · have := h1 i (by omega); omega
        · have := h1 i hi; omega
      · rw [if_neg hc]
        have hge : kAt xs n ≤ kAt xs k := by
          have : ¬ kAt xs k < kAt xs n := fun h => hc (.inr (by rw [Int.toNat_natCast]; exact hp.2 h))
          omega
        refine ⟨k, rfl, by omega, fun i hi => ?_, h2⟩
        by_cases ei : i = n
        · subst ei; exact hge
        · exact h1 i (by omega)
theorem ordered_best {xs es : List Int} {n : Nat} (h : Ordered xs n es) (h0 : 0 < n) : es.getD 0 0 = bestTo xs n := by
  obtain ⟨k, e, hk, h1, h2⟩ := bestTo_best xs n h0
  rw [e]
  have hl : es.length = n := by rw [h.1.length_eq, upI_len]
  have hm : (k : Int) ∈ es := h.1.mem_iff.2 (by unfold upI; simp only [List.mem_map, List.mem_range]; exact ⟨k, hk, rfl⟩)
  have hh : es.getD 0 0 ∈ upI n := h.1.mem_iff.1 (by rw [List.getD_eq_getElem?_getD, List.getElem?_eq_getElem (by omega)]; simp)
  unfold upI at hh
  simp only [List.mem_map, List.mem_range] at hh
  obtain ⟨m, hmn, hm'⟩ := hh
  obtain ⟨j, hj, ej⟩ := List.getElem_of_mem hm
  by_cases j0 : j = 0
  · subst j0
    rw [List.getD_eq_getElem?_getD, List.getElem?_eq_getElem hj]; exact ej
  · have ht := h.2 0 j (Nat.zero_le _) (by omega) (by omega)
    rw [List.getD_eq_getElem?_getD (i := j), List.getElem?_eq_getElem hj, Option.getD_some, ej, ← hm'] at ht
    unfold TX at ht
    have e1 : (Int.ofNat m).toNat = m := rfl
    rw [e1, Int.toNat_natCast] at ht
    have a := h1 m hmn
    rcases ht with ht | ⟨ht, hlt⟩
    · omega
    · have hmk : m < k := by
        have : ((m : Nat) : Int) < k := hlt
        omega
      have := h2 m hmk
      omega

set_option maxRecDepth 100000 in
set_option maxHeartbeats 4000000 in
theorem orders_walk (a b c : Int) (w : World) (ha : U64 a) (hb : U64 b) (_ : U64 c) :
    Calls Try.prog 4 #[.int .u64 a, .int .u64 b, .int .u64 c] w fun e w' => e = .returned (.bool true) ∧ Below w.heap.size w w' := by
  obtain ⟨m, hm⟩ : ∃ m, fcmp a.toNat b.toNat = m := ⟨_, rfl⟩
  obtain ⟨n, hn⟩ : ∃ n, fcmp b.toNat c.toNat = n := ⟨_, rfl⟩
  obtain ⟨o, ho⟩ : ∃ o, fcmp a.toNat c.toNat = o := ⟨_, rfl⟩
  have C1 := Lib.hid (Compare_any a b)
  have C2 := Lib.hid (Compare_any b c)
  have C3 := Lib.hid (Compare_any a c)
  have C4 := Lib.hid (Compare_any b a)
  have C5 := Lib.hid (Compare_any a a)
  rw [hm] at C1
  rw [hn] at C2
  rw [ho] at C3
  rw [show fcmp b.toNat a.toNat = -m from by rw [← hm, fcmp_eq, fcmp_eq]; split <;> split <;> (try split) <;> omega] at C4
  rw [show fcmp a.toNat a.toNat = 0 from fcmp_zero.2 rfl] at C5
  have mb : m = -1 ∨ m = 0 ∨ m = 1 := by rw [← hm, fcmp_eq]; split <;> (try split) <;> omega
  have hwm : IntKind.i64.wrap m = m := by simp [IntKind.wrap, IntKind.signed, IntKind.bits]; omega
  have hcase : (decide (m ≤ 0) = false ∧ (m == 0) = false) ∨ ((m == 0) = false ∧ decide (m ≤ 0) = true ∧ decide (n ≤ 0) = false) ∨ ((m == 0) = false ∧ decide (m ≤ 0) = true ∧ decide (n ≤ 0) = true ∧ decide (0 < o) = false) ∨ (m = 0 ∧ o = n ∧ decide (n ≤ 0) = false) ∨ (m = 0 ∧ o = n ∧ decide (n ≤ 0) = true ∧ decide (0 < n) = false) := by
    have a1 := fcmp_neg (x := a.toNat) (y := b.toNat)
    have a2 := fcmp_zero (x := a.toNat) (y := b.toNat)
    have b1 := fcmp_neg (x := b.toNat) (y := c.toNat)
    have b2 := fcmp_zero (x := b.toNat) (y := c.toNat)
    have c1 := fcmp_pos (x := a.toNat) (y := c.toNat)
    have e : fk a.toNat = fk b.toNat → fcmp a.toNat c.toNat = fcmp b.toNat c.toNat := fun h => by rw [fcmp_eq, fcmp_eq, h]
    rw [hm] at a1 a2
    rw [hn] at b1 b2 e
    rw [ho] at c1 e
    by_cases m1 : m ≤ 0
    · by_cases m2 : m = 0
      · have := e (a2.1 m2)
        by_cases n1 : n ≤ 0
        · refine .inr (.inr (.inr (.inr ⟨m2, this, by simpa using n1, by simpa using n1⟩)))
        · refine .inr (.inr (.inr (.inl ⟨m2, this, by simpa using n1⟩)))
      · have q : (m == 0) = false := by simpa using m2
        by_cases n1 : n ≤ 0
        · refine .inr (.inr (.inl ⟨q, by simpa using m1, by simpa using n1, ?_⟩))
          have : ¬ 0 < o := by omega
          simpa using this
        · exact .inr (.inl ⟨q, by simpa using m1, by simpa using n1⟩)
    · exact .inl ⟨by simpa using m1, by simp; omega⟩
  have tb : (fnan a.toNat = true ∨ fnan b.toNat = true → fcmp (turn a).toNat (turn b).toNat = m) ∧ (¬ (fnan a.toNat = true ∨ fnan b.toNat = true) → fcmp (turn a).toNat (turn b).toNat = -m) := by
    rw [turn_cmp ha hb, hm]
    exact ⟨fun h => if_pos h, fun h => if_neg h⟩
  have C6 := Lib.hid (Compare_any (turn a) (turn b))
  have C7 := Lib.hid (Compare_any a 9221120237041090560)
  have C8 := Lib.hid (Compare_any b 9221120237041090560)
  have C9 := Lib.hid (Compare_any 9221120237041090560 a)
  have d7 : (fcmp a.toNat (9221120237041090560 : Int).toNat == 0) = fnan a.toNat := cmp_none _
  have d8 : (fcmp b.toNat (9221120237041090560 : Int).toNat == 0) = fnan b.toNat := cmp_none _
  have d9 : decide (0 < fcmp (9221120237041090560 : Int).toNat a.toNat) = false := none_cmp _
  unfold turn at C6 tb
  have TB : Hid ((fnan a.toNat = true ∧ fcmp (bits .xor .u64 a 9223372036854775808).toNat (bits .xor .u64 b 9223372036854775808).toNat = m) ∨ (fnan a.toNat = false ∧ fnan b.toNat = true ∧ fcmp (bits .xor .u64 a 9223372036854775808).toNat (bits .xor .u64 b 9223372036854775808).toNat = m) ∨
    (fnan a.toNat = false ∧ fnan b.toNat = false ∧ fcmp (bits .xor .u64 a 9223372036854775808).toNat (bits .xor .u64 b 9223372036854775808).toNat = -m)) := Lib.hid (by
      cases h1 : fnan a.toNat with
      | true => exact .inl ⟨rfl, tb.1 (.inl h1)⟩
      | false =>
        cases h2 : fnan b.toNat with
        | true => exact .inr (.inl ⟨rfl, rfl, tb.1 (.inr h2)⟩)
        | false => exact .inr (.inr ⟨rfl, rfl, tb.2 (by rw [h1, h2]; simp)⟩))
  generalize fcmp (bits .xor .u64 a 9223372036854775808).toNat (bits .xor .u64 b 9223372036854775808).toNat = t at *
  generalize fcmp a.toNat (9221120237041090560 : Int).toNat = p7 at *
  generalize fcmp b.toNat (9221120237041090560 : Int).toNat = p8 at *
  generalize fcmp (9221120237041090560 : Int).toNat a.toNat = p9 at *
  generalize fnan a.toNat = na at *
  generalize fnan b.toNat = nb at *
  have hwm2 : IntKind.i64.wrap (-m) = -m := by simp [IntKind.wrap, IntKind.signed, IntKind.bits]; omega
  clear tb
  have HC := Lib.hid hcase
  have MB := Lib.hid mb
  clear hcase mb hm hn ho
  go_enter Try.func4, Try.ntmps4
  go_wp2_with (go_at_call 9; refine (shown_any _).mono ?_; rintro e w1 ⟨rfl, hb⟩; have B1 := Lib.hid hb; clear hb)
  rcases HC.out with ⟨g1, g2⟩ | ⟨g1, g2, g3⟩ | ⟨g1, g2, g3, g4⟩ | ⟨rfl, rfl, g3⟩ | ⟨rfl, rfl, g3, g4⟩
  all_goals
    clear HC
    go_wp2_with (first
      | (go_at_call 12; with_reducible refine Calls.mono (C1.out _) ?_; rintro e w2 ⟨rfl, rfl⟩)
      | (go_at_call 12; with_reducible refine Calls.mono (C2.out _) ?_; rintro e w2 ⟨rfl, rfl⟩)
      | (go_at_call 12; with_reducible refine Calls.mono (C3.out _) ?_; rintro e w2 ⟨rfl, rfl⟩)
      | (go_at_call 12; with_reducible refine Calls.mono (C4.out _) ?_; rintro e w2 ⟨rfl, rfl⟩)
      | (go_at_call 12; with_reducible refine Calls.mono (C5.out _) ?_; rintro e w2 ⟨rfl, rfl⟩))
    rcases TB.out with ⟨rfl, rfl⟩ | ⟨rfl, rfl, rfl⟩ | ⟨rfl, rfl, rfl⟩
    all_goals
      clear TB
      go_wp2_with (first
        | (go_at_call 12; with_reducible refine Calls.mono (C6.out _) ?_; rintro e w2 ⟨rfl, rfl⟩)
        | (go_at_call 12; with_reducible refine Calls.mono (C7.out _) ?_; rintro e w2 ⟨rfl, rfl⟩)
        | (go_at_call 12; with_reducible refine Calls.mono (C8.out _) ?_; rintro e w2 ⟨rfl, rfl⟩)
        | (go_at_call 12; with_reducible refine Calls.mono (C9.out _) ?_; rintro e w2 ⟨rfl, rfl⟩))
      have B2 := Lib.hid (B1.out.alloc B1.out.size (.cells #[.int .u64 a, .int .u64 b, .int .u64 c] 22))
      refine (Order_small (some ⟨w2.heap.size, 0, none⟩) 3 3 [a, b, c] _ (by decide) (isU_made w2 _ [a, b, c] rfl)).mono ?_
      rintro e w3 ⟨v, es, rfl, hO, hv, hel, hb3⟩
      obtain ⟨g, cp, rfl, _, _, _, hg, hcl, _⟩ := hv.at (by omega)
      have c0 := hcl 0 (by omega)
      rw [ordered_best hO (by decide)] at c0
      have B3 := Lib.hid (B2.out.trans (hb3.mono B2.out.size))
      have HG := Lib.hid hg
      have BST : Hid (∀ W : World, Calls Try.prog 14 #[.slice (some ⟨W.heap.size, 0, none⟩) 3 3] (W.alloc (.cells #[.int .u64 a, .int .u64 b, .int .u64 c] 22)).drew fun e w' => e = .returned (.int .i64 (bestTo [a, b, c] 3)) ∧ w' = (W.alloc (.cells #[.int .u64 a, .int .u64 b, .int .u64 c] 22)).drew) := Lib.hid fun W =>
        Best_any (some ⟨W.heap.size, 0, none⟩) 3 3 [a, b, c] _ (by decide) (show IsU (W.alloc (.cells #[.int .u64 a, .int .u64 b, .int .u64 c] 22)) _ _ _ from isU_made W _ [a, b, c] rfl)
      rw [hel]
      generalize bestTo [a, b, c] 3 = bt at *
      clear hO hv hb3 hcl hg B1 B2 hel
      go_wp2_with (go_at_call 12; with_reducible refine Calls.mono (C9.out _) ?_; rintro e w2 ⟨rfl, rfl⟩)
      have hbt : (bt == bt) = true := by simp
      have key : ∀ w', Below w2.heap.size w2 w' → (Hid (Below w2.heap.size w2 w') ∧ w'.cell? ⟨g, 0, none⟩ = some (.int .i64 bt)) := fun w' h => ⟨Lib.hid h, (h.cell (p := ⟨g, 0, none⟩) HG.out).trans c0⟩
      have start := key w2.drew (Below.refl _ _).drew
      have KA : Hid (∀ w' o, (Hid (Below w2.heap.size w2 w') ∧ w'.cell? ⟨g, 0, none⟩ = some (.int .i64 bt)) → (Hid (Below w2.heap.size w2 (w'.alloc o)) ∧ (w'.alloc o).cell? ⟨g, 0, none⟩ = some (.int .i64 bt))) := Lib.hid fun w' o h => key _ (h.1.out.alloc h.1.out.size o)
      clear key c0
      go_region_held3 (fun w' => Hid (Below w2.heap.size w2 w') ∧ w'.cell? ⟨g, 0, none⟩ = some (.int .i64 bt))
        (first | assumption | exact KA.out _ _ (by assumption)) ((go_at_call 14; refine (BST.out _).mono ?_; rintro e w' ⟨rfl, rfl⟩))
      rename_i hfin
      have HF := Lib.hid (B3.out.trans (hfin.1.out.mono B3.out.size))
      clear hfin start
      go_wp2_with fail
      go_ret
      exact ⟨rfl, HF.out⟩
end Go.Proofs.Ytbihcdjamdkinaa
