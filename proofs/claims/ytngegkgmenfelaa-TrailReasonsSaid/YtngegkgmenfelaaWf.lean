/-
  clause.Right.
-/
import Derived.Test.YtngegkgmenfelaaWe
namespace Go.Proofs.Ytngegkgmenfelaa
open Go.RowKit Go.Lib
attribute [local go_sem ↓] Go.wp_at_zero Go.wp_at_succ

/-- A slice value that reads as these rows. -/
def ReadsL (w : World) (s : Value) (L : List (List Int)) : Prop :=
  ((∃ a c, s = .slice a 0 c) ∧ L = []) ∨ ∃ b off c, ∃ vs : Nat → Value, s = .slice (some ⟨b, off, none⟩) L.length c ∧ b < w.heap.size ∧ ∀ j, j < L.length → w.cell? ⟨b, off + j, none⟩ = some (vs j) ∧ Reads w (vs j) (L.getD j [])
theorem ReadsL.below {w w' : World} {s : Value} {L : List (List Int)} {n : Nat} (h : ReadsL w s L) (hb : Below n w w') (hn : w.heap.size ≤ n) : ReadsL w' s L := by
  rcases h with h | ⟨b, off, c, vs, e, h1, h2⟩
  · exact .inl h
  · exact .inr ⟨b, off, c, vs, e, Nat.lt_of_lt_of_le h1 hb.size, fun j hj => ⟨(hb.cell (p := ⟨b, off + j, none⟩) (by simp; omega)).trans (h2 j hj).1, (h2 j hj).2.below hb hn⟩⟩
theorem ReadsL.form {w : World} {s : Value} {L : List (List Int)} (h : ReadsL w s L) : ∃ a c, s = .slice a L.length c := by
  rcases h with ⟨⟨a, c, rfl⟩, rfl⟩ | ⟨b, off, c, vs, rfl, _⟩
  · exact ⟨a, c, rfl⟩
  · exact ⟨_, _, rfl⟩
theorem Reads.form {w : World} {s : Value} {xs : List Int} (h : Reads w s xs) : ∃ a c, s = .slice a xs.length c := by
  rcases h with ⟨⟨a, c, rfl⟩, rfl⟩ | ⟨b, off, c, rfl, _⟩
  · exact ⟨a, c, rfl⟩
  · exact ⟨_, _, rfl⟩
theorem mem_getD {α : Type} {xs : List α} {d : α} {k : Nat} (h : k < xs.length) : xs.getD k d ∈ xs := by
  rw [List.getD_eq_getElem?_getD, List.getElem?_eq_getElem h]; exact List.getElem_mem _

/-- All are numbers that a machine holds. -/
def In64L (L : List (List Int)) : Prop := ∀ c ∈ L, ∀ x ∈ c, In64 x

theorem index_bad {w : World} {s : Value} {L : List (List Int)} (h : ReadsL w s L) (n p : Nat) (hl : L.length ≤ 1000000) (hx : In64L L) (hn : n ≤ 1000000) (hp : w.cell? ⟨p, 0, none⟩ = some (.int .i64 n)) :
    Calls Try.prog 64 #[s, .func (.func 50) #[] #[.pointer (some ⟨p, 0, none⟩)]] w fun e w' => (∃ r : Int, e = .returned (.int .i64 r) ∧ decide (0 ≤ r) = L.any (badC n)) ∧ w' = w := by
  have H := Lib.hid h
  obtain ⟨a, c, rfl⟩ := h.form
  obtain ⟨q, hq⟩ : ∃ q, L.length = q := ⟨_, rfl⟩
  have HX := Lib.hid hx
  rw [hq] at hl H ⊢
  have HQ := Lib.hid hq
  clear h hx hq
  go_enter Try.func64, Try.ntmps64
  go_wp2_with fail
  go_loop [8] (fun vi => ∃ k : Nat, k ≤ q ∧ vi = .int .i64 k ∧ Hid (∀ j, j < k → badC n (L.getD j []) = false)) (fun vi => q - (intOf vi).toNat)
  case atStart => exact ⟨0, Nat.zero_le _, rfl, Lib.hid (fun j hj => by omega)⟩
  case round =>
    obtain ⟨k, hk, rfl, HK⟩ := hrel
    by_cases hlt : k < q
    · obtain ⟨b, off, c', vs, e, _, hc⟩ := H.out.resolve_left (fun h => by have := HQ.out; rw [h.2] at this; simp at this; omega)
      injection e with e1 n1 n2
      subst e1
      clear n1 n2
      obtain ⟨ck, hr⟩ := hc k (by rw [HQ.out]; exact hlt)
      have HC := Lib.hid (clause_bad hr n p (HX.out _ (mem_getD (by rw [HQ.out]; exact hlt))) hn hp)
      clear hc hr
      generalize vs k = vk at *
      cases ho : badC n (L.getD k []) with
      | false =>
        rw [ho] at HC
        have HO := Lib.hid ho
        clear ho
        go_wp2_with (go_at_call 50; refine HC.out.mono ?_; rintro e w' ⟨rfl, rfl⟩)
        go_round
        case rel => exact ⟨k + 1, by omega, by go_num, Lib.hid (fun j hj => by
          by_cases e : j = k
          · rw [e]; exact HO.out
          · exact HK.out j (by omega))⟩
        case measure => simp [intOf]; omega
      | true =>
        rw [ho] at HC
        have HA : Hid (L.any (badC n) = true) := Lib.hid (List.any_eq_true.2 ⟨L.getD k [], mem_getD (by rw [HQ.out]; exact hlt), ho⟩)
        clear ho
        go_wp2_with (go_at_call 50; refine HC.out.mono ?_; rintro e w' ⟨rfl, rfl⟩)
        go_ret
        exact ⟨⟨k, rfl, by rw [HA.out]; simp⟩, rfl⟩
    · obtain rfl : k = q := by omega
      go_wp2_with fail
      go_ret
      refine ⟨⟨-1, rfl, ?_⟩, rfl⟩
      have : L.any (badC n) = false := List.any_eq_false.2 fun x hx => by
        obtain ⟨j, hj, e⟩ := List.getElem_of_mem hx
        have := HK.out j (by rw [← HQ.out]; exact hj)
        rw [List.getD_eq_getElem?_getD, List.getElem?_eq_getElem hj, Option.getD_some, e] at this
        rw [this]; simp
      rw [this]; rfl

theorem contains_bad {w : World} {s : Value} {L : List (List Int)} (h : ReadsL w s L) (n p : Nat) (hl : L.length ≤ 1000000) (hx : In64L L) (hn : n ≤ 1000000) (hp : w.cell? ⟨p, 0, none⟩ = some (.int .i64 n)) :
    Calls Try.prog 49 #[s, .func (.func 50) #[] #[.pointer (some ⟨p, 0, none⟩)]] w fun e w' => e = .returned (.bool (L.any (badC n))) ∧ w' = w := by
  have HC := Lib.hid (index_bad h n p hl hx hn hp)
  clear h hl hx
  generalize L.any (badC n) = o at *
  go_enter Try.func49, Try.ntmps49
  go_wp2_with (go_at_call 64; refine HC.out.mono ?_; rintro e w' ⟨⟨r, rfl, hr⟩, rfl⟩)
  go_ret
  exact ⟨by first | rfl | simp [hr], rfl⟩

/-- Is a formula right? -/
def rightB (n : Int) (L : List (List Int)) : Bool := decide (0 ≤ n ∧ n ≤ 20000) && decide (L.length ≤ 400000) && !L.any (badC n.toNat)

set_option maxRecDepth 100000 in
theorem Right_any {w : World} {s : Value} {L : List (List Int)} (n : Int) (h : ReadsL w s L) (hx : In64L L) :
    Calls Try.prog 31 #[.int .i64 n, s] w fun e w' => e = .returned (.bool (rightB n L)) ∧ Below w.heap.size w w' := by
  have B0 : Hid (Below w.heap.size w (w.alloc (.cells #[.int .i64 n] 3))) := Lib.hid ((Below.refl _ _).alloc (Nat.le_refl _) _)
  by_cases h1 : n < 0
  · have e0 : rightB n L = false := by unfold rightB; rw [decide_eq_false (by omega)]; rfl
    rw [e0]
    have d1 : decide (n < 0) = true := decide_eq_true h1
    obtain ⟨a, c, rfl⟩ := h.form
    generalize L.length = q at *
    clear h hx e0
    go_enter Try.func31, Try.ntmps31
    go_wp2_with fail
    go_ret
    exact ⟨rfl, B0.out⟩
  · obtain ⟨m, rfl⟩ := Int.eq_ofNat_of_zero_le (show 0 ≤ n by omega)
    clear h1
    by_cases h2 : 20000 < m
    · have e0 : rightB m L = false := by unfold rightB; rw [decide_eq_false (by omega)]; rfl
      rw [e0]
      obtain ⟨a, c, rfl⟩ := h.form
      generalize L.length = q at *
      clear h hx e0
      go_enter Try.func31, Try.ntmps31
      go_wp2_with fail
      go_ret
      exact ⟨rfl, B0.out⟩
    · have h2' : m ≤ 20000 := by omega
      clear h2
      by_cases h3 : 400000 < L.length
      · have e0 : rightB m L = false := by unfold rightB; rw [decide_eq_false (p := L.length ≤ 400000) (by omega)]; simp
        rw [e0]
        obtain ⟨a, c, rfl⟩ := h.form
        generalize L.length = q at *
        clear h hx e0
        go_enter Try.func31, Try.ntmps31
        go_wp2_with fail
        go_ret
        exact ⟨rfl, B0.out⟩
      · have h3' : L.length ≤ 400000 := by omega
        have e0 : rightB m L = !L.any (badC m) := by unfold rightB; rw [decide_eq_true (by omega), decide_eq_true h3', Int.toNat_natCast]; simp
        rw [e0]
        have HC := Lib.hid (contains_bad (h.below B0.out (Nat.le_refl _)) m w.heap.size (by omega) hx (by omega) (cell_of_one (heap_alloc_new _ _)))
        obtain ⟨a, c, rfl⟩ := h.form
        generalize L.length = q at *
        generalize L.any (badC m) = o at *
        clear h hx e0 h3
        go_enter Try.func31, Try.ntmps31
        go_wp2_with (go_at_call 49; refine HC.out.mono ?_; rintro e w' ⟨rfl, rfl⟩)
        go_ret
        exact ⟨rfl, B0.out⟩
end Go.Proofs.Ytngegkgmenfelaa
