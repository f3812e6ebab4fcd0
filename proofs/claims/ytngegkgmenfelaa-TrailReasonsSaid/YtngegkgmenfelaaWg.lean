/-
  put: what it lays, its closure.
-/
import Derived.Test.YtngegkgmenfelaaWf
namespace Go.Proofs.Ytngegkgmenfelaa
open Go.RowKit Go.Lib
attribute [local go_sem ↓] Go.wp_at_zero Go.wp_at_succ

variable {w : World} {B : Nat → Prop} {b : Nat} {bx : Array Value} {val : Sl → Value} {ct : Sl → List Value}

/-- A new block is kept, too. -/
theorem Mem.guard (h : Mem w B b bx val ct) (o : Obj) : Mem (w.alloc o) (fun k => B k ∨ k = w.heap.size) b bx val ct :=
  { h.alloc o with
    base := fun hB => by
      rcases hB with hB | hB
      · exact h.base hB
      · have := lt_of_block h.box; omega
    nB := fun s k hk hB => by
      rcases hB with hB | hB
      · exact h.nB s k hk hB
      · have := (h.row s).lt k hk; omega
    lt := fun k hB => by
      rcases hB with hB | hB
      · have := h.lt k hB; simp; omega
      · simp; omega }
theorem Mem.less {B' : Nat → Prop} (h : Mem w B b bx val ct) (hB : ∀ k, B' k → B k) : Mem w B' b bx val ct :=
  { h with
    base := fun k => h.base (hB _ k)
    nB := fun s k hk hb => h.nB s k hk (hB _ hb)
    lt := fun k hb => h.lt k (hB _ hb) }

/-- A fresh row takes a slot. -/
theorem Mem.fresh {w' : World} {v : Value} {xs : List Value} (h : Mem w B b bx val ct) (s : Sl) (hb : Below w.heap.size w w') (hr : Row w' s.e s.z v xs) (hf : Fresh w v) : Mem w' B b bx (upS val s v) (upS ct s xs) := by
  have h' := h.below hb (Nat.le_refl _)
  have key : ∀ t, ApartV v (val t) := fun t => by
    cases hk : v.ownBlock with
    | none => exact .inl hk
    | some k =>
      refine .inr fun e => ?_
      have h1 := hf k hk
      have h2 := (h.row t).lt k (by rw [← e, hk])
      omega
  refine ⟨h'.box, fun t => ?_, fun t u htu => ?_, fun t => ?_, h.base, fun t k hk => ?_, h'.lt⟩
  · by_cases e : t = s
    · subst e; rw [upS_same, upS_same]; exact hr
    · rw [upS_other _ _ e, upS_other _ _ e]; exact h'.row t
  · by_cases e1 : t = s
    · subst e1
      rw [upS_same, upS_other _ _ (fun e => htu e.symm)]
      exact key u
    · rw [upS_other _ _ e1]
      by_cases e2 : u = s
      · subst e2
        rw [upS_same]
        rcases key t with k | k
        · by_cases e : (val t).ownBlock = none
          · exact .inl e
          · exact .inr (fun e' => e (e'.trans k))
        · exact .inr (fun e' => k e'.symm)
      · rw [upS_other _ _ e2]; exact h.apart t u htu
  · by_cases e : t = s
    · subst e
      rw [upS_same]
      intro hk
      have h1 := hf b hk
      have := lt_of_block h.box; omega
    · rw [upS_other _ _ e]; exact h.nb t
  · by_cases e : t = s
    · subst e
      rw [upS_same] at hk
      intro hB
      have h1 := hf k hk
      have := h.lt k hB; omega
    · rw [upS_other _ _ e] at hk; exact h.nB t k hk

/-- The place of the first literal that is another one than the first. -/
def unlike (c : List Int) : Option Nat := c.findIdx? (fun x => x != c.getD 0 0)

/-- put's closure. -/
theorem put1_any {w : World} {c : List Int} {g : Nat} {p n cp : Nat} (x : Int) (h0 : 0 < n) (hp : w.cell? ⟨p, 0, none⟩ = some (.slice (some ⟨g, 0, none⟩) n cp)) (hc : w.cell? ⟨g, 0, none⟩ = some (.int .i64 (c.getD 0 0))) :
    Calls Try.prog 58 #[.int .i64 x, .pointer (some ⟨p, 0, none⟩)] w fun e w' => e = .returned (.bool (x != c.getD 0 0)) ∧ w' = w := by
  generalize c.getD 0 0 = z at *
  go_enter Try.func58, Try.ntmps58
  go_wp2_with fail
  go_ret
  exact ⟨rfl, rfl⟩

theorem index_unlike {w : World} {c : List Int} {v : Value} {p : Nat} (hr : Row w 3 1 v (ints c)) (hl : c.length ≤ 1000000) (hp : w.cell? ⟨p, 0, none⟩ = some v) :
    Calls Try.prog 57 #[v, .func (.func 58) #[] #[.pointer (some ⟨p, 0, none⟩)]] w fun e w' => (∃ r : Int, e = .returned (.int .i64 r) ∧ ((unlike c = none ∧ r = -1) ∨ ∃ i, unlike c = some i ∧ r = (i : Nat))) ∧ w' = w := by
  obtain ⟨a, cp, rfl, _, _⟩ := hr.form
  have HR := Lib.hid hr
  rw [ints_len] at hp HR ⊢
  obtain ⟨q, hq⟩ : ∃ q, c.length = q := ⟨_, rfl⟩
  rw [hq] at hl hp HR ⊢
  have HQ := Lib.hid hq
  clear hr hq
  go_enter Try.func57, Try.ntmps57
  go_wp2_with fail
  go_loop [8] (fun vi => ∃ k : Nat, k ≤ q ∧ vi = .int .i64 k ∧ Hid (∀ j, j < k → (c.getD j 0 != c.getD 0 0) = false)) (fun vi => q - (intOf vi).toNat)
  case atStart => exact ⟨0, Nat.zero_le _, rfl, Lib.hid (fun j hj => by omega)⟩
  case round =>
    obtain ⟨k, hk, rfl, HK⟩ := hrel
    by_cases hlt : k < q
    · obtain ⟨g, c', e, _, _, _, hc, _⟩ := HR.out.at (by rw [ints_len, HQ.out]; omega)
      injection e with e1 n1 n2
      subst e1
      clear n1 n2
      have ck := hc k _ (ints_at (by rw [HQ.out]; exact hlt))
      have c0 := hc 0 _ (ints_at (by rw [HQ.out]; omega))
      have HC := Lib.hid (put1_any (w := w) (c := c) (c.getD k 0) (by omega) hp c0)
      clear hc c0
      cases ho : (c.getD k 0 != c.getD 0 0) with
      | false =>
        rw [ho] at HC
        have HO := Lib.hid ho
        clear ho
        generalize hz : c.getD k 0 = z at *
        have HZ := Lib.hid hz
        clear hz
        go_wp2_with (go_at_call 58; refine HC.out.mono ?_; rintro e w' ⟨rfl, rfl⟩)
        go_round
        case rel => exact ⟨k + 1, by omega, by go_num, Lib.hid (fun j hj => by
          by_cases e : j = k
          · rw [e, HZ.out]; exact HO.out
          · exact HK.out j (by omega))⟩
        case measure => simp [intOf]; omega
      | true =>
        rw [ho] at HC
        have HA : Hid (unlike c = some k) := Lib.hid (by
          unfold unlike
          rw [List.findIdx?_eq_some_iff_getElem]
          have hkl : k < c.length := by rw [HQ.out]; exact hlt
          refine ⟨hkl, by rw [List.getD_eq_getElem?_getD, List.getElem?_eq_getElem hkl, Option.getD_some] at ho; exact ho, fun j hj => ?_⟩
          have := HK.out j hj
          rw [List.getD_eq_getElem?_getD, List.getElem?_eq_getElem (show j < c.length by omega), Option.getD_some] at this
          rw [this]; simp)
        clear ho
        generalize c.getD k 0 = z at *
        go_wp2_with (go_at_call 58; refine HC.out.mono ?_; rintro e w' ⟨rfl, rfl⟩)
        go_ret
        exact ⟨⟨k, rfl, .inr ⟨k, HA.out, rfl⟩⟩, rfl⟩
    · obtain rfl : k = q := by omega
      go_wp2_with fail
      go_ret
      refine ⟨⟨-1, rfl, .inl ⟨?_, rfl⟩⟩, rfl⟩
      unfold unlike
      rw [List.findIdx?_eq_none_iff]
      intro x hx
      obtain ⟨j, hj, e⟩ := List.getElem_of_mem hx
      have := HK.out j (by rw [← HQ.out]; exact hj)
      rw [List.getD_eq_getElem?_getD, List.getElem?_eq_getElem hj, Option.getD_some, e] at this
      exact this
end Go.Proofs.Ytngegkgmenfelaa
