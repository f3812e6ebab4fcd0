/-
  slices.SortStableFunc at fewer than 20; Order at fewer than 20.
-/
import Derived.Test.YtbihcdjamdkinaaSb
namespace Go.Proofs.Ytbihcdjamdkinaa
open Go.RowKit Go.Lib
attribute [local go_sem ↓] Go.wp_at_zero Go.wp_at_succ

set_option maxRecDepth 100000 in
set_option maxHeartbeats 1000000 in
theorem stable_small {w0 w : World} {g c n bx : Nat} {a : Option Addr} {len cap : Nat} {xs es : List Int} (h : SAt w0 w g c n bx a len cap xs es) (hn : n < 20) :
    Calls Try.prog 46 #[.slice (some ⟨g, 0, none⟩) n c, .int .i64 n, .func (.func 31) #[] #[.pointer (some ⟨bx, 0, none⟩)]] w fun e w' => e = .returned (.tuple #[]) ∧ SAt w0 w' g c n bx a len cap xs (insOut xs 0 (n - (0 + 1)) (0 + 1) es) := by
  have C := Lib.hid (insertion_any h 0 n (Nat.zero_le _) (Nat.le_refl _) (by omega))
  have d1 : decide ((20 : Int) ≤ n) = false := by simp; omega
  have d2 : decide ((20 : Int) < n) = false := by simp; omega
  clear h
  go_enter Try.func46, Try.ntmps46
  go_wp2_with fail
  refine wp_loop_rounds 1 ?_
  rw [rounds_succ]
  go_wp2_with (go_at_call 52; refine C.out.mono ?_; rintro e w' ⟨rfl, hs⟩; have HS := Lib.hid hs; clear hs)
  refine wp_loop_rounds 1 ?_
  rw [rounds_succ]
  go_wp2_with fail
  go_end0
  exact ⟨rfl, HS.out⟩

theorem sort_small {w0 w : World} {g c n bx : Nat} {a : Option Addr} {len cap : Nat} {xs es : List Int} (h : SAt w0 w g c n bx a len cap xs es) (hn : n < 20) :
    Calls Try.prog 30 #[.slice (some ⟨g, 0, none⟩) n c, .func (.func 31) #[] #[.pointer (some ⟨bx, 0, none⟩)]] w fun e w' => e = .returned (.tuple #[]) ∧ SAt w0 w' g c n bx a len cap xs (insOut xs 0 (n - (0 + 1)) (0 + 1) es) := by
  have C := Lib.hid (stable_small h hn)
  clear h
  go_enter Try.func30, Try.ntmps30
  go_wp2_with (go_at_call 46; refine C.out.mono ?_; rintro e w' ⟨rfl, hs⟩; have HS := Lib.hid hs; clear hs)
  go_end0
  exact ⟨rfl, HS.out⟩

/-! ### of none -/
theorem insertion_nil (w : World) (f : Value) : Calls Try.prog 52 #[.slice none 0 0, .int .i64 0, .int .i64 0, f] w fun e w' => e = .returned (.tuple #[]) ∧ w' = w := by
  go_enter Try.func52, Try.ntmps52
  go_wp2_with fail
  refine wp_loop_rounds 1 ?_
  rw [rounds_succ]
  go_wp2_with fail
  go_end0
  exact ⟨rfl, rfl⟩
theorem stable_nil (w : World) (f : Value) : Calls Try.prog 46 #[.slice none 0 0, .int .i64 0, f] w fun e w' => e = .returned (.tuple #[]) ∧ w' = w := by
  go_enter Try.func46, Try.ntmps46
  go_wp2_with fail
  refine wp_loop_rounds 1 ?_
  rw [rounds_succ]
  go_wp2_with (go_at_call 52; refine (insertion_nil _ _).mono ?_; rintro e w' ⟨rfl, rfl⟩)
  refine wp_loop_rounds 1 ?_
  rw [rounds_succ]
  go_wp2_with fail
  go_end0
  exact ⟨rfl, rfl⟩
theorem sort_nil (w : World) (f : Value) : Calls Try.prog 30 #[.slice none 0 0, f] w fun e w' => e = .returned (.tuple #[]) ∧ w' = w := by
  go_enter Try.func30, Try.ntmps30
  go_wp2_with (go_at_call 46; refine (stable_nil _ _).mono ?_; rintro e w' ⟨rfl, rfl⟩)
  go_end0
  exact ⟨rfl, rfl⟩

/-- 0, 1, .. -/
def upI (k : Nat) : List Int := (List.range k).map Int.ofNat
theorem upI_len (k : Nat) : (upI k).length = k := by simp [upI]
theorem upI_succ (k : Nat) : upI (k + 1) = upI k ++ [(k : Int)] := by simp [upI, List.range_succ]
theorem upI_getD {k j : Nat} (h : j < k) : (upI k).getD j 0 = j := by simp [upI, h]

theorem OwnI.rebase {w : World} {B g n c : Nat} {es : List Int} (h : OwnI w 0 (.slice (some ⟨g, 0, none⟩) n c) es) (hB : B ≤ g) : OwnI w B (.slice (some ⟨g, 0, none⟩) n c) es := by
  obtain ⟨h1, h2⟩ := h
  refine ⟨h1, ?_⟩
  rcases h2 with ⟨h2, _⟩ | ⟨g', cap, cur, hv, _, r⟩
  · cases h2
  · cases hv
    exact .inr ⟨g, c, cur, rfl, hB, r⟩
theorem OwnI.base0 {w : World} {B : Nat} {v : Value} {es : List Int} (h : OwnI w B v es) : OwnI w 0 v es := by
  obtain ⟨h1, h2⟩ := h
  refine ⟨h1, ?_⟩
  rcases h2 with h2 | ⟨g', cap, cur, hv, _, r⟩
  · exact .inl h2
  · exact .inr ⟨g', cap, cur, hv, Nat.zero_le _, r⟩

set_option maxRecDepth 100000 in
set_option maxHeartbeats 2000000 in
/-- Order, whatever the sort is known to do at such a length. -/
theorem Order_of (R : List Int → Prop) (a : Option Addr) (len cap : Nat) (xs : List Int) (w : World) (hl : len ≤ 100000) (hx : IsU w a len xs) (hR0 : len = 0 → R [])
    (hsort : ∀ (w0 w : World) (g c bx : Nat), 0 < len → SAt w0 w g c len bx a len cap xs (upI len) → Calls Try.prog 30 #[.slice (some ⟨g, 0, none⟩) len c, .func (.func 31) #[] #[.pointer (some ⟨bx, 0, none⟩)]] w fun e w' => e = .returned (.tuple #[]) ∧ ∃ es', R es' ∧ SAt w0 w' g c len bx a len cap xs es') :
    Calls Try.prog 10 #[.slice a len cap] w fun e w' => ∃ v es', e = .returned v ∧ R es' ∧ OwnI w' w.heap.size v es' ∧ es'.length = len ∧ Below w.heap.size w w' := by
  have HX := Lib.hid hx
  have HS := Lib.hid hsort
  have HR0 := Lib.hid hR0
  clear hx hsort hR0
  go_enter Try.func10, Try.ntmps10
  go_wp2_with fail
  have bx0 : Hid ((w.alloc (.cells #[.slice a len cap] 23)).heap[w.heap.size]? = some (.cells #[.slice a len cap] 23 (0, 0))) := Lib.hid (heap_alloc_new _ _)
  have B0 : Hid (Below w.heap.size w (w.alloc (.cells #[.slice a len cap] 23))) := Lib.hid ((Below.refl _ _).alloc (Nat.le_refl _) _)
  have Z0 : Hid (w.heap.size + 1 ≤ (w.alloc (.cells #[.slice a len cap] 23)).heap.size) := Lib.hid (by simp)
  have X0 : Hid (IsU (w.alloc (.cells #[.slice a len cap] 23)) a len xs) := Lib.hid (HX.out.below B0.out (Nat.le_refl _))
  have N0 : Hid (∀ g, w.heap.size ≤ g → 0 < len → NotIn a g) := Lib.hid fun g hg h0 b off e => by
    rcases HX.out.2 with h | ⟨b', off', e', hb, _⟩
    · omega
    · rw [e'] at e
      injection e with e
      injection e with e _ _
      omega
  obtain ⟨bx, hbx⟩ : ∃ bx, w.heap.size = bx := ⟨_, rfl⟩
  have HBX := Lib.hid hbx
  rw [hbx] at bx0 B0 Z0 N0 ⊢
  clear hbx
  generalize w.alloc (.cells #[.slice a len cap] 23) = w1 at *
  go_loopw [3, 7] (fun ov vi wr => ∃ k : Nat, k ≤ len ∧ vi = .int .i64 k ∧ Hid (k = 0 → ov = .slice none 0 0) ∧ Hid (OwnI wr (bx + 1) ov (upI k)) ∧ Hid (Below (bx + 1) w1 wr)) (fun _ vi _ => len - (intOf vi).toNat)
  case atStart => exact ⟨0, Nat.zero_le _, rfl, Lib.hid (fun _ => rfl), Lib.hid (OwnI.nil _ _), Below.refl _ _⟩
  case round =>
    obtain ⟨k, hk, rfl, hnil, hO, hB⟩ := hrel
    by_cases hlt : k < len
    · have hs : k ≤ 1000000 := by omega
      have hz : bx + 1 ≤ (wr.alloc (.cells #[.int .i64 k] 3)).heap.size := by have := hB.out.size; have := Z0.out; simp; omega
      have HB' := Lib.hid (hB.out.alloc (by have := hB.out.size; have := Z0.out; omega) (.cells #[.int .i64 (k : Int)] 3))
      have HZ := Lib.hid hz
      clear hz
      obtain ⟨ga, gc, rfl⟩ := hO.out.form
      go_wp2_with (at_builtin; refine wpList_app1 rfl (.tmp 10) (.tmp 12) rfl (bx + 1) _ (upI k) k rfl (hO.out.alloc _) wr.heap.size 1 rfl (heap_alloc_new _ _) (by rw [upI_len]; exact hs) HZ.out ?_; intro v1 w2 O1 G1; have HO1 := Lib.hid O1; have HB2 := Lib.hid (Grew.below HB'.out (hO.out.alloc _) G1 HZ.out); clear O1 G1)
      rw [← upI_succ] at HO1
      go_roundw
      case rel => exact ⟨k + 1, by omega, by go_num, Lib.hid (fun h => by omega), HO1, HB2⟩
      case measure => simp [intOf]; omega
    · obtain rfl : k = len := by omega
      have HB2 := Lib.hid ((B0.out.mono (Nat.le_refl _)).trans (hB.out.mono (Nat.le_succ bx)))
      by_cases h0 : k = 0
      · subst h0
        obtain rfl := hnil.out rfl
        go_wp2_with (go_at_call 30; refine (sort_nil _ _).mono ?_; rintro e w' ⟨rfl, rfl⟩)
        go_ret
        rw [HBX.out]
        exact ⟨_, [], rfl, HR0.out (by simp), OwnI.nil _ _, rfl, HB2.out⟩
      · have hp : 0 < k := by omega
        obtain ⟨g, c, rfl, _, _, hg, hgl, _, _⟩ := hO.out.at (by rw [upI_len]; exact hp)
        have S0 : Hid (SAt wr wr g c k bx a k cap xs (upI k)) := Lib.hid
          { row := by have := hO.out.base0; rw [upI_len] at this; exact this
            hn := upI_len k
            keep := Keep.refl _ _
            hbx := by rw [hB.out.cell (p := ⟨bx, 0, none⟩) (Nat.lt_succ_self bx)]; simp [World.cell?, bx0.out]
            bxl := by have := hB.out.size; have := Z0.out; omega
            ne := by omega
            hxs := HX.out.below HB2.out (by rw [HBX.out]; exact Nat.le_refl _)
            ni := N0.out g (by omega) hp
            inl := fun j hj => by rw [upI_len] at hj; rw [upI_getD hj]; omega }
        rw [upI_len]
        have C := Lib.hid (HS.out wr wr g c bx hp S0.out)
        clear S0
        go_wp2_with (go_at_call 30; refine C.out.mono ?_; rintro e w' ⟨rfl, es', hR, hS⟩; have HR := Lib.hid hR; have HSA := Lib.hid hS; clear hR hS)
        go_ret
        rw [HBX.out]
        refine ⟨_, es', rfl, HR.out, (HSA.out.row.rebase (by omega)), HSA.out.hn, ?_⟩
        exact HB2.out.trans ⟨HSA.out.keep.os, HSA.out.keep.tape, HSA.out.keep.output, HSA.out.keep.size, fun q hq => HSA.out.keep.block q ⟨by omega, by omega⟩⟩
end Go.Proofs.Ytbihcdjamdkinaa
