/-
  The statements' helpers: pick, few.
-/
import Derived.Test.YtngegkgmenfelaaGm
namespace Go.Proofs.Ytngegkgmenfelaa
open Go.RowKit Go.Lib
attribute [local go_sem ↓] Go.wp_at_zero Go.wp_at_succ

def posI (c : Int) : Int := if c < 0 then -(c + 1) else c
theorem posI_nonneg (c : Int) : 0 ≤ posI c := by unfold posI; split <;> omega
def pickI (c : Int) (n : Nat) : Nat := (posI c % (n : Int)).toNat
theorem pickI_lt {c : Int} {n : Nat} (hn : 0 < n) : pickI c n < n := by
  unfold pickI
  have h1 := Int.emod_lt_of_pos (posI c) (show (0 : Int) < n by omega)
  have h2 := Int.emod_nonneg (posI c) (show (n : Int) ≠ 0 by omega)
  omega

set_option maxRecDepth 1000000 in
theorem pick_any (c : Int) (n : Nat) (w : World) (hc : In64 c) (hn : 0 < n) (hn2 : n ≤ 1000000) : Calls Try.prog 38 #[.int .i64 c, .int .i64 n] w fun e w' => e = .returned (.int .i64 (pickI c n : Nat)) ∧ w' = w := by
  have h1 := pickI_lt (c := c) hn
  have h0 := posI_nonneg c
  have h2 := Int.emod_nonneg (posI c) (show (n : Int) ≠ 0 by omega)
  have e0 : ((pickI c n : Nat) : Int) = posI c % (n : Int) := by unfold pickI; omega
  have e1 : (posI c).tmod (n : Int) = ((pickI c n : Nat) : Int) := by
    rw [e0, Int.tmod_eq_emod_of_nonneg h0]
  have hz : ((n : Int) == 0) = false := by simp; omega
  by_cases hneg : c < 0
  · have hd : decide (c < 0) = true := decide_eq_true hneg
    have ep : posI c = -(c + 1) := if_pos hneg
    rw [ep, Int.neg_tmod] at e1
    have E1 := Lib.hid e1
    have w1 : IntKind.i64.wrap (c + 1) = c + 1 := wrap_i64 (by have := hc.1; omega)
    have w2 : IntKind.i64.wrap (-(c + 1)) = -(c + 1) := wrap_i64 (by have := hc.1; omega)
    generalize pickI c n = k at *
    clear h0 h1 h2 e0 hc hneg ep e1
    go_enter Try.func38, Try.ntmps38
    go_wp2_with fail
    go_ret
    exact ⟨congrArg (fun z => Ending.returned (.int .i64 z)) E1.out, rfl⟩
  · have hd : decide (c < 0) = false := decide_eq_false hneg
    have ep : posI c = c := if_neg hneg
    rw [ep] at e1
    have E1 := Lib.hid e1
    generalize pickI c n = k at *
    clear h0 h1 h2 e0 hc hneg ep e1
    go_enter Try.func38, Try.ntmps38
    go_wp2_with fail
    go_ret
    exact ⟨congrArg (fun z => Ending.returned (.int .i64 z)) E1.out, rfl⟩

def fewB (L : List ActV) : Bool := decide (L.length ≤ 80 ∧ ∀ c ∈ L, c.c.length ≤ 20)
/-- Acts that are read, one by one. -/
theorem ReadsA.get {w : World} {a : Option Addr} {n c : Nat} {L : List ActV} (h : ReadsA w (.slice a n c) L) {k : Nat} (hk : k < L.length) : ∃ b off da dc, a = some ⟨b, off, none⟩ ∧
    w.cell? ⟨b, off + k * 3, none⟩ = some (.int .i64 (L.getD k a0).op) ∧ w.cell? ⟨b, off + k * 3 + 1, none⟩ = some (.int .i64 (L.getD k a0).n) ∧ w.cell? ⟨b, off + k * 3 + 2, none⟩ = some (.slice da (L.getD k a0).c.length dc) ∧ Reads w (.slice da (L.getD k a0).c.length dc) (L.getD k a0).c := by
  obtain ⟨b, off, c', vs, e, _, hc⟩ := h.resolve_left (fun h => by rw [h.2] at hk; simp at hk)
  injection e with e _ _
  obtain ⟨h0, h1, h2, h3⟩ := hc k hk
  obtain ⟨da, dc, e2⟩ := h3.form
  rw [e2] at h2 h3
  exact ⟨b, off, da, dc, e, h0, h1, h2, h3⟩

theorem allA_snoc {L : List ActV} {k : Nat} {p : ActV → Prop} (hk : k < L.length) (h : ∀ c ∈ L.take k, p c) (h1 : p (L.getD k a0)) : ∀ c ∈ L.take (k + 1), p c := fun c hc => by
  rw [List.take_succ_eq_append_getElem hk] at hc
  rcases List.mem_append.1 hc with hc | hc
  · exact h c hc
  · obtain rfl := List.mem_singleton.1 hc
    rw [List.getD_eq_getElem?_getD, List.getElem?_eq_getElem hk, Option.getD_some] at h1
    exact h1

set_option maxRecDepth 1000000 in
theorem few_any {w : World} {s : Value} {L : List ActV} (h : ReadsA w s L) :
    Calls Try.prog 17 #[s] w fun e w' => e = .returned (.bool (fewB L)) ∧ w' = w := by
  have H := Lib.hid h
  obtain ⟨a, cc, rfl⟩ := h.form
  obtain ⟨q, hq⟩ : ∃ q, L.length = q := ⟨_, rfl⟩
  rw [hq] at H ⊢
  have HQ := Lib.hid hq
  obtain ⟨R, hR⟩ : ∃ R, fewB L = R := ⟨_, rfl⟩
  rw [hR]
  have HR := Lib.hid hR
  clear h hq hR
  by_cases h60 : 80 < q
  · have HE : Hid (R = false) := Lib.hid (by rw [← HR.out]; exact decide_eq_false fun h => by have h1 := h.1; rw [HQ.out] at h1; omega)
    have hd : (80 : Int) < (q : Int) := by omega
    go_enter Try.func17, Try.ntmps17
    go_wp2_with fail
    go_ret
    exact ⟨by rw [HE.out]; rfl, rfl⟩
  · have hd : ¬ (80 : Int) < (q : Int) := by omega
    have hq60 : q ≤ 80 := by omega
    clear h60
    go_enter Try.func17, Try.ntmps17
    go_wp2_with fail
    clear hd
    as_aux_lemma =>
    go_loop [2, 3] (fun _ v5 => ∃ k : Nat, k ≤ q ∧ v5 = .int .i64 k ∧ Hid (∀ c ∈ L.take k, c.c.length ≤ 20)) (fun _ v5 => q - (intOf v5).toNat)
    case atStart => exact ⟨0, Nat.zero_le _, rfl, Lib.hid fun y hy => by rw [List.take_zero] at hy; cases hy⟩
    case round =>
      obtain ⟨k, hk, rfl, HF⟩ := hrel
      by_cases hlt : k < q
      · have hkx : k < L.length := by rw [HQ.out]; exact hlt
        obtain ⟨b, off, da, dc, rfl, _, _, ck, _⟩ := H.out.get hkx
        have HS := Lib.hid (fun h => allA_snoc (p := fun c => c.c.length ≤ 20) hkx HF.out h)
        have HBAD : Hid (¬ (L.getD k a0).c.length ≤ 20 → R = false) := Lib.hid fun h => by rw [← HR.out]; exact decide_eq_false fun h2 => h (h2.2 _ (mem_getD hkx))
        have hk1 : (k : Int) < (q : Int) := by omega
        have hk0 : (0 : Int) ≤ (k : Int) := by omega
        clear hkx HF
        generalize (L.getD k a0).c.length = m at *
        by_cases hm : m ≤ 20
        · have HN := Lib.hid (HS.out hm)
          have hd : ¬ (20 : Int) < (m : Int) := by omega
          clear HS HBAD
          as_aux_lemma =>
          go_wp2_with fail
          go_round
          case rel => exact ⟨k + 1, by omega, by go_num, HN⟩
          case measure => simp [intOf]; omega
        · have HN := Lib.hid (HBAD.out hm)
          have hd : (20 : Int) < (m : Int) := by omega
          clear HS HBAD
          as_aux_lemma =>
          go_wp2_with fail
          go_ret
          exact ⟨by rw [HN.out]; rfl, rfl⟩
      · obtain rfl : k = q := by omega
        have HE : Hid (R = true) := Lib.hid (by
          rw [← HR.out]
          refine decide_eq_true ⟨by rw [HQ.out]; exact hq60, ?_⟩
          have := HF.out
          rw [List.take_of_length_le (by rw [HQ.out]; exact Nat.le_refl _)] at this
          exact this)
        clear HF
        as_aux_lemma =>
        go_wp2_with fail
        go_ret
        exact ⟨by rw [HE.out]; rfl, rfl⟩
end Go.Proofs.Ytngegkgmenfelaa
