/-
  slices.Max; settle.
-/
import Derived.Test.YtbihcdjamdkinaaWh
namespace Go.Proofs.Ytbihcdjamdkinaa
open Go.RowKit Go.Lib

/-- The greatest of the first k + 1 numbers. -/
def maxTo (A : List Int) : Nat → Int
  | 0 => A.getD 0 0
  | k + 1 => max (maxTo A k) (A.getD (k + 1) 0)

set_option maxRecDepth 100000 in
set_option maxHeartbeats 1000000 in
theorem Max_any (g al c : Nat) (A : List Int) (w : World) (h0 : 0 < al) (hs : al ≤ 1000000) (hc : ∀ j, j < al → w.cell? ⟨g, j, none⟩ = some (.int .i64 (A.getD j 0))) :
    Calls Try.prog 38 #[.slice (some ⟨g, 0, none⟩) al c] w fun e w' => e = .returned (.int .i64 (maxTo A (al - 1))) ∧ w' = w := by
  obtain ⟨m, rfl⟩ : ∃ m, al = m + 1 := ⟨al - 1, by omega⟩
  have c0 := hc 0 h0
  have HC := Lib.hid hc
  obtain ⟨x0, hx0⟩ : ∃ x, A.getD 0 0 = x := ⟨_, rfl⟩
  have hz : Hid (x0 = maxTo A 0) := hx0.symm
  rw [hx0] at c0
  clear hx0
  clear hc
  go_enter Try.func38, Try.ntmps38
  go_wp2_with fail
  go_loop [3, 4] (fun x i => ∃ k : Nat, k ≤ m ∧ i = .int .i64 ((k + 1 : Nat) : Int) ∧ x = .int .i64 (maxTo A k)) (fun _ i => m + 2 - (intOf i).toNat)
  case atStart => exact ⟨0, Nat.zero_le _, rfl, by rw [← hz.out]⟩
  case round =>
    obtain ⟨k, hk, rfl, rfl⟩ := hrel
    by_cases hlt : k < m
    · have ck := HC.out (k + 1) (by omega)
      obtain ⟨y, hy⟩ : ∃ y, A.getD (k + 1) 0 = y := ⟨_, rfl⟩
      rw [hy] at ck
      have HN : Hid (maxTo A (k + 1) = max (maxTo A k) y) := by
        show max (maxTo A k) (A.getD (k + 1) 0) = _
        rw [hy]
      clear hy c0 hz
      generalize maxTo A k = x at *
      have hk1 : k + 1 < m + 1 := by omega
      go_wp2_with fail
      go_round
      case rel => exact ⟨k + 1, by omega, by go_num, by rw [HN.out]; congr 1; split <;> omega⟩
      case measure => simp [intOf]; omega
    · have e : k = m := by omega
      subst e
      clear c0 hz HC
      go_wp2_with fail
      go_ret
      exact ⟨rfl, rfl⟩

/-- What down keeps. -/
theorem downF_inv {n : Nat} {A : List Int} : ∀ (f i : Nat) (L P : List Int), Inv n L P A → i < L.length → Inv n (downF A f i L P).1 (downF A f i L P).2 A ∧ (downF A f i L P).1.length = L.length
  | 0, _, L, P, h, _ => ⟨h, rfl⟩
  | f + 1, i, L, P, h, hi => by
    unfold downF
    split
    · rename_i hc
      have := downF_inv f (kid A L i) (swL L i (kid A L i)) (swP L P i (kid A L i)) (h.swap hi hc.1) (by rw [swL_len]; exact hc.1)
      rw [swL_len] at this
      exact this
    · exact ⟨h, rfl⟩
theorem upF_inv {n : Nat} {A : List Int} : ∀ (f i : Nat) (L P : List Int), Inv n L P A → i < L.length → Inv n (upF A f i L P).1 (upF A f i L P).2 A ∧ (upF A f i L P).1.length = L.length
  | 0, _, L, P, h, _ => ⟨h, rfl⟩
  | f + 1, i, L, P, h, hi => by
    unfold upF
    split
    · have h2 : (i - 1) / 2 < L.length := by omega
      have := upF_inv f ((i - 1) / 2) (swL L i ((i - 1) / 2)) (swP L P i ((i - 1) / 2)) (h.swap hi h2) (by rw [swL_len]; exact h2)
      rw [swL_len] at this
      exact this
    · exact ⟨h, rfl⟩

/-- What settle does: down from each place, the last first. -/
def setF (A : List Int) (f : Nat) : Nat → List Int → List Int → List Int × List Int
  | 0, L, P => (L, P)
  | i + 1, L, P => setF A f i (downF A f i L P).1 (downF A f i L P).2

theorem setF_inv {n : Nat} {A : List Int} (f : Nat) : ∀ (i : Nat) (L P : List Int), Inv n L P A → i ≤ L.length → Inv n (setF A f i L P).1 (setF A f i L P).2 A ∧ (setF A f i L P).1.length = L.length
  | 0, L, P, h, _ => ⟨h, rfl⟩
  | i + 1, L, P, h, hi => by
    obtain ⟨h1, h2⟩ := downF_inv f i L P h hi
    have := setF_inv f i _ _ h1 (by omega)
    unfold setF
    rw [h2] at this
    exact this

set_option maxRecDepth 100000 in
set_option maxHeartbeats 1000000 in
theorem settle_any {w : World} {B : Nat → Prop} {b : Nat} {lv pv av : Value} {n : Nat} {L P A : List Int} {sc : Int} (h : QAt w B b lv pv av L P A sc) (hI : Inv n L P A) (hs : L.length ≤ 900000) (f : Nat) (hf : L.length < f) :
    Calls Try.prog 39 #[.pointer (some ⟨b, 0, none⟩)] w fun e w' => e = .returned (.tuple #[]) ∧ Keep B w w' ∧ QAt w' B b lv pv av (setF A f L.length L P).1 (setF A f L.length L P).2 A sc := by
  obtain ⟨la, lc, rfl⟩ := h.l.form
  have b0 := h.c0
  obtain ⟨T, hT⟩ : ∃ T, setF A f L.length L P = T := ⟨_, rfl⟩
  rw [hT]
  have HT := Lib.hid hT
  have H := Lib.hid h
  have HI := Lib.hid hI
  obtain ⟨ll, hll⟩ : ∃ ll, L.length = ll := ⟨_, rfl⟩
  rw [hll] at b0 HT H hs hf ⊢
  have HL := Lib.hid hll
  clear h hI hT hll
  go_enter Try.func39, Try.ntmps39
  go_wp2_with fail
  go_loopw [2] (fun vi wr => ∃ (j : Nat) (Lk Pk : List Int), vi = .int .i64 ((j : Int) - 1) ∧ j ≤ ll ∧ Hid (Lk.length = ll) ∧ Hid (Inv n Lk Pk A) ∧ Hid (QAt wr B b (.slice la ll lc) pv av Lk Pk A sc) ∧ Hid (Keep B w wr) ∧ Hid (setF A f j Lk Pk = T)) (fun vi _ => (intOf vi + 1).toNat)
  case atStart => exact ⟨ll, L, P, rfl, Nat.le_refl _, HL, HI, H, Keep.refl _ _, HT⟩
  case round =>
    obtain ⟨j, Lk, Pk, rfl, hj, hlk, hIk, hQ, hB, hU⟩ := hrel
    rcases Nat.eq_zero_or_pos j with h0 | h0
    · subst h0
      have hfin : Hid ((Lk, Pk) = T) := hU.out
      clear hU HT H HI HL
      go_wp2_with fail
      go_end0
      rw [← hfin.out]
      exact ⟨rfl, hB.out, hQ.out⟩
    · obtain ⟨jp, rfl⟩ : ∃ jp, j = jp + 1 := ⟨j - 1, by omega⟩
      have e1 : ((jp + 1 : Nat) : Int) - 1 = jp := by omega
      rw [e1]
      have hlt : jp < Lk.length := by rw [hlk.out]; omega
      have D := Lib.hid (down_any hQ.out hIk.out jp (by omega) (by rw [hlk.out]; omega) f (by rw [hlk.out]; omega) (by omega))
      have V := Lib.hid (downF_inv f jp Lk Pk hIk.out hlt)
      have hnx : Hid (setF A f jp (downF A f jp Lk Pk).1 (downF A f jp Lk Pk).2 = T) := hU.out
      clear hU HT H HI HL hlt e1
      go_wp2_with (go_at_call 48; refine D.out.mono ?_; rintro e w' ⟨rfl, hb, hq⟩; have hb' := Lib.hid (hB.out.trans hb); have hq' := Lib.hid hq; clear hb hq)
      go_roundw
      case rel => exact ⟨jp, _, _, by go_num, by omega, Lib.hid (V.out.2.trans hlk.out), V.out.1, hq'.out, hb'.out, hnx.out⟩
      case measure => simp [intOf]
end Go.Proofs.Ytbihcdjamdkinaa
