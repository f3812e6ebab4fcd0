/-
  Total, Dot.
-/
import Derived.Test.YtjdpocoahinbfaaDoorWd
namespace Go.Proofs.YtjdpocoahinbfaaDoor
open Go.RowKit Go.Lib

/-- A slice's elements, as a list of numbers. -/
def IsInts (w : World) (a : Option Addr) (len : Nat) (es : List Int) : Prop :=
  es.length = len ∧ (len = 0 ∨ ∃ b off, a = some ⟨b, off, none⟩ ∧ b < w.heap.size ∧ ∀ i, i < len → w.cell? ⟨b, off + i, none⟩ = some (.int .i64 (es.getD i 0))) ∧ ∀ n ∈ es, In64 n

theorem IsInts.below {w w' : World} {a : Option Addr} {len : Nat} {es : List Int} {B : Nat} (h : IsInts w a len es) (hb : Below B w w') (hB : w.heap.size ≤ B) : IsInts w' a len es := by
  obtain ⟨h1, h2, h3⟩ := h
  refine ⟨h1, ?_, h3⟩
  rcases h2 with h2 | ⟨b, off, e, hlt, hc⟩
  · exact .inl h2
  · exact .inr ⟨b, off, e, by have := hb.size; omega, fun i hi => by rw [hb.cell (by show b < B; omega)]; exact hc i hi⟩

/-- Total's closure. -/
theorem totc_any (p : Addr) (a : Option Addr) (len cap : Nat) (es : List Int) (x : Addr) (w : World) (hl : len ≤ 1000000) (hi : IsInts w a len es) (hg : Sent x w) (hp : w.cell? p = some (.slice a len cap)) :
    Calls Tryd.prog 30 #[.pointer (some p)] w fun e w' => EndsO x (totO es) e ∧ w = w' := by
  obtain ⟨hlen, hc, hbd⟩ := hi
  have HT : totFrom 0 (es.drop 0) = totO es := rfl
  generalize totO es = T at *
  have hT := Lib.hid HT
  have Hlen := Lib.hid hlen
  have Hbd := Lib.hid hbd
  have Hg := Lib.hid hg
  have Hc := Lib.hid hc
  clear HT hlen hbd hg hc
  go_enter Tryd.func30, Tryd.ntmps30
  go_wp2
  go_loop [2, 7] (fun n i => ∃ (k : Nat) (n' : Int), k ≤ len ∧ i = .int .i64 k ∧ n = .int .i64 n' ∧ In64 n' ∧ Hid (totFrom n' (es.drop k) = T)) (fun _ i => len - (intOf i).toNat)
  case atStart => exact ⟨0, 0, Nat.zero_le _, rfl, rfl, in64_0, hT⟩
  case round =>
    obtain ⟨k, n, hk, rfl, rfl, hn, hR⟩ := hrel
    by_cases hlt : k < len
    · obtain ⟨b, off, rfl, hb, hcell⟩ : ∃ b off, a = some ⟨b, off, none⟩ ∧ b < w.heap.size ∧ ∀ i, i < len → w.cell? ⟨b, off + i, none⟩ = some (.int .i64 (es.getD i 0)) := by
        rcases Hc.out with h | h
        · omega
        · exact h
      have hck := hcell k hlt
      obtain ⟨z, hz⟩ : ∃ z, es.getD k 0 = z := ⟨_, rfl⟩
      have hz64 := in64_getD Hbd.out k
      rw [hz] at hck hz64
      have HZ := Lib.hid hz
      clear hcell hz
      have hadd := Lib.hid (add_any n z x w hn hz64 Hg.out)
      cases ho : addO n z with
      | some m =>
        rw [ho] at hadd
        have hnext := Lib.hid (tot_next (by rw [Hlen.out]; exact hlt) HZ.out hR.out ho)
        have hm := addO_bd ho
        clear ho hn
        go_wp2_with (go_at_call 27; refine hadd.out.mono ?_; rintro e w' ⟨rfl, rfl⟩)
        go_round
        case rel => exact ⟨k + 1, m, by omega, by go_num, rfl, hm, hnext⟩
        case measure => simp [intOf]; omega
      | none =>
        rw [ho] at hadd
        have hstop := tot_stop (by rw [Hlen.out]; exact hlt) HZ.out hR.out ho
        subst hstop
        clear ho hn
        go_wp2_with (go_at_call 27; refine hadd.out.mono ?_; rintro e w' ⟨rfl, rfl⟩)
        exact ⟨rfl, rfl, rfl⟩
    · have hend := tot_end (by rw [Hlen.out]; exact hlt) hR.out
      subst hend
      clear hT hR
      go_wp2
      go_ret
      exact ⟨rfl, rfl⟩
end Go.Proofs.YtjdpocoahinbfaaDoor
