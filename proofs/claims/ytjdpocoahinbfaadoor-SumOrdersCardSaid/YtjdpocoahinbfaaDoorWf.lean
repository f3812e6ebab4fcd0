/-
  Total, Dot's closure, Dot.
-/
import Derived.Test.YtjdpocoahinbfaaDoorWe
namespace Go.Proofs.YtjdpocoahinbfaaDoor
open Go.RowKit Go.Lib

theorem Total_any (a : Option Addr) (len cap : Nat) (es : List Int) (x : Addr) (w : World) (hl : len ≤ 1000000) (hi : IsInts w a len es) (hg : Sent x w) :
    Calls Tryd.prog 15 #[.slice a len cap] w fun e w' => e = .returned (.tuple #[.int .i64 (valO (totO es)), .int .i64 (errO (totO es))]) ∧ Below w.heap.size w w' := by
  have hmf : ∀ (fn : Fn) (first cap : Array Value) (w : World), (Instr.makeFunc fn first cap).run Tryd.prog w = .ok (.func fn first cap) w := fun _ _ _ _ => rfl
  have hB : Below w.heap.size w (w.alloc (.cells #[.slice a len cap] 27)) := (Below.refl _ _).alloc (Nat.le_refl _) _
  have hc := within_still 30 #[.pointer (some ⟨w.heap.size, 0, none⟩)] x (totO es) (w.alloc (.cells #[.slice a len cap] 27)) enter30 (hg.below hB hg.pos) (fun w1 h1 => by
    have h1' : Below w.heap.size w w1 := hB.trans (h1.mono (by simp))
    refine totc_any _ a len cap es x w1 hl (hi.below h1' (Nat.le_refl _)) (hg.below h1' hg.pos) ?_
    rw [h1.cell (by simp)]; simp [go_sem])
  have H := Lib.hid hc
  have HB := Lib.hid hB
  clear hc hg hB hi
  go_enter Tryd.func15, Tryd.ntmps15
  go_wp2_with (go_at_call 25; refine H.out.mono ?_; rintro e w' ⟨rfl, hb'⟩)
  go_ret2
  exact ⟨rfl, HB.out.trans (hb'.mono (by simp))⟩

/-- Dot's closure. -/
theorem dotc_any (p q : Addr) (a b : Option Addr) (len cap capb : Nat) (es fs : List Int) (x : Addr) (w : World) (hl : len ≤ 1000000) (hi : IsInts w a len es) (hj : IsInts w b len fs) (hg : Sent x w)
    (hp : w.cell? p = some (.slice a len cap)) (hq : w.cell? q = some (.slice b len capb)) :
    Calls Tryd.prog 31 #[.pointer (some p), .pointer (some q)] w fun e w' => EndsO x (dotO es fs) e ∧ w = w' := by
  obtain ⟨hlen, hc, hbd⟩ := hi
  obtain ⟨hlen', hc', hbd'⟩ := hj
  have HT : dotFrom 0 (es.drop 0) (fs.drop 0) = dotO es fs := rfl
  generalize dotO es fs = T at *
  have hT := Lib.hid HT
  have Hlen := Lib.hid hlen
  have Hbd := Lib.hid hbd
  have Hlen' := Lib.hid hlen'
  have Hbd' := Lib.hid hbd'
  have Hg := Lib.hid hg
  have Hc := Lib.hid hc
  have Hc' := Lib.hid hc'
  clear HT hlen hbd hg hc hlen' hbd' hc'
  go_enter Tryd.func31, Tryd.ntmps31
  go_wp2
  go_loop [3, 8] (fun n i => ∃ (k : Nat) (n' : Int), k ≤ len ∧ i = .int .i64 k ∧ n = .int .i64 n' ∧ In64 n' ∧ Hid (dotFrom n' (es.drop k) (fs.drop k) = T)) (fun _ i => len - (intOf i).toNat)
  case atStart => exact ⟨0, 0, Nat.zero_le _, rfl, rfl, in64_0, hT⟩
  case round =>
    obtain ⟨k, n, hk, rfl, rfl, hn, hR⟩ := hrel
    by_cases hlt : k < len
    · obtain ⟨b1, off, rfl, hb, hcell⟩ : ∃ b off, a = some ⟨b, off, none⟩ ∧ b < w.heap.size ∧ ∀ i, i < len → w.cell? ⟨b, off + i, none⟩ = some (.int .i64 (es.getD i 0)) := by
        rcases Hc.out with h | h
        · omega
        · exact h
      obtain ⟨b2, off2, rfl, hb2, hcell2⟩ : ∃ b' off, b = some ⟨b', off, none⟩ ∧ b' < w.heap.size ∧ ∀ i, i < len → w.cell? ⟨b', off + i, none⟩ = some (.int .i64 (fs.getD i 0)) := by
        rcases Hc'.out with h | h
        · omega
        · exact h
      have hck := hcell k hlt
      have hck2 := hcell2 k hlt
      obtain ⟨y, hy⟩ : ∃ z, es.getD k 0 = z := ⟨_, rfl⟩
      obtain ⟨z, hz⟩ : ∃ z, fs.getD k 0 = z := ⟨_, rfl⟩
      have hy64 := in64_getD Hbd.out k
      have hz64 := in64_getD Hbd'.out k
      rw [hz] at hck2 hz64
      rw [hy] at hck hy64
      have HZ := Lib.hid hz
      have HY := Lib.hid hy
      clear hcell hcell2 hz hy
      have hmul := Lib.hid (mul_any y z x w hy64 hz64 Hg.out)
      cases ho : mulO y z with
      | none =>
        rw [ho] at hmul
        have hstop := dot_stop1 (by rw [Hlen.out]; exact hlt) (by rw [Hlen'.out]; exact hlt) HY.out HZ.out hR.out ho
        subst hstop
        clear ho hn
        go_wp2_with (go_at_call 29; refine hmul.out.mono ?_; rintro e w' ⟨rfl, rfl⟩)
        exact ⟨rfl, rfl, rfl⟩
      | some m =>
        rw [ho] at hmul
        have hm := mulO_bd ho
        have hadd := Lib.hid (add_any n m x w hn hm Hg.out)
        cases hs : addO n m with
        | none =>
          rw [hs] at hadd
          have hstop := dot_stop2 (by rw [Hlen.out]; exact hlt) (by rw [Hlen'.out]; exact hlt) HY.out HZ.out hR.out ho hs
          subst hstop
          clear ho hn hs
          go_wp2_with (first | (go_at_call 29; refine hmul.out.mono ?_; rintro e w' ⟨rfl, rfl⟩) | (go_at_call 27; refine hadd.out.mono ?_; rintro e w' ⟨rfl, rfl⟩))
          exact ⟨rfl, rfl, rfl⟩
        | some s =>
          rw [hs] at hadd
          have hnext := Lib.hid (dot_next (by rw [Hlen.out]; exact hlt) (by rw [Hlen'.out]; exact hlt) HY.out HZ.out hR.out ho hs)
          have hs64 := addO_bd hs
          clear ho hn hs
          go_wp2_with (first | (go_at_call 29; refine hmul.out.mono ?_; rintro e w' ⟨rfl, rfl⟩) | (go_at_call 27; refine hadd.out.mono ?_; rintro e w' ⟨rfl, rfl⟩))
          go_round
          case rel => exact ⟨k + 1, s, by omega, by go_num, rfl, hs64, hnext⟩
          case measure => simp [intOf]; omega
    · have hend := dot_end (by rw [Hlen.out]; exact hlt) hR.out
      subst hend
      clear hT hR
      go_wp2
      go_ret
      exact ⟨rfl, rfl⟩

theorem Dot_any (a b : Option Addr) (len cap capb : Nat) (es fs : List Int) (x : Addr) (w : World) (hl : len ≤ 1000000) (hi : IsInts w a len es) (hj : IsInts w b len fs) (hg : Sent x w) :
    Calls Tryd.prog 17 #[.slice a len cap, .slice b len capb] w fun e w' => e = .returned (.tuple #[.int .i64 (valO (dotO es fs)), .int .i64 (errO (dotO es fs))]) ∧ Below w.heap.size w w' := by
  have hmf : ∀ (fn : Fn) (first cap : Array Value) (w : World), (Instr.makeFunc fn first cap).run Tryd.prog w = .ok (.func fn first cap) w := fun _ _ _ _ => rfl
  have hB : Below w.heap.size w ((w.alloc (.cells #[.slice a len cap] 27)).alloc (.cells #[.slice b len capb] 27)) := ((Below.refl _ _).alloc (Nat.le_refl _) _).alloc (by simp) _
  have hc := within_still 31 #[.pointer (some ⟨w.heap.size, 0, none⟩), .pointer (some ⟨w.heap.size + 1, 0, none⟩)] x (dotO es fs) ((w.alloc (.cells #[.slice a len cap] 27)).alloc (.cells #[.slice b len capb] 27)) enter31 (hg.below hB hg.pos) (fun w1 h1 => by
    have h1' : Below w.heap.size w w1 := hB.trans (h1.mono (by simp; omega))
    refine dotc_any _ _ a b len cap capb es fs x w1 hl (hi.below h1' (Nat.le_refl _)) (hj.below h1' (Nat.le_refl _)) (hg.below h1' hg.pos) ?_ ?_
    · rw [h1.cell (by simp; omega)]; simp [go_sem]
    · rw [h1.cell (by simp)]; simp [go_sem])
  have H := Lib.hid hc
  have HB := Lib.hid hB
  clear hc hg hB hi hj
  go_enter Tryd.func17, Tryd.ntmps17
  go_wp2_with (go_at_call 25; refine H.out.mono ?_; rintro e w' ⟨rfl, hb'⟩)
  go_ret2
  exact ⟨rfl, HB.out.trans (hb'.mono (by simp; omega))⟩

theorem Dot_ne (a b : Option Addr) (len lenb cap capb : Nat) (w : World) (hne : len ≠ lenb) :
    Calls Tryd.prog 17 #[.slice a len cap, .slice b lenb capb] w fun e w' => e = .returned (.tuple #[.int .i64 0, .int .i64 1]) ∧ Below w.heap.size w w' := by
  have h0 : ((len : Int) != (lenb : Int)) = true := by simp; omega
  have hB : Below w.heap.size w ((w.alloc (.cells #[.slice a len cap] 27)).alloc (.cells #[.slice b lenb capb] 27)) := ((Below.refl _ _).alloc (Nat.le_refl _) _).alloc (by simp) _
  have HB := Lib.hid hB
  clear hB
  go_enter Tryd.func17, Tryd.ntmps17
  go_wp2_with fail
  go_ret2
  exact ⟨rfl, HB.out⟩
end Go.Proofs.YtjdpocoahinbfaaDoor
