/-
  The reference: Total, Dot.
-/
import Derived.Test.YtjdpocoahinbfaaDoorRa
import Derived.Test.YtjdpocoahinbfaaDoorWf
import Derived.BigQuiet
import Derived.Deep.QuietTactic
import Derived.Laws.AppendOwn
import Derived.Deep.DeepMust
namespace Go.Proofs.YtjdpocoahinbfaaDoor
open Go.RowKit Go.Lib

theorem rtotal_any (a : Option Addr) (len cap : Nat) (es : List Int) (w : World) (hl : len ≤ 1000000) (hi : IsInts w a len es) :
    Calls Tryd.prog 16 #[.slice a len cap] w fun e w' => e = .returned (.tuple #[.int .i64 (valO (totO es)), .int .i64 (errO (totO es))]) ∧ w = w' := by
  obtain ⟨hlen, hc, hbd⟩ := hi
  have HT : totFrom 0 (es.drop 0) = totO es := rfl
  generalize totO es = T at *
  have hT := Lib.hid HT
  have Hlen := Lib.hid hlen
  have Hbd := Lib.hid hbd
  have Hc := Lib.hid hc
  clear HT hlen hbd hc
  go_enter Tryd.func16, Tryd.ntmps16
  go_wp2
  go_loop [4, 5] (fun n i => ∃ (k : Nat) (n' : Int), k ≤ len ∧ i = .int .i64 k ∧ n = .int .i64 n' ∧ In64 n' ∧ Hid (totFrom n' (es.drop k) = T)) (fun _ i => len - (intOf i).toNat)
  case atStart => exact ⟨0, 0, Nat.zero_le _, rfl, rfl, in64_0, hT⟩
  case round =>
    obtain ⟨k, n, hk, rfl, rfl, hn, hR⟩ := hrel
    by_cases hlt : k < len
    · obtain ⟨b, off, rfl, hb, hcell⟩ : ∃ b off, a = some ⟨b, off, none⟩ ∧ b < w.heap.size ∧ ∀ i, i < len → w.cell? ⟨b, off + i, none⟩ = some (.int .i64 (es.getD i 0)) := by
        rcases Hc.out with h | h
        · omega
        · exact h
      have hck := hcell k hlt
      obtain ⟨z, hz⟩ : ∃ z, es.getD k 0 = z := ⟨_, rfl⟩
      have hz64 := in64_getD Hbd.out k
      rw [hz] at hck hz64
      have HZ := Lib.hid hz
      clear hcell hz
      have hadd := Lib.hid (radd_any n z w hn hz64)
      cases ho : addO n z with
      | some m =>
        rw [ho] at hadd
        have hnext := Lib.hid (tot_next (by rw [Hlen.out]; exact hlt) HZ.out hR.out ho)
        have hm := addO_bd ho
        clear ho hn
        go_wp2_with (go_at_call 12; refine hadd.out.mono ?_; rintro e w' ⟨rfl, rfl⟩; show _; simp only [valO, errO, Option.getD_some, Option.isSome_some, if_true])
        go_round
        case rel => exact ⟨k + 1, m, by omega, by go_num, rfl, hm, hnext⟩
        case measure => simp [intOf]; omega
      | none =>
        rw [ho] at hadd
        have hstop := tot_stop (by rw [Hlen.out]; exact hlt) HZ.out hR.out ho
        subst hstop
        clear ho hn
        go_wp2_with (go_at_call 12; refine hadd.out.mono ?_; rintro e w' ⟨rfl, rfl⟩; show _; simp only [valO, errO, Option.getD_none, Option.isSome_none, Bool.false_eq_true, if_false])
        go_ret2
        exact ⟨rfl, rfl⟩
    · have hend := tot_end (by rw [Hlen.out]; exact hlt) hR.out
      subst hend
      clear hT hR
      go_wp2
      go_ret2
      exact ⟨rfl, rfl⟩
end Go.Proofs.YtjdpocoahinbfaaDoor
