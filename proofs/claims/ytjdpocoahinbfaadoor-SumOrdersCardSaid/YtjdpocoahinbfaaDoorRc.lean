/-
  The reference: Dot.
-/
import Derived.Test.YtjdpocoahinbfaaDoorRb
import Derived.Test.YtjdpocoahinbfaaDoorP2
import Derived.WalkSmall
namespace Go.Proofs.YtjdpocoahinbfaaDoor
open Go.RowKit Go.Lib

theorem info3 : (Tryd.prog.info? 3).map (fun i => (i.zero, i.size, i.bytes)) = some (some (.int .i64 0), 1, 8) := by kernel_rfl

theorem isInts_of_own {w : World} {base : Nat} {v : Value} {es : List Int} (h : w.ownsRow base 3 1 v es.length (es.map (Value.int .i64))) (h64 : ∀ n ∈ es, In64 n) :
    ∃ a cap, v = .slice a es.length cap ∧ IsInts w a es.length es := by
  obtain ⟨_, h2⟩ := h
  rcases h2 with ⟨rfl, hn⟩ | ⟨g, cap, cur, rfl, _, hg, hle, hcap, hsz, htake⟩
  · exact ⟨none, 0, by rw [hn], rfl, .inl hn, h64⟩
  · refine ⟨_, _, rfl, rfl, .inr ⟨g, 0, rfl, lt_of_block hg, fun i hi => ?_⟩, h64⟩
    have e : cur[i]? = some (.int .i64 (es.getD i 0)) := by
      have h3 : (cur.toList.take (es.length * 1))[i]? = (es.map (Value.int .i64))[i]? := by rw [htake]
      simp [hi] at h3
      simpa [hi] using h3
    simp [World.cell?, hg, e]

set_option maxHeartbeats 800000 in
theorem rdot_any (a b : Option Addr) (len cap capb : Nat) (es fs : List Int) (w : World) (hl : len ≤ 1000000) (hi : IsInts w a len es) (hj : IsInts w b len fs) :
    Calls Tryd.prog 18 #[.slice a len cap, .slice b len capb] w fun e w' => e = .returned (.tuple #[.int .i64 (valO (dotO es fs)), .int .i64 (errO (dotO es fs))]) ∧ Below w.heap.size w w' := by
  obtain ⟨i0, hi0, hz0, hz1, hz2⟩ := info_parts info3
  obtain ⟨hlen, hc, hbd⟩ := hi
  obtain ⟨hlen', hc', hbd'⟩ := hj
  have HT : (prodsO (es.drop 0) (fs.drop 0)).map ([] ++ ·) = prodsO es fs := by simp
  have HD : dotO es fs = (prodsO es fs).bind (totFrom 0) := dot_prods es fs 0
  rw [HD]
  clear HD
  generalize prodsO es fs = T at *
  have hT := Lib.hid HT
  have Hlen := Lib.hid hlen
  have Hbd := Lib.hid hbd
  have Hlen' := Lib.hid hlen'
  have Hbd' := Lib.hid hbd'
  have Hc := Lib.hid hc
  have Hc' := Lib.hid hc'
  clear HT hlen hbd hc hlen' hbd' hc'
  go_enter Tryd.func18, Tryd.ntmps18
  go_wp2
  go_loopw [6, 7] (fun v i wr => ∃ (k : Nat) (ps : List Int), k ≤ len ∧ i = .int .i64 k ∧ ps.length = k ∧ wr.ownsRow w.heap.size 3 1 v ps.length (ps.map (Value.int .i64)) ∧ (∀ n ∈ ps, In64 n) ∧ Below w.heap.size w wr ∧ Hid ((prodsO (es.drop k) (fs.drop k)).map (ps ++ ·) = T)) (fun _ i _ => len - (intOf i).toNat)
  case atStart => exact ⟨0, [], Nat.zero_le _, rfl, rfl, World.ownsRow_nil _ _ _ _, by simp, Below.refl _ _, hT⟩
  case round =>
    obtain ⟨k, ps, hk, rfl, hpl, hown, hp64, hnx, hR⟩ := hrel
    by_cases hlt : k < len
    · obtain ⟨b1, off, rfl, hb, hcell⟩ : ∃ b off, a = some ⟨b, off, none⟩ ∧ b < w.heap.size ∧ ∀ i, i < len → w.cell? ⟨b, off + i, none⟩ = some (.int .i64 (es.getD i 0)) := by
        rcases Hc.out with h | h
        · omega
        · exact h
      obtain ⟨b2, off2, rfl, hb2, hcell2⟩ : ∃ b' off, b = some ⟨b', off, none⟩ ∧ b' < w.heap.size ∧ ∀ i, i < len → w.cell? ⟨b', off + i, none⟩ = some (.int .i64 (fs.getD i 0)) := by
        rcases Hc'.out with h | h
        · omega
        · exact h
      have hck := (hnx.cell (p := ⟨b1, off + k, none⟩) hb).trans (hcell k hlt)
      have hck2 := (hnx.cell (p := ⟨b2, off2 + k, none⟩) hb2).trans (hcell2 k hlt)
      obtain ⟨y, hy⟩ : ∃ z, es.getD k 0 = z := ⟨_, rfl⟩
      obtain ⟨z, hz⟩ : ∃ z, fs.getD k 0 = z := ⟨_, rfl⟩
      have hy64 := in64_getD Hbd.out k
      have hz64 := in64_getD Hbd'.out k
      rw [hz] at hck2 hz64
      rw [hy] at hck hy64
      have HZ := Lib.hid hz
      have HY := Lib.hid hy
      have HPL := Lib.hid hpl
      have HOWN := Lib.hid hown
      have HNX := Lib.hid hnx
      clear hcell hcell2 hz hy hpl hown hnx
      have hmul := fun w => rmul_any y z w hy64 hz64
      cases ho : mulO y z with
      | none =>
        have hmul' : ∀ w, Calls Tryd.prog 14 #[.int .i64 y, .int .i64 z] w fun e w' => e = .returned (.tuple #[.int .i64 0, .int .i64 2]) ∧ w' = w := fun w => (hmul w).mono fun e w' h => ⟨by rw [h.1, ho]; rfl, h.2.symm⟩
        have HM := Lib.hid hmul'
        have hstop := prods_stop (by rw [Hlen.out]; exact hlt) (by rw [Hlen'.out]; exact hlt) HY.out HZ.out hR.out ho
        subst hstop
        clear ho hmul hmul'
        go_wp2_with fail
        go_quiet ((go_at_call 14; exact Calls.quiet_of_same (HM.out _)))
        go_wp2_with fail
        go_ret2
        exact ⟨rfl, by have := HNX.out; exact below_drewN this _⟩
      | some m =>
        have hm64 := mulO_bd ho
        have hmul' : ∀ w, Calls Tryd.prog 14 #[.int .i64 y, .int .i64 z] w fun e w' => e = .returned (.tuple #[.int .i64 m, .int .i64 0]) ∧ w' = w := fun w => (hmul w).mono fun e w' h => ⟨by rw [h.1, ho]; rfl, h.2.symm⟩
        have HM := Lib.hid hmul'
        have hnext := Lib.hid (prods_next (by rw [Hlen.out]; exact hlt) (by rw [Hlen'.out]; exact hlt) HY.out HZ.out hR.out ho)
        clear ho hmul hmul'
        go_wp2_with fail
        go_quiet ((go_at_call 14; exact Calls.quiet_of_same (HM.out _)))
        rename_i nq
        obtain ⟨w2, hw2⟩ : ∃ w2, w2 = wr.drewN nq := ⟨_, rfl⟩
        have hown2 : w2.ownsRow w.heap.size 3 1 u6 ps.length (ps.map (Value.int .i64)) := by rw [hw2]; exact HOWN.out
        have hnx2 : Below w.heap.size w w2 := by rw [hw2]; exact below_drewN HNX.out nq
        rw [← hw2]
        clear hw2 HOWN HNX hck hck2
        have hlen : ps.length ≤ k := by rw [HPL.out]; omega
        go_wp2_with (at_builtin; refine wpList_append_own _ rfl _ _ 27 rfl w.heap.size 3 i0 (.int .i64 0) 1 8 Tryd.underlying27 hi0 hz0 hz1 hz2 rfl (by decide) _ _ _ rfl (hown2.alloc _) ⟨w2.heap.size, 0, none⟩ 1 1 [.int .i64 m] rfl rfl ?c1 ?c2 ?c3 ?c4 ?c5 ?_)
        case c1 =>
          intro j u hj
          match j, hj with
          | 0, hj => simp at hj; subst hj; simp [Addr.add]
        case c2 => intro u hu; simp at hu; subst hu; rfl
        case c3 => unfold maxLen; omega
        case c4 => omega
        case c5 => have := hnx2.size; simp; omega
        intro v' w3 hown3 hgrow _
        have hnx3 : Below w.heap.size w w3 := (hnx2.alloc hnx2.size _).grown hgrow (by have := hnx2.size; simp; omega) (fun k hk => by
          obtain ⟨_, h2⟩ := hown2
          rcases h2 with ⟨rfl, _⟩ | ⟨g, cap, cur, rfl, hg, _⟩
          · simp [Value.ownBlock] at hk
          · simp [Value.ownBlock] at hk; omega)
        have HOWN3 : w3.ownsRow w.heap.size 3 1 v' (ps ++ [m]).length ((ps ++ [m]).map (Value.int .i64)) := by simpa using hown3
        clear hown3 hgrow hnx2 hown2
        have H3 := Lib.hid HOWN3
        have HX3 := Lib.hid hnx3
        clear HOWN3 hnx3
        go_wp2_with fail
        go_roundw
        case rel => exact ⟨k + 1, ps ++ [m], by omega, by go_num, by rw [List.length_append, HPL.out]; rfl, H3.out, in64_snoc hp64 hm64, HX3.out, hnext⟩
        case measure => simp [intOf]; omega
    · have hend := prods_end (by rw [Hlen.out]; exact hlt) hR.out
      subst hend
      obtain ⟨a', cap', rfl, hints⟩ := isInts_of_own hown hp64
      have htot := Lib.hid (rtotal_any a' ps.length cap' ps wr (by omega) hints)
      have HNX := Lib.hid hnx
      clear hT hR hown hints hnx hpl
      go_wp2_with (go_at_call 16; refine htot.out.mono ?_; rintro e w' ⟨rfl, rfl⟩)
      go_ret2
      exact ⟨rfl, HNX.out⟩
end Go.Proofs.YtjdpocoahinbfaaDoor
