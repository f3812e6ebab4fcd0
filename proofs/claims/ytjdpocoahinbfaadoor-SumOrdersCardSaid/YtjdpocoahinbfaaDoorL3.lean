/-
  SumTotals: the walk.
-/
import Derived.Test.YtjdpocoahinbfaaDoorL2
import Derived.Test.YtjdpocoahinbfaaDoorRc
namespace Go.Proofs.YtjdpocoahinbfaaDoor
open Go.RowKit Go.Lib Go.ChangeShapes Go.WideShapes Go.ChangeAt

theorem rdot_ne (a b : Option Addr) (len lenb cap capb : Nat) (w : World) (hne : len ≠ lenb) :
    Calls Tryd.prog 18 #[.slice a len cap, .slice b lenb capb] w fun e w' => e = .returned (.tuple #[.int .i64 0, .int .i64 1]) ∧ Below w.heap.size w w' := by
  have h0 : ((len : Int) != (lenb : Int)) = true := by simp; omega
  go_enter Tryd.func18, Tryd.ntmps18
  go_wp2_with fail
  go_ret2
  exact ⟨rfl, Below.refl _ _⟩

/-- Dot, of rows of whatever lengths: the number and the error. -/
def dotV (la lb : Nat) (es fs : List Int) : Int := if la = lb then valO (dotO es fs) else 0
def dotE (la lb : Nat) (es fs : List Int) : Int := if la = lb then errO (dotO es fs) else 1

theorem Dot_all (a b : Option Addr) (la lb cap capb : Nat) (es fs : List Int) (x : Addr) (w : World) (hl : la ≤ 1000000) (hi : IsInts w a la es) (hj : IsInts w b lb fs) (hg : Sent x w) :
    Calls Tryd.prog 17 #[.slice a la cap, .slice b lb capb] w fun e w' => e = .returned (.tuple #[.int .i64 (dotV la lb es fs), .int .i64 (dotE la lb es fs)]) ∧ Below w.heap.size w w' := by
  by_cases h : la = lb
  · subst h
    unfold dotV dotE
    rw [if_pos rfl, if_pos rfl]
    exact Dot_any a b la cap capb es fs x w hl hi hj hg
  · unfold dotV dotE
    rw [if_neg h, if_neg h]
    exact Dot_ne a b la lb cap capb w h
theorem rdot_all (a b : Option Addr) (la lb cap capb : Nat) (es fs : List Int) (w : World) (hl : la ≤ 1000000) (hi : IsInts w a la es) (hj : IsInts w b lb fs) :
    Calls Tryd.prog 18 #[.slice a la cap, .slice b lb capb] w fun e w' => e = .returned (.tuple #[.int .i64 (dotV la lb es fs), .int .i64 (dotE la lb es fs)]) ∧ Below w.heap.size w w' := by
  by_cases h : la = lb
  · subst h
    unfold dotV dotE
    rw [if_pos rfl, if_pos rfl]
    exact rdot_any a b la cap capb es fs w hl hi hj
  · unfold dotV dotE
    rw [if_neg h, if_neg h]
    exact rdot_ne a b la lb cap capb w h

theorem totals_core (a b : Option Addr) (la ca lb cb : Nat) (es fs : List Int) (x : Addr) (w : World) (h1 : la ≤ 2000) (h2 : lb ≤ 2000) (hi : IsInts w a la es) (hj : IsInts w b lb fs) (hg : Sent x w) :
    Calls Tryd.prog 4 #[.slice a la ca, .slice b lb cb] w fun e w' => e = .returned (.bool true) ∧ Below w.heap.size w w' := by
  have H := Lib.hid hg
  have I := Lib.hid hi
  have J := Lib.hid hj
  have d1 : decide ((2000 : Int) < la) = false := by simp; omega
  have d2 : decide ((2000 : Int) < lb) = false := by simp; omega
  clear hg hi hj
  go_enter Tryd.func4, Tryd.ntmps4
  go_wp2_with fail
  refine (shown_any x _ H.out).mono ?_
  rintro r w1 ⟨rfl, b1⟩
  have H1 := Lib.hid b1; clear b1
  go_wp2_with fail
  refine (Total_any a la ca es x _ (by omega) (I.out.below H1.out.bel (Nat.le_refl _)) H1.out.sent).mono ?_
  rintro r w2 ⟨rfl, b2⟩
  have H2 := Lib.hid (H1.out.call b2); clear b2
  go_wp2_with fail
  refine (rtotal_any a la ca es _ (by omega) (I.out.below H2.out.bel (Nat.le_refl _))).mono ?_
  rintro r w3 ⟨rfl, rfl⟩
  go_wp2_with fail
  refine (Dot_all a b la lb ca cb es fs x _ (by omega) (I.out.below H2.out.bel (Nat.le_refl _)) (J.out.below H2.out.bel (Nat.le_refl _)) H2.out.sent).mono ?_
  rintro r w4 ⟨rfl, b4⟩
  have H4 := Lib.hid (H2.out.call b4); clear b4
  go_wp2_with fail
  refine (rdot_all a b la lb ca cb es fs _ (by omega) (I.out.below H4.out.bel (Nat.le_refl _)) (J.out.below H4.out.bel (Nat.le_refl _))).mono ?_
  rintro r w5 ⟨rfl, b5⟩
  have H5 := Lib.hid (H4.out.call b5); clear b5
  go_wp2_with fail
  refine (Dot_all a a la la ca ca es es x _ (by omega) (I.out.below H5.out.bel (Nat.le_refl _)) (I.out.below H5.out.bel (Nat.le_refl _)) H5.out.sent).mono ?_
  rintro r w6 ⟨rfl, b6⟩
  have H6 := Lib.hid (H5.out.call b6); clear b6
  go_wp2_with fail
  refine (rdot_all a a la la ca ca es es _ (by omega) (I.out.below H6.out.bel (Nat.le_refl _)) (I.out.below H6.out.bel (Nat.le_refl _))).mono ?_
  rintro r w7 ⟨rfl, b7⟩
  have H7 := Lib.hid (H6.out.call b7); clear b7
  go_wp2_with fail
  go_ret
  exact ⟨rfl, H7.out.bel⟩

theorem totals_big (a b : Option Addr) (la ca lb cb : Nat) (x : Addr) (w : World) (h : 2000 < la ∨ 2000 < lb) (hg : Sent x w) :
    Calls Tryd.prog 4 #[.slice a la ca, .slice b lb cb] w fun e w' => e = .returned (.bool true) ∧ Below w.heap.size w w' := by
  have H := Lib.hid hg
  clear hg
  by_cases h1 : 2000 < la
  · have d1 : decide ((2000 : Int) < la) = true := by simp; omega
    clear h h1
    go_enter Tryd.func4, Tryd.ntmps4
    go_wp2_with fail
    refine (shown_any x _ H.out).mono ?_
    rintro r w1 ⟨rfl, b1⟩
    have H1 := Lib.hid b1; clear b1
    go_wp2_with fail
    go_ret
    exact ⟨rfl, H1.out.bel⟩
  · have d1 : decide ((2000 : Int) < la) = false := by simp; omega
    have d2 : decide ((2000 : Int) < lb) = true := by simp; omega
    clear h h1
    go_enter Tryd.func4, Tryd.ntmps4
    go_wp2_with fail
    refine (shown_any x _ H.out).mono ?_
    rintro r w1 ⟨rfl, b1⟩
    have H1 := Lib.hid b1; clear b1
    go_wp2_with fail
    go_ret
    exact ⟨rfl, H1.out.bel⟩

theorem totals_walk (a : Option Addr) (la ca : Nat) (es : List Int) (b : Option Addr) (lb cb : Nat) (fs : List Int) (x : Addr) (w : World) (hi : IsInts w a la es) (_ : la ≤ maxLen) (hj : IsInts w b lb fs) (_ : lb ≤ maxLen) (hg : Sent x w) :
    Calls Tryd.prog 4 #[.slice a la ca, .slice b lb cb] w fun e w' => e = .returned (.bool true) ∧ Below w.heap.size w w' := by
  by_cases h : 2000 < la ∨ 2000 < lb
  · exact totals_big a b la ca lb cb x w h hg
  · exact totals_core a b la ca lb cb es fs x w (by omega) (by omega) hi hj hg

/-! ### what came in, as the walks are told it -/
theorem in64_mem {l : List Int} (h : ∀ n ∈ l, (Lit.int .i64 n).wf = true) : ∀ n ∈ l, In64 n := fun n hn => in64_of_wf (h n hn)

theorem isInts_of_trod {H : Type} {enc : TypeId × Value → H} {W : World} {a : Option Addr} {len cap : Nat} {d : DataW H} {p : List MemPlace}
    (h : DataW.Trod enc Tryd.prog W 0 (fun _ => true) true 27 (.slice a len cap) d p) : ∃ es, IsInts W a len es ∧ len ≤ maxLen := by
  obtain ⟨fuel, hf⟩ := h
  rcases open_ints Tryd.underlying27 Tryd.underlying3 (by kernel_rfl) hf with ⟨hcs, _⟩ | ⟨x, l, c, zs, hcs, _, hl, hm, hz, _, hcell, hwz⟩
  · simp [Value.cells] at hcs
    obtain ⟨rfl, rfl, rfl⟩ := hcs
    exact ⟨[], ⟨rfl, .inl rfl, by simp⟩, Nat.zero_le _⟩
  · simp [Value.cells] at hcs
    obtain ⟨rfl, rfl, rfl⟩ := hcs
    have hz' : zs.length = cap := by simpa using hz
    refine ⟨zs.take len, ⟨by simp; omega, ?_, fun n hn => in64_mem hwz n (List.mem_of_mem_take hn)⟩, by omega⟩
    by_cases h0 : len = 0
    · exact .inl h0
    · obtain ⟨b, off, rfl, hc⟩ := ints_at hcell (by omega)
      have hlt : b < W.heap.size := by
        have h1 := hc 0 (by omega)
        rcases Nat.lt_or_ge b W.heap.size with h' | h'
        · exact h'
        · have : W.heap[b]? = none := Array.getElem?_eq_none h'
          simp [World.cell?, this] at h1
      refine .inr ⟨b, off, rfl, hlt, fun i hi => ?_⟩
      rw [hc i (by omega)]
      have e : (zs.take len).getD i 0 = zs.getD i 0 := by simp [hi]
      rw [e]
end Go.Proofs.YtjdpocoahinbfaaDoor
