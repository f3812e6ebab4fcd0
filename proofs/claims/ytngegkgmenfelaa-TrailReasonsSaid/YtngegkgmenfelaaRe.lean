/-
  The document's trail: given, Follow.
-/
import Derived.Test.YtngegkgmenfelaaRd
import Derived.Test.YtngegkgmenfelaaLb
namespace Go.Proofs.Ytngegkgmenfelaa
open Go.RowKit Go.Lib
attribute [local go_sem ↓] Go.wp_at_zero Go.wp_at_succ

/-- What is known, as literals. -/
def givenTo (A : List Int) (k : Nat) : List Int := (List.range k).flatMap fun i => if A.getD i 0 = 0 then [] else [((i : Int) + 1) * A.getD i 0]
theorem givenTo_snoc (A : List Int) (k : Nat) : givenTo A (k + 1) = givenTo A k ++ (if A.getD k 0 = 0 then [] else [((k : Int) + 1) * A.getD k 0]) := by
  unfold givenTo
  rw [List.range_succ, List.flatMap_append, List.flatMap_singleton]
theorem givenTo_len (A : List Int) (k : Nat) : (givenTo A k).length ≤ k := by
  induction k with
  | zero => simp [givenTo]
  | succ k ih =>
    rw [givenTo_snoc, List.length_append]
    split
    · simp; omega
    · simp; omega
theorem givenTo_mem {A : List Int} (h3 : Three A) (x : Int) : x ∈ givenTo A A.length ↔ litA A x = 1 := by
  unfold givenTo
  rw [List.mem_flatMap]
  constructor
  · rintro ⟨i, hi, hx⟩
    have hi := List.mem_range.1 hi
    split at hx
    · cases hx
    · rename_i h0
      have hx := List.mem_singleton.1 hx
      have h1 := h3 _ (mem_getD (d := 0) hi)
      unfold litA
      rcases h1 with h1 | h1 | h1
      · rw [h1] at hx
        obtain rfl : x = -((i : Int) + 1) := by omega
        rw [if_pos ((okLit_iff _ _).2 (by omega)), if_pos (by omega), show (-((i : Int) + 1)).natAbs - 1 = i from by omega, h1]; rfl
      · exact absurd h1 h0
      · rw [h1] at hx
        obtain rfl : x = (i : Int) + 1 := by omega
        rw [if_pos ((okLit_iff _ _).2 (by omega)), if_neg (by omega), show ((i : Int) + 1).natAbs - 1 = i from by omega, h1]
  · intro hx
    have ho := (okLit_iff _ _).1 (litA_ok (A := A) (x := x) (by omega))
    refine ⟨x.natAbs - 1, List.mem_range.2 (by omega), ?_⟩
    unfold litA at hx
    rw [if_pos ((okLit_iff _ _).2 ho)] at hx
    split at hx
    · rename_i hneg
      have e : A.getD (x.natAbs - 1) 0 = -1 := by omega
      rw [e, if_neg (by omega)]
      exact List.mem_singleton.2 (by omega)
    · have e : A.getD (x.natAbs - 1) 0 = 1 := hx
      rw [e, if_neg (by omega)]
      exact List.mem_singleton.2 (by omega)

variable {w : World} {M S : Nat → Prop} {p : Nat} {R : Ref}

theorem RefAt.known (h : RefAt w M S p R) : ∃ a c, w.cell? ⟨p, 4, none⟩ = some (.slice a R.A.length c) ∧ Stays S w fun w2 => Reads w2 (.slice a R.A.length c) R.A := by
  obtain ⟨val, ct, vA, hm, ht⟩ := h
  obtain ⟨a, c, rfl⟩ := ht.A.now.form
  exact ⟨a, c, hm.bcell 4, ht.A⟩

def givRel (w : World) (A : List Int) (k : Nat) (v : Value) (wr : World) : Prop := Row wr 3 1 v (ints (givenTo A k)) ∧ Fresh w v ∧ Below w.heap.size w wr
theorem givRel.next {w w2 w3 : World} {A : List Int} {k : Nat} {v v' : Value} (hf : Fresh w v) (hb : Below w.heap.size w w2) (h0 : A.getD k 0 ≠ 0) (hr : Row w3 3 1 v' (ints (givenTo A k) ++ [.int .i64 (((k : Int) + 1) * A.getD k 0)])) (hg : Grew w2 w3 v v') : givRel w A (k + 1) v' w3 := by
  refine ⟨?_, fun j hj => ?_, hb.grown hg.1 hb.size (fun j hj => hf j hj)⟩
  · rw [givenTo_snoc, if_neg h0]; unfold ints at hr ⊢; rw [List.map_append]; exact hr
  · rcases hg.2 with e | ⟨i, e, hi⟩
    · exact hf j (by rw [← e]; exact hj)
    · rw [e] at hj; injection hj with hj; have := hb.size; omega

set_option maxRecDepth 1000000 in
set_option maxHeartbeats 4000000 in
theorem given_any (h : RefAt w M S p R) (h3 : Three R.A) (hl : R.A.length ≤ 20000) :
    Calls Try.prog 62 #[.pointer (some ⟨p, 0, none⟩)] w fun e w' => ∃ v, e = .returned v ∧ Row w' 3 1 v (ints (givenTo R.A R.A.length)) ∧ Fresh w v ∧ Below w.heap.size w w' := by
  have hp := h.sizeP
  have H := Lib.hid h
  have H3 := Lib.hid h3
  obtain ⟨q, hq⟩ : ∃ q, R.A.length = q := ⟨_, rfl⟩
  have HQ := Lib.hid hq
  rw [hq] at hl ⊢
  have REL0 : givRel w R.A 0 (.slice none 0 0) w := ⟨Row.nil _ _ _, fun k hk => by simp [Value.ownBlock] at hk, Below.refl _ _⟩
  clear h h3 hq
  go_enter Try.func62, Try.ntmps62
  go_wp2_with fail
  as_aux_lemma =>
  go_loopw [3, 4] (fun v3 v4 wr => ∃ (k : Nat) (va : Value), k ≤ q ∧ v4 = .int .i64 k ∧ va = v3 ∧ givRel w R.A k va wr) (fun _ v4 _ => q - (intOf v4).toNat)
  case atStart => exact ⟨0, _, Nat.zero_le _, rfl, rfl, REL0⟩
  case round =>
    clear REL0
    obtain ⟨k, va, hk, rfl, rfl, hrow, hfr, hbel⟩ := hrel
    obtain ⟨aA, cA, c4, hst⟩ := (H.out.below hbel).known
    rw [HQ.out] at c4 hst
    have hpr : p < wr.heap.size := by have := hbel.size; omega
    by_cases hlt : k < q
    · have hkA : k < R.A.length := by rw [HQ.out]; exact hlt
      obtain ⟨bb, off, rfl, ck⟩ := hst.now.get hkA
      have h3k := H3.out _ (mem_getD (d := 0) hkA)
      have hk1 : (k : Int) < (q : Int) := by omega
      have hk0 : (0 : Int) ≤ (k : Int) := by omega
      have HLEN := Lib.hid (givenTo_len R.A k)
      rcases h3k with e | e | e
      · have HNX : Hid (∀ w6, Below wr.heap.size wr w6 → Row w6 3 1 va (ints (givenTo R.A k)) ∧ ∀ v' w', Row w' 3 1 v' (ints (givenTo R.A k) ++ [.int .i64 (-((k : Int) + 1))]) → Grew w6 w' va v' → givRel w R.A (k + 1) v' w') := Lib.hid fun w6 b6 =>
          ⟨hrow.kept fun j hj => b6.block j (hrow.lt j hj), fun v' w' h1 h2 => givRel.next hfr (hbel.trans (b6.mono hbel.size)) (by omega) (by rw [e, show ((k : Int) + 1) * -1 = -((k : Int) + 1) from by omega]; exact h1) h2⟩
        rw [e] at ck
        have HN2 := Lib.hid (HNX.out (wr.alloc (.cells #[.int .i64 (-((k : Int) + 1))] 3)) ((Below.refl _ _).alloc (Nat.le_refl _) _))
        have HONE := Lib.hid (Row.one wr 3 (.int .i64 (-((k : Int) + 1))))
        have hw1 : IntKind.i64.wrap (((k : Int) + 1) * -1) = -((k : Int) + 1) := by rw [show ((k : Int) + 1) * -1 = -((k : Int) + 1) from by omega]; exact wrap_i64 (by omega)
        have hw2 : wrap64 (-((k : Int) + 1)) = -((k : Int) + 1) := by unfold wrap64; omega
        have hw3 : IntKind.i64.wrap (-((k : Int) + 1)) = -((k : Int) + 1) := wrap_i64 (by omega)
        generalize hxs : ints (givenTo R.A k) = xs at *
        have HXL : Hid (xs.length ≤ 20000) := Lib.hid (by rw [← hxs, ints_len]; have := HLEN.out; omega)
        clear hrow hfr hbel hst hkA e hxs HNX
        as_aux_lemma =>
        go_wp2_with (at_builtin; refine wpList_appS rfl (.tmp 22) (.tmp 33) rfl va xs [.int .i64 (-((k : Int) + 1))] rfl HN2.out.1 (some ⟨wr.heap.size, 0, none⟩) 1 1 rfl (.inr ⟨_, rfl, fun j u hj => one_at HONE.out hj⟩) rfl (by intro u hu; rw [List.mem_singleton.1 hu]; rfl) (by have := HXL.out; omega) ?_; intro v' w7 h1 h2; have H1 := Lib.hid (HN2.out.2 v' w7 h1 h2); clear h1 h2)
        go_roundw
        case rel => exact ⟨k + 1, v', by omega, by go_num, rfl, H1.out⟩
        case measure => simp [intOf]; omega
      · have HN : Hid (givRel w R.A (k + 1) va wr) := Lib.hid ⟨by rw [givenTo_snoc, if_pos e, List.append_nil]; exact hrow, hfr, hbel⟩
        rw [e] at ck
        clear hrow hfr hbel hst hkA e
        as_aux_lemma =>
        go_wp2_with fail
        go_roundw
        case rel => exact ⟨k + 1, va, by omega, by go_num, rfl, HN.out⟩
        case measure => simp [intOf]; omega
      · have HNX : Hid (∀ w6, Below wr.heap.size wr w6 → Row w6 3 1 va (ints (givenTo R.A k)) ∧ ∀ v' w', Row w' 3 1 v' (ints (givenTo R.A k) ++ [.int .i64 ((k : Int) + 1)]) → Grew w6 w' va v' → givRel w R.A (k + 1) v' w') := Lib.hid fun w6 b6 =>
          ⟨hrow.kept fun j hj => b6.block j (hrow.lt j hj), fun v' w' h1 h2 => givRel.next hfr (hbel.trans (b6.mono hbel.size)) (by omega) (by rw [e, show ((k : Int) + 1) * 1 = (k : Int) + 1 from by omega]; exact h1) h2⟩
        rw [e] at ck
        have HN2 := Lib.hid (HNX.out (wr.alloc (.cells #[.int .i64 ((k : Int) + 1)] 3)) ((Below.refl _ _).alloc (Nat.le_refl _) _))
        have HONE := Lib.hid (Row.one wr 3 (.int .i64 ((k : Int) + 1)))
        have hw1 : IntKind.i64.wrap (((k : Int) + 1) * 1) = (k : Int) + 1 := by rw [show ((k : Int) + 1) * 1 = (k : Int) + 1 from by omega]; exact wrap_i64 (by omega)
        have hw2 : wrap64 ((k : Int) + 1) = (k : Int) + 1 := by unfold wrap64; omega
        have hw3 : IntKind.i64.wrap ((k : Int) + 1) = (k : Int) + 1 := wrap_i64 (by omega)
        generalize hxs : ints (givenTo R.A k) = xs at *
        have HXL : Hid (xs.length ≤ 20000) := Lib.hid (by rw [← hxs, ints_len]; have := HLEN.out; omega)
        clear hrow hfr hbel hst hkA e hxs HNX
        as_aux_lemma =>
        go_wp2_with (at_builtin; refine wpList_appS rfl (.tmp 22) (.tmp 33) rfl va xs [.int .i64 ((k : Int) + 1)] rfl HN2.out.1 (some ⟨wr.heap.size, 0, none⟩) 1 1 rfl (.inr ⟨_, rfl, fun j u hj => one_at HONE.out hj⟩) rfl (by intro u hu; rw [List.mem_singleton.1 hu]; rfl) (by have := HXL.out; omega) ?_; intro v' w7 h1 h2; have H1 := Lib.hid (HN2.out.2 v' w7 h1 h2); clear h1 h2)
        go_roundw
        case rel => exact ⟨k + 1, v', by omega, by go_num, rfl, H1.out⟩
        case measure => simp [intOf]; omega
    · obtain rfl : k = q := by omega
      have HRW := Lib.hid hrow
      have HFR := Lib.hid hfr
      have HBL := Lib.hid hbel
      clear hrow hfr hbel hst
      as_aux_lemma =>
      go_wp2_with fail
      go_ret
      exact ⟨va, rfl, HRW.out, HFR.out, HBL.out⟩
end Go.Proofs.Ytngegkgmenfelaa
