/-
  The document's answer: a Rank of the reference as it lies in memory; New, is, Of, Has, Len, above.
-/
import Derived.Test.YtbihcdjamdkinaaLc
import Derived.BigRegion
namespace Go.Proofs.Ytbihcdjamdkinaa
open Go.RowKit Go.Lib
attribute [local go_sem ↓] Go.wp_at_zero Go.wp_at_succ

/-- A row of bools. -/
def OwnB (w : World) (v : Value) (bs : List Bool) : Prop := w.ownsRow 0 4 1 v bs.length (bs.map Value.bool)
theorem OwnB.store {w : World} {g n cap : Nat} {bs : List Bool} (h : OwnB w (.slice (some ⟨g, 0, none⟩) n cap) bs) (j : Nat) (z : Bool) :
    OwnB (w.setCell ⟨g, j, none⟩ (.bool z)) (.slice (some ⟨g, 0, none⟩) n cap) (bs.set j z) := by
  have hn : n = bs.length := by
    rcases h.2 with ⟨h, _⟩ | ⟨g', cap', cur, hv, _⟩
    · cases h
    · injection hv
  subst hn
  have := (World.ownsRow.stored h j (.bool z)).1
  unfold OwnB
  simpa using this
theorem OwnB.setCell {w : World} {v : Value} {bs : List Bool} (h : OwnB w v bs) {a : Addr} (ha : v.ownBlock ≠ some a.block) (u : Value) : OwnB (w.setCell a u) v bs := ownsRow_setCell_other h ha u
theorem OwnB.kept {w w' : World} {v : Value} {bs : List Bool} (h : OwnB w v bs) (hk : ∀ k, v.ownBlock = some k → w'.heap[k]? = w.heap[k]?) : OwnB w' v bs := by
  obtain ⟨h1, h2⟩ := h
  refine ⟨h1, ?_⟩
  rcases h2 with h2 | ⟨g, cap, cur, hv, hg, hh, r⟩
  · exact .inl h2
  · exact .inr ⟨g, cap, cur, hv, hg, by rw [hk g (by rw [hv]; rfl)]; exact hh, r⟩
theorem OwnB.lt {w : World} {v : Value} {bs : List Bool} (h : OwnB w v bs) : ∀ k, v.ownBlock = some k → k < w.heap.size := fun k e => (World.ownsRow.lt h k e).2
theorem OwnB.at {w : World} {g n c : Nat} {bs : List Bool} (h : OwnB w (.slice (some ⟨g, 0, none⟩) n c) bs) (j : Nat) (hj : j < bs.length) : w.cell? ⟨g, j, none⟩ = some (.bool (bs.getD j false)) ∧ w.frozen? ⟨g, j, none⟩ = false := by
  have hn : n = bs.length := by
    rcases h.2 with ⟨h, _⟩ | ⟨g', cap', cur, hv, _⟩
    · cases h
    · injection hv
  subst hn
  refine ⟨?_, World.ownsRow.frozenAt h j⟩
  rw [World.ownsRow.cellAt h j (by omega)]
  simp [hj]
theorem OwnI.at' {w : World} {g n c : Nat} {es : List Int} (h : OwnI w 0 (.slice (some ⟨g, 0, none⟩) n c) es) (j : Nat) (hj : j < es.length) : w.cell? ⟨g, j, none⟩ = some (.int .i64 (es.getD j 0)) ∧ w.frozen? ⟨g, j, none⟩ = false := by
  have hn : n = es.length := by
    rcases h.2 with ⟨h, _⟩ | ⟨g', cap', cur, hv, _⟩
    · cases h
    · injection hv
  subst hn
  refine ⟨?_, World.ownsRow.frozenAt h j⟩
  rw [World.ownsRow.cellAt h j (by omega)]
  simp [hj]

/-- Which are in, from the first. -/
def bl (I : Nat → Bool) (n : Nat) : List Bool := (List.range n).map fun j => I (j + 1)
theorem bl_len (I : Nat → Bool) (n : Nat) : (bl I n).length = n := by simp [bl]
theorem bl_getD {I : Nat → Bool} {n j : Nat} (h : j < n) : (bl I n).getD j false = I (j + 1) := by simp [bl, h]
theorem bl_set {I : Nat → Bool} {n j : Nat} (x : Bool) : (bl I n).set j x = bl (upd I (j + 1) x) n := by
  apply List.ext_getElem
  · simp [bl]
  · intro k h1 h2
    simp only [bl, List.length_set, List.length_map, List.length_range] at h1
    by_cases e : j = k
    · subst e; simp [bl, upd]
    · simp [bl, upd, e]; omega
theorem tail_getD (A : List Int) (j : Nat) : A.tail.getD j 0 = A.getD (j + 1) 0 := by cases A <;> simp
theorem tail_set (A : List Int) (j : Nat) (x : Int) : A.tail.set j x = (A.set (j + 1) x).tail := by cases A <;> simp

/-- A Rank of the reference, at block m; its rows lie in blocks ga, gi. -/
structure RefAt (w : World) (m ga gi n : Nat) (A : List Int) (I : Nat → Bool) (sc : Int) : Prop where
  box : w.heap[m]? = some (.cells #[.slice (some ⟨ga, 0, none⟩) n n, .slice (some ⟨gi, 0, none⟩) n n, .int .i64 sc] 52 (0, 0))
  a : OwnI w 0 (.slice (some ⟨ga, 0, none⟩) n n) A.tail
  i : OwnB w (.slice (some ⟨gi, 0, none⟩) n n) (bl I n)
  len : A.length = n + 1
  ma : m ≠ ga
  mi : m ≠ gi
  ai : ga ≠ gi
  hn : n ≤ 20000

/-- All but the blocks of a Rank of the reference. -/
def NotRef (m ga gi : Nat) : Nat → Prop := fun k => k ≠ m ∧ k ≠ ga ∧ k ≠ gi

section
variable {w : World} {m ga gi n : Nat} {A : List Int} {I : Nat → Bool} {sc : Int}

theorem RefAt.c0 (h : RefAt w m ga gi n A I sc) : w.cell? ⟨m, 0, none⟩ = some (.slice (some ⟨ga, 0, none⟩) n n) := by simp [World.cell?, h.box]
theorem RefAt.c1 (h : RefAt w m ga gi n A I sc) : w.cell? ⟨m, 1, none⟩ = some (.slice (some ⟨gi, 0, none⟩) n n) := by simp [World.cell?, h.box]
theorem RefAt.c2 (h : RefAt w m ga gi n A I sc) : w.cell? ⟨m, 2, none⟩ = some (.int .i64 sc) := by simp [World.cell?, h.box]
theorem RefAt.fr (h : RefAt w m ga gi n A I sc) (o : Nat) : w.frozen? ⟨m, o, none⟩ = false := by simp [World.frozen?, h.box]
theorem RefAt.ca (h : RefAt w m ga gi n A I sc) (j : Nat) (hj : j < n) : w.cell? ⟨ga, j, none⟩ = some (.int .i64 (A.getD (j + 1) 0)) ∧ w.frozen? ⟨ga, j, none⟩ = false := by
  have := h.a.at' j (by rw [List.length_tail, h.len]; omega)
  rwa [tail_getD] at this
theorem RefAt.ci (h : RefAt w m ga gi n A I sc) (j : Nat) (hj : j < n) : w.cell? ⟨gi, j, none⟩ = some (.bool (I (j + 1))) ∧ w.frozen? ⟨gi, j, none⟩ = false := by
  have := h.i.at j (by rw [bl_len]; exact hj)
  rwa [bl_getD hj] at this
theorem RefAt.kept {w' : World} (h : RefAt w m ga gi n A I sc) (hk : ∀ k, k = m ∨ k = ga ∨ k = gi → w'.heap[k]? = w.heap[k]?) : RefAt w' m ga gi n A I sc :=
  { h with
    box := by rw [hk m (.inl rfl)]; exact h.box
    a := h.a.kept fun k e => hk k (.inr (.inl (by simpa [Value.ownBlock] using e.symm)))
    i := h.i.kept fun k e => hk k (.inr (.inr (by simpa [Value.ownBlock] using e.symm))) }
theorem RefAt.at (h : RefAt w m ga gi n A I sc) : m < w.heap.size ∧ ga < w.heap.size ∧ gi < w.heap.size := ⟨lt_of_block h.box, (h.a.lt _ rfl).2, h.i.lt _ rfl⟩
theorem RefAt.below {w' : World} (h : RefAt w m ga gi n A I sc) (hb : Below w.heap.size w w') : RefAt w' m ga gi n A I sc := by
  obtain ⟨h1, h2, h3⟩ := h.at
  exact h.kept fun k hk => hb.block k (by omega)
theorem RefAt.drew (h : RefAt w m ga gi n A I sc) : RefAt w.drew m ga gi n A I sc := h.kept fun _ _ => rfl
theorem RefAt.storeA (h : RefAt w m ga gi n A I sc) (j : Nat) (z : Int) : RefAt (w.setCell ⟨ga, j, none⟩ (.int .i64 z)) m ga gi n (A.set (j + 1) z) I sc :=
  { h with
    box := by rw [Below.heap_setCell _ _ _ _ h.ma]; exact h.box
    a := by rw [← tail_set]; exact h.a.store j z
    i := h.i.setCell (a := ⟨ga, j, none⟩) (by simp [Value.ownBlock]; exact fun e => h.ai e.symm) _
    len := by rw [List.length_set]; exact h.len }
theorem RefAt.storeI (h : RefAt w m ga gi n A I sc) (j : Nat) (z : Bool) : RefAt (w.setCell ⟨gi, j, none⟩ (.bool z)) m ga gi n A (upd I (j + 1) z) sc :=
  { h with
    box := by rw [Below.heap_setCell _ _ _ _ h.mi]; exact h.box
    a := h.a.setCell (a := ⟨gi, j, none⟩) (by simp [Value.ownBlock]; exact h.ai) _
    i := by rw [← bl_set]; exact h.i.store j z }
theorem RefAt.storeS (h : RefAt w m ga gi n A I sc) (z : Int) : RefAt (w.setCell ⟨m, 2, none⟩ (.int .i64 z)) m ga gi n A I z :=
  { h with
    box := by simp [World.setCell, Array.getElem?_modify, h.box]
    a := h.a.setCell (a := ⟨m, 2, none⟩) (by simp [Value.ownBlock]; exact fun e => h.ma e.symm) _
    i := h.i.setCell (a := ⟨m, 2, none⟩) (by simp [Value.ownBlock]; exact fun e => h.mi e.symm) _ }

theorem ris_yes (h : RefAt w m ga gi n A I sc) (v : Int) (hv : 1 ≤ v ∧ v ≤ n) : Calls Try.prog 45 #[.pointer (some ⟨m, 0, none⟩), .int .i64 v] w fun e w' => e = .returned (.bool true) ∧ w' = w := by
  have b0 := h.c0
  have d1 : decide (1 ≤ v) = true := by simp; omega
  have d2 : decide (v ≤ n) = true := by simp; omega
  clear h hv
  go_enter Try.func45, Try.ntmps45
  go_wp2_with fail
  go_ret
  exact ⟨rfl, rfl⟩
theorem ris_no (h : RefAt w m ga gi n A I sc) (v : Int) (hv : ¬ (1 ≤ v ∧ v ≤ n)) : Calls Try.prog 45 #[.pointer (some ⟨m, 0, none⟩), .int .i64 v] w fun e w' => e = .returned (.bool false) ∧ w' = w := by
  have b0 := h.c0
  by_cases h1 : 1 ≤ v
  · have d1 : decide (1 ≤ v) = true := by simp; omega
    have d2 : decide (v ≤ n) = false := by simp; omega
    clear h hv h1
    go_enter Try.func45, Try.ntmps45
    go_wp2_with fail
    go_ret
    exact ⟨rfl, rfl⟩
  · have d1 : decide (1 ≤ v) = false := by simpa using h1
    clear h hv h1
    go_enter Try.func45, Try.ntmps45
    go_wp2_with fail
    go_ret
    exact ⟨rfl, rfl⟩

theorem rrOf (h : RefAt w m ga gi n A I sc) (v : Int) : Calls Try.prog 26 #[.pointer (some ⟨m, 0, none⟩), .int .i64 v] w fun e w' => e = .returned (.int .i64 (ofV n A v)) ∧ w' = w := by
  by_cases hv : 1 ≤ v ∧ v ≤ n
  · obtain ⟨j, rfl⟩ : ∃ j : Nat, v = (j : Int) + 1 := ⟨(v - 1).toNat, by omega⟩
    have C := Lib.hid (ris_yes h _ hv)
    rw [show ofV n A ((j : Int) + 1) = A.getD (j + 1) 0 from by unfold ofV; rw [if_pos hv]; congr 1]
    have b0 := h.c0
    obtain ⟨cj, _⟩ := h.ca j (by omega)
    have hn := h.hn
    have e1 : IntKind.i64.wrap ((j : Int) + 1 - 1) = j := by simp [IntKind.wrap, IntKind.signed, IntKind.bits]; omega
    have e2 : (j : Int) + 1 - 1 = j := by omega
    have hj : j < n := by omega
    generalize A.getD (j + 1) 0 = x at *
    clear h hv
    go_enter Try.func26, Try.ntmps26
    go_wp2_with (go_at_call 45; refine C.out.mono ?_; rintro e w' ⟨rfl, rfl⟩)
    go_ret
    exact ⟨rfl, rfl⟩
  · rw [show ofV n A v = 0 from if_neg hv]
    have C := Lib.hid (ris_no h _ hv)
    clear h hv
    go_enter Try.func26, Try.ntmps26
    go_wp2_with (go_at_call 45; refine C.out.mono ?_; rintro e w' ⟨rfl, rfl⟩)
    go_ret
    exact ⟨rfl, rfl⟩

theorem rrHas (h : RefAt w m ga gi n A I sc) (v : Int) : Calls Try.prog 28 #[.pointer (some ⟨m, 0, none⟩), .int .i64 v] w fun e w' => e = .returned (.bool (hasV n I v)) ∧ w' = w := by
  by_cases hv : 1 ≤ v ∧ v ≤ n
  · obtain ⟨j, rfl⟩ : ∃ j : Nat, v = (j : Int) + 1 := ⟨(v - 1).toNat, by omega⟩
    have C := Lib.hid (ris_yes h _ hv)
    rw [show hasV n I ((j : Int) + 1) = I (j + 1) from by
      unfold hasV; rw [decide_eq_true hv, Bool.true_and]; congr 1]
    have b1 := h.c1
    obtain ⟨cj, _⟩ := h.ci j (by omega)
    have hn := h.hn
    have e1 : IntKind.i64.wrap ((j : Int) + 1 - 1) = j := by simp [IntKind.wrap, IntKind.signed, IntKind.bits]; omega
    have e2 : (j : Int) + 1 - 1 = j := by omega
    have hj : j < n := by omega
    generalize I (j + 1) = x at *
    clear h hv
    go_enter Try.func28, Try.ntmps28
    go_wp2_with (go_at_call 45; refine C.out.mono ?_; rintro e w' ⟨rfl, rfl⟩)
    go_ret
    exact ⟨rfl, rfl⟩
  · rw [show hasV n I v = false from by unfold hasV; rw [decide_eq_false hv, Bool.false_and]]
    have C := Lib.hid (ris_no h _ hv)
    clear h hv
    go_enter Try.func28, Try.ntmps28
    go_wp2_with (go_at_call 45; refine C.out.mono ?_; rintro e w' ⟨rfl, rfl⟩)
    go_ret
    exact ⟨rfl, rfl⟩

set_option maxRecDepth 100000 in
set_option maxHeartbeats 1000000 in
theorem rrLen (h : RefAt w m ga gi n A I sc) : Calls Try.prog 25 #[.pointer (some ⟨m, 0, none⟩)] w fun e w' => e = .returned (.int .i64 (cnt I n : Nat)) ∧ w' = w := by
  have b1 := h.c1
  have HC := Lib.hid (fun j hj => (h.ci j hj).1)
  have hn := h.hn
  clear h
  go_enter Try.func25, Try.ntmps25
  go_wp2_with fail
  go_loop [3, 4] (fun cv vi => ∃ k : Nat, k ≤ n ∧ vi = .int .i64 k ∧ cv = .int .i64 (cnt I k : Nat)) (fun _ vi => n - (intOf vi).toNat)
  case atStart => exact ⟨0, Nat.zero_le _, rfl, rfl⟩
  case round =>
    obtain ⟨k, hk, rfl, rfl⟩ := hrel
    by_cases hlt : k < n
    · have ck := HC.out k hlt
      have hle := cnt_le I k
      cases hb : I (k + 1) with
      | true =>
        have HN : Hid (cnt I (k + 1) = cnt I k + 1) := Lib.hid (by show cnt I k + (if I (k + 1) then 1 else 0) = _; rw [hb]; rfl)
        rw [hb] at ck
        generalize cnt I k = q at *
        clear hb
        go_wp2_with fail
        go_round
        case rel => exact ⟨k + 1, by omega, by go_num, by rw [HN.out]; go_num⟩
        case measure => simp [intOf]; omega
      | false =>
        have HN : Hid (cnt I (k + 1) = cnt I k) := Lib.hid (by show cnt I k + (if I (k + 1) then 1 else 0) = _; rw [hb]; rfl)
        rw [hb] at ck
        generalize cnt I k = q at *
        clear hb
        go_wp2_with fail
        go_round
        case rel => exact ⟨k + 1, by omega, by go_num, by rw [HN.out]⟩
        case measure => simp [intOf]; omega
    · obtain rfl : k = n := by omega
      go_wp2_with fail
      go_ret
      exact ⟨rfl, rfl⟩
end
end Go.Proofs.Ytbihcdjamdkinaa
