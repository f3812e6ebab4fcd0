/-
  Join.
-/
import Derived.Test.YtjdpocoahinbfaaDoorWj
namespace Go.Proofs.YtjdpocoahinbfaaDoor
open Go.RowKit Go.Lib

def joinO (a b : C5) : Option C5 :=
  (addO a.a0 b.a0).bind fun s0 => (addO a.a1 b.a1).bind fun s1 => (addO a.a2 b.a2).bind fun s2 => (addO a.a3 b.a3).bind fun s3 => (addO a.a4 b.a4).bind fun s4 => some ⟨s0, s1, s2, s3, s4⟩

/-- A cost of five numbers of 64 bits. -/
def C64 (c : C5) : Prop := In64 c.a0 ∧ In64 c.a1 ∧ In64 c.a2 ∧ In64 c.a3 ∧ In64 c.a4

theorem joinc_some (ba bb bc : Nat) (a b s : C5) (x : Addr) (w : World) (hw : JW ba bb bc #[.int .i64 a.a0, .int .i64 a.a1, .int .i64 a.a2, .int .i64 a.a3, .int .i64 a.a4] #[.int .i64 b.a0, .int .i64 b.a1, .int .i64 b.a2, .int .i64 b.a3, .int .i64 b.a4] x w w #[.int .i64 0, .int .i64 0, .int .i64 0, .int .i64 0, .int .i64 0])
    (ha : C64 a) (hb : C64 b) (h : joinO a b = some s) :
    Calls Tryd.prog 33 #[.pointer (some ⟨ba, 0, none⟩), .pointer (some ⟨bb, 0, none⟩), .pointer (some ⟨bc, 0, none⟩)] w fun e w2 => EndsO x (some 0) e ∧
      (w.grownBy w2 (some bc) ∧ w2.heap[bc]? = some (.cells #[.int .i64 s.a0, .int .i64 s.a1, .int .i64 s.a2, .int .i64 s.a3, .int .i64 s.a4] 32 (0, 0)) ∧ Sent x w2) := by
  simp only [joinO, Option.bind_eq_some_iff] at h
  obtain ⟨s0, o0, s1, o1, s2, o2, s3, o3, s4, o4, h⟩ := h
  simp only [Option.some.injEq] at h
  subst h
  refine (joinc_ok ba bb bc _ _ _ _ _ _ _ _ _ _ s0 s1 s2 s3 s4 x w hw ha hb o0 o1 o2 o3 o4).mono ?_
  rintro e w2 ⟨h1, h2⟩
  exact ⟨h1, h2.grown, h2.hC, h2.sent⟩

theorem joinc_none (ba bb bc : Nat) (a b : C5) (x : Addr) (w : World) (hw : JW ba bb bc #[.int .i64 a.a0, .int .i64 a.a1, .int .i64 a.a2, .int .i64 a.a3, .int .i64 a.a4] #[.int .i64 b.a0, .int .i64 b.a1, .int .i64 b.a2, .int .i64 b.a3, .int .i64 b.a4] x w w #[.int .i64 0, .int .i64 0, .int .i64 0, .int .i64 0, .int .i64 0])
    (ha : C64 a) (hb : C64 b) (h : joinO a b = none) :
    Calls Tryd.prog 33 #[.pointer (some ⟨ba, 0, none⟩), .pointer (some ⟨bb, 0, none⟩), .pointer (some ⟨bc, 0, none⟩)] w fun e w2 => EndsO x none e ∧ w.grownBy w2 (some bc) := by
  cases o0 : addO a.a0 b.a0 with
  | none => exact joinc_bad0 ba bb bc _ _ _ _ _ _ _ _ _ _ x w hw ha hb o0
  | some s0 =>
    cases o1 : addO a.a1 b.a1 with
    | none => exact joinc_bad1 ba bb bc _ _ _ _ _ _ _ _ _ _ s0 x w hw ha hb o0 o1
    | some s1 =>
      cases o2 : addO a.a2 b.a2 with
      | none => exact joinc_bad2 ba bb bc _ _ _ _ _ _ _ _ _ _ s0 s1 x w hw ha hb o0 o1 o2
      | some s2 =>
        cases o3 : addO a.a3 b.a3 with
        | none => exact joinc_bad3 ba bb bc _ _ _ _ _ _ _ _ _ _ s0 s1 s2 x w hw ha hb o0 o1 o2 o3
        | some s3 =>
          cases o4 : addO a.a4 b.a4 with
          | none => exact joinc_bad4 ba bb bc _ _ _ _ _ _ _ _ _ _ s0 s1 s2 s3 x w hw ha hb o0 o1 o2 o3 o4
          | some s4 => simp [joinO, o0, o1, o2, o3, o4] at h

/-- New blocks, one behind the other. -/
theorem allocs_old : ∀ (os : List Obj) (w : World) (j : Nat), j < w.heap.size → (os.foldl World.alloc w).heap[j]? = w.heap[j]?
  | [], _, _, _ => rfl
  | o :: os, w, j, h => (allocs_old os (w.alloc o) j (by simp; omega)).trans (Below.heap_alloc w o j h)
theorem allocs_new : ∀ (os : List Obj) (w : World) (i : Nat) (o : Obj), os[i]? = some o → (os.foldl World.alloc w).heap[w.heap.size + i]? = some o
  | [], _, _, _, h => by simp at h
  | o' :: os, w, 0, o, h => by
    simp at h
    subst h
    exact (allocs_old os (w.alloc o') w.heap.size (by simp)).trans (heap_alloc_new w o')
  | o' :: os, w, i + 1, o, h => by
    have := allocs_new os (w.alloc o') i o (by simpa using h)
    rw [show w.heap.size + (i + 1) = (w.alloc o').heap.size + i from by simp; omega]
    exact this

def errC (o : Option C5) : Int := if o.isSome then 0 else 2

abbrev C5.arr (c : C5) : Array Value := #[.int .i64 c.a0, .int .i64 c.a1, .int .i64 c.a2, .int .i64 c.a3, .int .i64 c.a4]
/-- Join's world as within begins. -/
abbrev joinW (w : World) (a b : C5) : World := (((w.alloc (.cells a.arr 32)).alloc (.cells b.arr 32)).alloc (.cells #[.int .i64 0, .int .i64 0, .int .i64 0, .int .i64 0, .int .i64 0] 32)).alloc (.cells #[.int .i64 0, .int .i64 0, .int .i64 0, .int .i64 0, .int .i64 0] 32)

theorem joinW_jw (w : World) (a b : C5) (x : Addr) (hg : Sent x w) : JW w.heap.size (w.heap.size + 1) (w.heap.size + 3) a.arr b.arr x (((joinW w a b).alloc (.cells #[.int .i64 0] 3)).alloc (.cells #[.int .i64 0] 23)) (((joinW w a b).alloc (.cells #[.int .i64 0] 3)).alloc (.cells #[.int .i64 0] 23)) #[.int .i64 0, .int .i64 0, .int .i64 0, .int .i64 0, .int .i64 0] := by
  have hp := hg.pos
  have hB : Below w.heap.size w (((joinW w a b).alloc (.cells #[.int .i64 0] 3)).alloc (.cells #[.int .i64 0] 23)) := ((((((Below.refl _ _).alloc (Nat.le_refl _) _).alloc (by simp) _).alloc (by simp; omega) _).alloc (by simp; omega) _).alloc (by simp; omega) _).alloc (by simp; omega) _
  refine ⟨⟨rfl, rfl, rfl, Nat.le_refl _, fun _ _ _ => rfl⟩, ?_, ?_, ?_, hg.below hB hp, by omega, by omega, by omega⟩
  · exact allocs_new [.cells a.arr 32, .cells b.arr 32, .cells #[.int .i64 0, .int .i64 0, .int .i64 0, .int .i64 0, .int .i64 0] 32, .cells #[.int .i64 0, .int .i64 0, .int .i64 0, .int .i64 0, .int .i64 0] 32, .cells #[.int .i64 0] 3, .cells #[.int .i64 0] 23] w 0 _ rfl
  · exact allocs_new [.cells a.arr 32, .cells b.arr 32, .cells #[.int .i64 0, .int .i64 0, .int .i64 0, .int .i64 0, .int .i64 0] 32, .cells #[.int .i64 0, .int .i64 0, .int .i64 0, .int .i64 0, .int .i64 0] 32, .cells #[.int .i64 0] 3, .cells #[.int .i64 0] 23] w 1 _ rfl
  · exact allocs_new [.cells a.arr 32, .cells b.arr 32, .cells #[.int .i64 0, .int .i64 0, .int .i64 0, .int .i64 0, .int .i64 0] 32, .cells #[.int .i64 0, .int .i64 0, .int .i64 0, .int .i64 0, .int .i64 0] 32, .cells #[.int .i64 0] 3, .cells #[.int .i64 0] 23] w 3 _ rfl

/-- within, around Join's closure. -/
theorem join_within (a b : C5) (x : Addr) (w : World) (ha : C64 a) (hb : C64 b) (hg : Sent x w) :
    Calls Tryd.prog 25 #[.func (.func 33) #[] #[.pointer (some ⟨w.heap.size, 0, none⟩), .pointer (some ⟨w.heap.size + 1, 0, none⟩), .pointer (some ⟨w.heap.size + 3, 0, none⟩)]] (joinW w a b) fun e w' =>
      e = .returned (.tuple #[.int .i64 0, .int .i64 (errC (joinO a b))]) ∧ Below w.heap.size w w' ∧ w'.heap[w.heap.size + 2]? = some (.cells #[.int .i64 0, .int .i64 0, .int .i64 0, .int .i64 0, .int .i64 0] 32 (0, 0)) ∧
      ∀ s, joinO a b = some s → w'.heap[w.heap.size + 3]? = some (.cells s.arr 32 (0, 0)) := by
  have hsz : (joinW w a b).heap.size = w.heap.size + 4 := by simp
  have hB : Below w.heap.size w (((joinW w a b).alloc (.cells #[.int .i64 0] 3)).alloc (.cells #[.int .i64 0] 23)) := ((((((Below.refl _ _).alloc (Nat.le_refl _) _).alloc (by simp) _).alloc (by simp; omega) _).alloc (by simp; omega) _).alloc (by simp; omega) _).alloc (by simp; omega) _
  have hjw := joinW_jw w a b x hg
  have s2 : (((joinW w a b).alloc (.cells #[.int .i64 0] 3)).alloc (.cells #[.int .i64 0] 23)).heap.size = w.heap.size + 6 := by simp
  have two : (((joinW w a b).alloc (.cells #[.int .i64 0] 3)).alloc (.cells #[.int .i64 0] 23)).heap[w.heap.size + 2]? = some (.cells #[.int .i64 0, .int .i64 0, .int .i64 0, .int .i64 0, .int .i64 0] 32 (0, 0)) := by
    exact allocs_new [.cells a.arr 32, .cells b.arr 32, .cells #[.int .i64 0, .int .i64 0, .int .i64 0, .int .i64 0, .int .i64 0] 32, .cells #[.int .i64 0, .int .i64 0, .int .i64 0, .int .i64 0, .int .i64 0] 32, .cells #[.int .i64 0] 3, .cells #[.int .i64 0] 23] w 2 _ rfl
  have four : (((joinW w a b).alloc (.cells #[.int .i64 0] 3)).alloc (.cells #[.int .i64 0] 23)).heap[w.heap.size + 4]? = some (.cells #[.int .i64 0] 3 (0, 0)) := by
    exact allocs_new [.cells a.arr 32, .cells b.arr 32, .cells #[.int .i64 0, .int .i64 0, .int .i64 0, .int .i64 0, .int .i64 0] 32, .cells #[.int .i64 0, .int .i64 0, .int .i64 0, .int .i64 0, .int .i64 0] 32, .cells #[.int .i64 0] 3, .cells #[.int .i64 0] 23] w 4 _ rfl
  have five : (((joinW w a b).alloc (.cells #[.int .i64 0] 3)).alloc (.cells #[.int .i64 0] 23)).heap[w.heap.size + 5]? = some (.cells #[.int .i64 0] 23 (0, 0)) := by
    exact allocs_new [.cells a.arr 32, .cells b.arr 32, .cells #[.int .i64 0, .int .i64 0, .int .i64 0, .int .i64 0, .int .i64 0] 32, .cells #[.int .i64 0, .int .i64 0, .int .i64 0, .int .i64 0, .int .i64 0] 32, .cells #[.int .i64 0] 3, .cells #[.int .i64 0] 23] w 5 _ rfl
  generalize hV : ((joinW w a b).alloc (.cells #[.int .i64 0] 3)).alloc (.cells #[.int .i64 0] 23) = V at *
  -- what a world that has grown from V by the row of the sums alone keeps
  have keep : ∀ w2, V.grownBy w2 (some (w.heap.size + 3)) → w2.heap[w.heap.size + 2]? = some (.cells #[.int .i64 0, .int .i64 0, .int .i64 0, .int .i64 0, .int .i64 0] 32 (0, 0)) ∧ w2.heap[w.heap.size + 4]? = some (.cells #[.int .i64 0] 3 (0, 0)) ∧ w2.heap[w.heap.size + 5]? = some (.cells #[.int .i64 0] 23 (0, 0)) ∧ Below w.heap.size w w2 := fun w2 h =>
    ⟨(h.block _ (by omega) (by simp)).trans two, (h.block _ (by omega) (by simp)).trans four, (h.block _ (by omega) (by simp)).trans five, hB.grown h (by omega) (fun k hk => by injection hk; omega)⟩
  cases ho : joinO a b with
  | some s =>
    refine (within_any 33 _ x (some 0) (fun w2 => V.grownBy w2 (some (w.heap.size + 3)) ∧ w2.heap[w.heap.size + 3]? = some (.cells s.arr 32 (0, 0)) ∧ Sent x w2) (joinW w a b) enter33 ?_ ?_ ?_).mono ?_
    · rw [hV]; exact joinc_some _ _ _ a b s x V hjw ha hb ho
    · rintro w2 ⟨h1, _, _⟩
      obtain ⟨_, k4, k5, _⟩ := keep w2 h1
      rw [hsz]; exact ⟨k4, k5⟩
    · rintro w2 ⟨_, _, h3⟩; exact h3
    · rintro e w' ⟨rfl, w2, ⟨h1, h2, _⟩, rfl⟩
      obtain ⟨k2, _, _, kb⟩ := keep w2 h1
      rw [hsz]
      refine ⟨rfl, (kb.setCell (by simp) _).setCell (by simp; omega) _, ?_, fun s' hs => ?_⟩
      · rw [heap_setCell_other _ _ _ _ (by simp), heap_setCell_other _ _ _ _ (by simp)]; exact k2
      · injection hs with hs; subst hs
        rw [heap_setCell_other _ _ _ _ (by simp), heap_setCell_other _ _ _ _ (by simp)]; exact h2
  | none =>
    refine (within_any 33 _ x none (fun w2 => V.grownBy w2 (some (w.heap.size + 3))) (joinW w a b) enter33 ?_ ?_ ?_).mono ?_
    · rw [hV]; exact joinc_none _ _ _ a b x V hjw ha hb ho
    · intro w2 h1
      obtain ⟨_, k4, k5, _⟩ := keep w2 h1
      rw [hsz]; exact ⟨k4, k5⟩
    · intro w2 h1
      have hs := hjw.sent
      show w2.cell? ⟨0, 0, none⟩ = _
      unfold Sent at hs
      rw [World.cell?_of_block (w := V) (h1.block 0 (by omega) (by simp))]
      exact hs
    · rintro e w' ⟨rfl, w2, h1, rfl⟩
      obtain ⟨k2, _, _, kb⟩ := keep w2 h1
      rw [hsz]
      refine ⟨rfl, (kb.setCell (by simp) _).setCell (by simp; omega) _, ?_, fun s' hs => by cases hs⟩
      rw [heap_setCell_other _ _ _ _ (by simp), heap_setCell_other _ _ _ _ (by simp)]; exact k2

def joinV (o : Option C5) : C5 := o.getD ⟨0, 0, 0, 0, 0⟩

theorem Join_any (a b : C5) (x : Addr) (w : World) (ha : C64 a) (hb : C64 b) (hg : Sent x w) :
    Calls Tryd.prog 21 #[a.v, b.v] w fun e w' => e = .returned (.tuple #[(joinV (joinO a b)).v, .int .i64 (errC (joinO a b))]) ∧ Below w.heap.size w w' := by
  have hmf : ∀ (fn : Fn) (first cap : Array Value) (w : World), (Instr.makeFunc fn first cap).run Tryd.prog w = .ok (.func fn first cap) w := fun _ _ _ _ => rfl
  have hw := Lib.hid (join_within a b x w ha hb hg)
  clear hg
  cases ho : joinO a b with
  | some s =>
    rw [ho] at hw
    clear ho
    go_enter Tryd.func21, Tryd.ntmps21
    go_wp2_with fail
    refine hw.out.mono ?_
    rintro e w2 ⟨rfl, hbw, h2, h3⟩
    have HB := Lib.hid hbw
    have d0 : w2.cell? ⟨w.heap.size + 1 + 1, 0, none⟩ = some (.int .i64 0) := by simp [World.cell?, h2]
    have f0 : w2.frozen? ⟨w.heap.size + 1 + 1, 0, none⟩ = false := by simp [World.frozen?, h2]
    have d1 : w2.cell? ⟨w.heap.size + 1 + 1, 1, none⟩ = some (.int .i64 0) := by simp [World.cell?, h2]
    have f1 : w2.frozen? ⟨w.heap.size + 1 + 1, 1, none⟩ = false := by simp [World.frozen?, h2]
    have d2 : w2.cell? ⟨w.heap.size + 1 + 1, 2, none⟩ = some (.int .i64 0) := by simp [World.cell?, h2]
    have f2 : w2.frozen? ⟨w.heap.size + 1 + 1, 2, none⟩ = false := by simp [World.frozen?, h2]
    have d3 : w2.cell? ⟨w.heap.size + 1 + 1, 3, none⟩ = some (.int .i64 0) := by simp [World.cell?, h2]
    have f3 : w2.frozen? ⟨w.heap.size + 1 + 1, 3, none⟩ = false := by simp [World.frozen?, h2]
    have d4 : w2.cell? ⟨w.heap.size + 1 + 1, 4, none⟩ = some (.int .i64 0) := by simp [World.cell?, h2]
    have f4 : w2.frozen? ⟨w.heap.size + 1 + 1, 4, none⟩ = false := by simp [World.frozen?, h2]
    have e0 : w2.cell? ⟨w.heap.size + 1 + 1 + 1, 0, none⟩ = some (.int .i64 s.a0) := by simp [World.cell?, h3 s rfl]
    have e1 : w2.cell? ⟨w.heap.size + 1 + 1 + 1, 1, none⟩ = some (.int .i64 s.a1) := by simp [World.cell?, h3 s rfl]
    have e2 : w2.cell? ⟨w.heap.size + 1 + 1 + 1, 2, none⟩ = some (.int .i64 s.a2) := by simp [World.cell?, h3 s rfl]
    have e3 : w2.cell? ⟨w.heap.size + 1 + 1 + 1, 3, none⟩ = some (.int .i64 s.a3) := by simp [World.cell?, h3 s rfl]
    have e4 : w2.cell? ⟨w.heap.size + 1 + 1 + 1, 4, none⟩ = some (.int .i64 s.a4) := by simp [World.cell?, h3 s rfl]
    clear h2 h3 hbw
    have he : errC (some s) = 0 := rfl
    rw [he]
    clear he
    go_wp2_with fail
    refine bodyPost_ret (v := .tuple #[.agg #[.int .i64 s.a0, .int .i64 s.a1, .int .i64 s.a2, .int .i64 s.a3, .int .i64 s.a4], .int .i64 0]) (by simp [results, Tryd.results21, go_sem, d0, d1, d2, d3, d4]) rfl ⟨rfl, ?_⟩
    exact ((((HB.out.setCell (by simp; omega) _).setCell (by simp; omega) _).setCell (by simp; omega) _).setCell (by simp; omega) _).setCell (by simp; omega) _
  | none =>
    rw [ho] at hw
    clear ho
    go_enter Tryd.func21, Tryd.ntmps21
    go_wp2_with fail
    refine hw.out.mono ?_
    rintro e w2 ⟨rfl, hbw, h2, _⟩
    have HB := Lib.hid hbw
    have d0 : w2.cell? ⟨w.heap.size + 1 + 1, 0, none⟩ = some (.int .i64 0) := by simp [World.cell?, h2]
    have f0 : w2.frozen? ⟨w.heap.size + 1 + 1, 0, none⟩ = false := by simp [World.frozen?, h2]
    have d1 : w2.cell? ⟨w.heap.size + 1 + 1, 1, none⟩ = some (.int .i64 0) := by simp [World.cell?, h2]
    have f1 : w2.frozen? ⟨w.heap.size + 1 + 1, 1, none⟩ = false := by simp [World.frozen?, h2]
    have d2 : w2.cell? ⟨w.heap.size + 1 + 1, 2, none⟩ = some (.int .i64 0) := by simp [World.cell?, h2]
    have f2 : w2.frozen? ⟨w.heap.size + 1 + 1, 2, none⟩ = false := by simp [World.frozen?, h2]
    have d3 : w2.cell? ⟨w.heap.size + 1 + 1, 3, none⟩ = some (.int .i64 0) := by simp [World.cell?, h2]
    have f3 : w2.frozen? ⟨w.heap.size + 1 + 1, 3, none⟩ = false := by simp [World.frozen?, h2]
    have d4 : w2.cell? ⟨w.heap.size + 1 + 1, 4, none⟩ = some (.int .i64 0) := by simp [World.cell?, h2]
    have f4 : w2.frozen? ⟨w.heap.size + 1 + 1, 4, none⟩ = false := by simp [World.frozen?, h2]
    clear h2 hbw
    have he : errC none = 2 := rfl
    rw [he]
    clear he
    go_wp2_with fail
    refine bodyPost_ret (v := .tuple #[.agg #[.int .i64 0, .int .i64 0, .int .i64 0, .int .i64 0, .int .i64 0], .int .i64 2]) (by simp [results, Tryd.results21, go_sem, d0, d1, d2, d3, d4]) rfl ⟨rfl, ?_⟩
    exact ((((HB.out.setCell (by simp; omega) _).setCell (by simp; omega) _).setCell (by simp; omega) _).setCell (by simp; omega) _).setCell (by simp; omega) _
end Go.Proofs.YtjdpocoahinbfaaDoor
