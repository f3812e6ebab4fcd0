/-
  What comes in: numbers, rows of numbers, rows of rows, rows of acts.
-/
import Derived.Test.YtngegkgmenfelaaXd
import Derived.Test.YtngegkgmenfelaaGk
import Derived.Deep.Slices
import Derived.OpenShut
namespace Go.Proofs.Ytngegkgmenfelaa
open Go.RowKit Go.Lib Go.ChangeShapes Go.WideShapes

theorem in64_of_wf {a : Int} (h : (Lit.int .i64 a).wf = true) : In64 a := by
  have := bounds_i64 h
  exact ⟨by omega, by omega⟩

theorem reads_cells {H : Type} {enc : TypeId × Value → H} {W : World} {fuel : Nat} {cs : List Value} {y : DataW H × List MemPlace}
    (h : DataW.trod enc Try.prog W 0 (fun _ => true) true fuel 23 cs = some y) : ∃ a len cap es, cs = [.slice a len cap] ∧ es.length = len ∧ Reads W (.slice a len cap) es ∧ ∀ x ∈ es, In64 x := by
  rcases open_ints Try.underlying23 Try.underlying3 (by kernel_rfl) h with ⟨hcs, _⟩ | ⟨x, l, c, zs, hcs, _, hl, hm, hz, _, hcell, hwz⟩
  · exact ⟨none, 0, 0, [], hcs, rfl, .inl ⟨⟨_, _, rfl⟩, rfl⟩, by simp⟩
  · have hz' : zs.length = c := by simpa using hz
    refine ⟨some x, l, c, zs.take l, hcs, by simp; omega, ?_, fun n hn => in64_of_wf (hwz n (List.mem_of_mem_take hn))⟩
    by_cases h0 : l = 0
    · subst h0; exact .inl ⟨⟨_, _, rfl⟩, by simp⟩
    · obtain ⟨b, off, rfl, hc⟩ := _root_.Go.ints_at hcell (by omega)
      have hlt : b < W.heap.size := by
        have h1 := hc 0 (by omega)
        rcases Nat.lt_or_ge b W.heap.size with h' | h'
        · exact h'
        · have : W.heap[b]? = none := Array.getElem?_eq_none h'
          simp [World.cell?, this] at h1
      have hle : (zs.take l).length = l := by simp; omega
      refine .inr ⟨b, off, c, by rw [hle], hlt, fun i hi => ?_⟩
      rw [hle] at hi
      rw [hc i (by omega)]
      have e : (zs.take l).getD i 0 = zs.getD i 0 := by simp [hi]
      rw [e]

theorem reads_of_trod {H : Type} {enc : TypeId × Value → H} {W : World} {a : Option Addr} {len cap : Nat} {d : DataW H} {p : List MemPlace}
    (h : DataW.Trod enc Try.prog W 0 (fun _ => true) true 23 (.slice a len cap) d p) : ∃ es, Reads W (.slice a len cap) es ∧ ∀ x ∈ es, In64 x := by
  obtain ⟨fuel, hf⟩ := h
  obtain ⟨a', l', c', es, hcs, _, h1, h2⟩ := reads_cells hf
  simp [Value.cells] at hcs
  obtain ⟨rfl, rfl, rfl⟩ := hcs
  exact ⟨es, h1, h2⟩

theorem block_lt {W : World} {a : Addr} {u : Value} (h : W.cell? a = some u) : a.block < W.heap.size := by
  rcases Nat.lt_or_ge a.block W.heap.size with h' | h'
  · exact h'
  · have : W.heap[a.block]? = none := Array.getElem?_eq_none h'
    simp [World.cell?, this] at h

theorem readsL_of_trod {H : Type} {enc : TypeId × Value → H} {W : World} {a : Option Addr} {len cap : Nat} {d : DataW H} {p : List MemPlace}
    (h : DataW.Trod enc Try.prog W 0 (fun _ => true) true 22 (.slice a len cap) d p) : ∃ L, ReadsL W (.slice a len cap) L ∧ In64L L := by
  obtain ⟨fuel, hf⟩ := h
  have e1 : Try.prog.cellsOf 23 = 1 := by kernel_rfl
  rcases Deep.open_slice Try.underlying22 hf with ⟨hcs, _⟩ | ⟨x, l, c, m, n, D, Pl, hcs, _, hl, hm, hmm, _, hel⟩
  · simp [Value.cells] at hcs
    obtain ⟨rfl, rfl, rfl⟩ := hcs
    exact ⟨[], .inl ⟨⟨_, _, rfl⟩, rfl⟩, fun c hc => by cases hc⟩
  · simp [Value.cells] at hcs
    obtain ⟨rfl, rfl, rfl⟩ := hcs
    rw [e1] at hel
    have hm' : m = cap := by simpa using hmm
    subst hm'
    have each : ∀ i, i < len → ∃ q : Value × List Int, W.cell? (x.add i) = some q.1 ∧ Reads W q.1 q.2 ∧ ∀ y ∈ q.2, In64 y := fun i hi => by
      obtain ⟨cs', h1, h2⟩ := hel i (by omega)
      obtain ⟨a', l', c', es, rfl, _, h3, h4⟩ := reads_cells h2
      have := (World.cells?_some h1).2.2 0 (by omega)
      rw [Nat.mul_one] at this
      refine ⟨(.slice a' l' c', es), ?_, h3, h4⟩
      simpa [Addr.add] using this
    have : Inhabited (Value × List Int) := ⟨(undef, [])⟩
    obtain ⟨f, hf'⟩ := Deep.choose_lt each
    have hlen : ((List.range len).map (fun i => (f i).2)).length = len := by simp
    have hget : ∀ i, i < len → ((List.range len).map (fun i => (f i).2)).getD i [] = (f i).2 := fun i hi => by simp [hi]
    refine ⟨(List.range len).map (fun i => (f i).2), ?_, fun c hc => ?_⟩
    · by_cases h0 : len = 0
      · subst h0; exact .inl ⟨⟨_, _, rfl⟩, by simp⟩
      · have q0 := (hf' 0 (by omega)).1
        have lt := block_lt q0
        obtain ⟨b, off, spot⟩ := x
        have hspot : spot = none := by simpa [Addr.add] using World.cell?_spot q0
        subst hspot
        refine .inr ⟨b, off, m, fun i => (f i).1, by rw [hlen], lt, fun i hi => ?_⟩
        rw [hlen] at hi
        rw [hget i hi]
        have r := hf' i hi
        rw [Go.WideShapes.add_plain] at r
        exact ⟨r.1, r.2.1⟩
    · obtain ⟨i, hi, rfl⟩ := List.mem_map.1 hc
      exact (hf' i (List.mem_range.1 hi)).2.2

/-- An act: of raw numbers. -/
structure ActV where
  op : Int
  n : Int
  c : List Int
def a0 : ActV := ⟨0, 0, []⟩
def ActV.ok (c : ActV) : Prop := In64 c.op ∧ In64 c.n ∧ ∀ x ∈ c.c, In64 x
/-- A slice value that reads as these acts. -/
def ReadsA (w : World) (s : Value) (L : List ActV) : Prop :=
  ((∃ a c, s = .slice a 0 c) ∧ L = []) ∨ ∃ b off c, ∃ vs : Nat → Value, s = .slice (some ⟨b, off, none⟩) L.length c ∧ b < w.heap.size ∧ ∀ j, j < L.length →
    w.cell? ⟨b, off + j * 3, none⟩ = some (.int .i64 (L.getD j a0).op) ∧ w.cell? ⟨b, off + j * 3 + 1, none⟩ = some (.int .i64 (L.getD j a0).n) ∧ w.cell? ⟨b, off + j * 3 + 2, none⟩ = some (vs j) ∧ Reads w (vs j) (L.getD j a0).c
theorem ReadsA.below {w w' : World} {s : Value} {L : List ActV} {n : Nat} (h : ReadsA w s L) (hb : Below n w w') (hn : w.heap.size ≤ n) : ReadsA w' s L := by
  rcases h with h | ⟨b, off, c, vs, e, h1, h2⟩
  · exact .inl h
  · refine .inr ⟨b, off, c, vs, e, Nat.lt_of_lt_of_le h1 hb.size, fun j hj => ?_⟩
    obtain ⟨c0, c1, c2, c3⟩ := h2 j hj
    exact ⟨(hb.cell (p := ⟨b, _, none⟩) (by simp; omega)).trans c0, (hb.cell (p := ⟨b, _, none⟩) (by simp; omega)).trans c1, (hb.cell (p := ⟨b, _, none⟩) (by simp; omega)).trans c2, c3.below hb hn⟩
theorem ReadsA.form {w : World} {s : Value} {L : List ActV} (h : ReadsA w s L) : ∃ a c, s = .slice a L.length c := by
  rcases h with ⟨⟨a, c, rfl⟩, rfl⟩ | ⟨b, off, c, vs, rfl, _⟩
  · exact ⟨a, c, rfl⟩
  · exact ⟨_, _, rfl⟩

theorem act_cells {H : Type} {enc : TypeId × Value → H} {W : World} {fuel : Nat} {cs : List Value} {y : DataW H × List MemPlace}
    (h : DataW.trod enc Try.prog W 0 (fun _ => true) true fuel 44 cs = some y) :
    ∃ (q : Value × ActV), cs = [.int .i64 q.2.op, .int .i64 q.2.n, q.1] ∧ Reads W q.1 q.2.c ∧ q.2.ok := by
  obtain ⟨xs, m, _, _, hl, hx, hi⟩ := DataW.trod_struct Try.underlying44 h
  have e3 : Try.prog.cellsOf 44 = 3 := by kernel_rfl
  have e1 : Try.prog.cellsOf 3 = 1 := by kernel_rfl
  have e2 : Try.prog.cellsOf 23 = 1 := by kernel_rfl
  rw [e3] at hl
  match cs, hl with
  | [v0, v1, v2], _ =>
    match xs, hx with
    | [x0, x1, x2], _ =>
      have i0 := hi 0 _ rfl
      have i1 := hi 1 _ rfl
      have i2 := hi 2 _ rfl
      obtain ⟨a0, q0, _, w0⟩ := DataW.trod_int Try.underlying3 i0
      obtain ⟨a1, q1, _, w1⟩ := DataW.trod_int Try.underlying3 i1
      obtain ⟨a', l', c', es, q2, _, r1, r2⟩ := reads_cells i2
      simp [e1, e2] at q0 q1 q2
      subst q0 q1 q2
      exact ⟨(_, ⟨a0, a1, es⟩), rfl, r1, in64_of_wf w0, in64_of_wf w1, r2⟩

theorem readsA_of_trod {H : Type} {enc : TypeId × Value → H} {W : World} {a : Option Addr} {len cap : Nat} {d : DataW H} {p : List MemPlace}
    (h : DataW.Trod enc Try.prog W 0 (fun _ => true) true 36 (.slice a len cap) d p) : ∃ L, ReadsA W (.slice a len cap) L ∧ ∀ c ∈ L, c.ok := by
  obtain ⟨fuel, hf⟩ := h
  have e5 : Try.prog.cellsOf 44 = 3 := by kernel_rfl
  rcases Deep.open_slice Try.underlying36 hf with ⟨hcs, _⟩ | ⟨x, l, c, m, n, D, Pl, hcs, _, hl, hm, hmm, _, hel⟩
  · simp [Value.cells] at hcs
    obtain ⟨rfl, rfl, rfl⟩ := hcs
    exact ⟨[], .inl ⟨⟨_, _, rfl⟩, rfl⟩, fun c hc => by cases hc⟩
  · simp [Value.cells] at hcs
    obtain ⟨rfl, rfl, rfl⟩ := hcs
    rw [e5] at hel
    have hm' : m = cap := by simpa using hmm
    subst hm'
    have each : ∀ i, i < len → ∃ q : Value × ActV, (∀ k, k < 3 → W.cell? ((x.add (i * 3)).add k) = [Value.int .i64 q.2.op, Value.int .i64 q.2.n, q.1][k]?) ∧ Reads W q.1 q.2.c ∧ q.2.ok := fun i hi => by
      obtain ⟨cs', h1, h2⟩ := hel i (by omega)
      obtain ⟨q, rfl, h3, hok⟩ := act_cells h2
      exact ⟨q, (World.cells?_some h1).2.2, h3, hok⟩
    have : Inhabited (Value × ActV) := ⟨(undef, a0)⟩
    obtain ⟨f, hf'⟩ := Deep.choose_lt each
    have hlen : ((List.range len).map (fun i => (f i).2)).length = len := by simp
    have hget : ∀ i, i < len → ((List.range len).map (fun i => (f i).2)).getD i a0 = (f i).2 := fun i hi => by simp [hi]
    refine ⟨(List.range len).map (fun i => (f i).2), ?_, fun c hc => ?_⟩
    · by_cases h0 : len = 0
      · subst h0; exact .inl ⟨⟨_, _, rfl⟩, by simp⟩
      · have q0 := (hf' 0 (by omega)).1 0 (by omega)
        have lt : x.block < W.heap.size := block_lt q0
        obtain ⟨b, off, spot⟩ := x
        have hspot : spot = none := by simpa [Addr.add] using World.cell?_spot q0
        subst hspot
        refine .inr ⟨b, off, m, fun i => (f i).1, by rw [hlen], lt, fun i hi => ?_⟩
        rw [hlen] at hi
        rw [hget i hi]
        have r0 := (hf' i hi).1 0 (by omega)
        have r1 := (hf' i hi).1 1 (by omega)
        have r2 := (hf' i hi).1 2 (by omega)
        simp only [Go.WideShapes.add_plain] at r0 r1 r2
        exact ⟨r0, r1, r2, (hf' i hi).2.1⟩
    · obtain ⟨i, hi, rfl⟩ := List.mem_map.1 hc
      exact (hf' i (List.mem_range.1 hi)).2.2
end Go.Proofs.Ytngegkgmenfelaa
