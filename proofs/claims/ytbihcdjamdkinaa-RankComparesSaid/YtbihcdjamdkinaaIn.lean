/-
  What comes in: numbers, rows of floats' bits, rows of acts.
-/
import Derived.Test.YtbihcdjamdkinaaSh
import Derived.Deep.Slices
import Derived.OpenShut
namespace Go.Proofs.Ytbihcdjamdkinaa
open Go.RowKit Go.Lib Go.ChangeShapes Go.WideShapes

theorem in64_of_wf {a : Int} (h : (Lit.int .i64 a).wf = true) : In64 a := by
  have := bounds_i64 h
  exact ⟨by omega, by omega⟩
def U64 (a : Int) : Prop := 0 ≤ a ∧ a < 18446744073709551616
theorem u64_of_wf {a : Int} (h : (Lit.int .u64 a).wf = true) : U64 a := by
  have := bounds_u64 h
  exact ⟨by omega, by omega⟩

theorem isU_of_trod {H : Type} {enc : TypeId × Value → H} {W : World} {a : Option Addr} {len cap : Nat} {d : DataW H} {p : List MemPlace}
    (h : DataW.Trod enc Try.prog W 0 (fun _ => true) true 23 (.slice a len cap) d p) : ∃ es, IsU W a len es ∧ len ≤ maxLen ∧ ∀ x ∈ es, U64 x := by
  obtain ⟨fuel, hf⟩ := h
  rcases open_ints Try.underlying23 Try.underlying22 (by kernel_rfl) hf with ⟨hcs, _⟩ | ⟨x, l, c, zs, hcs, _, hl, hm, hz, _, hcell, hwz⟩
  · simp [Value.cells] at hcs
    obtain ⟨rfl, rfl, rfl⟩ := hcs
    exact ⟨[], ⟨rfl, .inl rfl⟩, Nat.zero_le _, by simp⟩
  · simp [Value.cells] at hcs
    obtain ⟨rfl, rfl, rfl⟩ := hcs
    have hz' : zs.length = cap := by simpa using hz
    refine ⟨zs.take len, ⟨by simp; omega, ?_⟩, by omega, fun n hn => u64_of_wf (hwz n (List.mem_of_mem_take hn))⟩
    by_cases h0 : len = 0
    · exact .inl h0
    · obtain ⟨b, off, rfl, hc⟩ := ints_at hcell (by omega)
      have hlt : b < W.heap.size := by
        have h1 := hc 0 (by omega)
        rcases Nat.lt_or_ge b W.heap.size with h' | h'
        · exact h'
        · have : W.heap[b]? = none := Array.getElem?_eq_none h'
          simp [World.cell?, this] at h1
      refine .inr ⟨b, off, rfl, hlt, fun i hi => ?_⟩
      rw [hc i (by omega)]
      have e : (zs.take len).getD i 0 = zs.getD i 0 := by simp [hi]
      rw [e]

/-- An act: of raw numbers. -/
structure Act3 where
  op : Int
  v : Int
  by' : Int
def a0 : Act3 := ⟨0, 0, 0⟩
def Act3.ok (c : Act3) : Prop := In64 c.op ∧ In64 c.v ∧ In64 c.by'
def actAt (ac : List Act3) (i : Nat) : Act3 := ac.getD i a0
/-- The acts that a slice holds. -/
def IsActs (w : World) (a : Option Addr) (len : Nat) (ac : List Act3) : Prop :=
  ac.length = len ∧ (len = 0 ∨ ∃ b off, a = some ⟨b, off, none⟩ ∧ b < w.heap.size ∧ ∀ i, i < len →
    w.cell? ⟨b, off + i * 3, none⟩ = some (.int .i64 (actAt ac i).op) ∧ w.cell? ⟨b, off + i * 3 + 1, none⟩ = some (.int .i64 (actAt ac i).v) ∧ w.cell? ⟨b, off + i * 3 + 2, none⟩ = some (.int .i64 (actAt ac i).by')) ∧ ∀ i, i < len → (actAt ac i).ok

theorem IsActs.below {w w' : World} {a : Option Addr} {len : Nat} {ac : List Act3} {B : Nat} (h : IsActs w a len ac) (hb : Below B w w') (hB : w.heap.size ≤ B) : IsActs w' a len ac := by
  refine ⟨h.1, ?_, h.2.2⟩
  rcases h.2.1 with h | ⟨b, off, e, hl, hc⟩
  · exact .inl h
  · have hb' : b < B := Nat.lt_of_lt_of_le hl hB
    refine .inr ⟨b, off, e, Nat.lt_of_lt_of_le hl hb.size, fun i hi => ?_⟩
    obtain ⟨h0, h1, h2⟩ := hc i hi
    exact ⟨(hb.cell (p := ⟨b, _, none⟩) hb').trans h0, (hb.cell (p := ⟨b, _, none⟩) hb').trans h1, (hb.cell (p := ⟨b, _, none⟩) hb').trans h2⟩

theorem act_cells {H : Type} {enc : TypeId × Value → H} {W : World} {fuel : Nat} {cs : List Value} {y : DataW H × List MemPlace}
    (h : DataW.trod enc Try.prog W 0 (fun _ => true) true fuel 40 cs = some y) :
    ∃ c : Act3, cs = [.int .i64 c.op, .int .i64 c.v, .int .i64 c.by'] ∧ c.ok := by
  obtain ⟨xs, m, _, _, hl, hx, hi⟩ := DataW.trod_struct Try.underlying40 h
  have e3 : Try.prog.cellsOf 40 = 3 := by kernel_rfl
  have e1 : Try.prog.cellsOf 3 = 1 := by kernel_rfl
  rw [e3] at hl
  match cs, hl with
  | [v0, v1, v2], _ =>
    match xs, hx with
    | [x0, x1, x2], _ =>
      have i0 := hi 0 _ rfl
      have i1 := hi 1 _ rfl
      have i2 := hi 2 _ rfl
      obtain ⟨a0, q0, _, w0⟩ := DataW.trod_int Try.underlying3 i0
      obtain ⟨a1, q1, _, w1⟩ := DataW.trod_int Try.underlying3 i1
      obtain ⟨a2, q2, _, w2⟩ := DataW.trod_int Try.underlying3 i2
      simp [e1] at q0 q1 q2
      subst q0 q1 q2
      exact ⟨⟨a0, a1, a2⟩, rfl, in64_of_wf w0, in64_of_wf w1, in64_of_wf w2⟩

theorem isActs_of_trod {H : Type} {enc : TypeId × Value → H} {W : World} {a : Option Addr} {len cap : Nat} {d : DataW H} {p : List MemPlace}
    (h : DataW.Trod enc Try.prog W 0 (fun _ => true) true 31 (.slice a len cap) d p) : ∃ cs, IsActs W a len cs ∧ len ≤ maxLen := by
  obtain ⟨fuel, hf⟩ := h
  have e5 : Try.prog.cellsOf 40 = 3 := by kernel_rfl
  rcases Deep.open_slice Try.underlying31 hf with ⟨hcs, _⟩ | ⟨x, l, c, m, n, D, Pl, hcs, _, hl, hm, hmm, _, hel⟩
  · simp [Value.cells] at hcs
    obtain ⟨rfl, rfl, rfl⟩ := hcs
    exact ⟨[], ⟨rfl, .inl rfl, fun i hi => by omega⟩, Nat.zero_le _⟩
  · simp [Value.cells] at hcs
    obtain ⟨rfl, rfl, rfl⟩ := hcs
    rw [e5] at hel
    have hm' : m = cap := by simpa using hmm
    subst hm'
    have each : ∀ i, i < len → ∃ c : Act3, (∀ k, k < 3 → W.cell? ((x.add (i * 3)).add k) = [Value.int .i64 c.op, Value.int .i64 c.v, Value.int .i64 c.by'][k]?) ∧ c.ok := fun i hi => by
      obtain ⟨cs', h1, h2⟩ := hel i (by omega)
      obtain ⟨c, rfl, hok⟩ := act_cells h2
      exact ⟨c, (World.cells?_some h1).2.2, hok⟩
    have : Inhabited Act3 := ⟨a0⟩
    obtain ⟨f, hf'⟩ := Deep.choose_lt each
    have ea : ∀ i, i < len → actAt ((List.range len).map f) i = f i := fun i hi => by simp [actAt, hi]
    refine ⟨(List.range len).map f, ⟨by simp, ?_, fun i hi => by rw [ea i hi]; exact (hf' i hi).2⟩, by omega⟩
    by_cases h0 : len = 0
    · exact .inl h0
    · have q0 := (hf' 0 (by omega)).1 0 (by omega)
      have lt : x.block < W.heap.size := by
        rcases Nat.lt_or_ge x.block W.heap.size with h' | h'
        · exact h'
        · have : W.heap[x.block]? = none := Array.getElem?_eq_none h'
          simp [Addr.add, World.cell?, this] at q0
      obtain ⟨b, off, spot⟩ := x
      have hspot : spot = none := by simpa [Addr.add] using World.cell?_spot q0
      subst hspot
      refine .inr ⟨b, off, rfl, lt, fun i hi => ?_⟩
      rw [ea i hi]
      have r0 := (hf' i hi).1 0 (by omega)
      have r1 := (hf' i hi).1 1 (by omega)
      have r2 := (hf' i hi).1 2 (by omega)
      simp only [Go.WideShapes.add_plain] at r0 r1 r2
      exact ⟨r0, r1, r2⟩
end Go.Proofs.Ytbihcdjamdkinaa
