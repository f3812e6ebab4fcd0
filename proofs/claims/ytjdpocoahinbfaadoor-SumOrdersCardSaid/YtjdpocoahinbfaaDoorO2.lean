/-
  A cost, and a row of costs, as they come in.
-/
import Derived.Test.YtjdpocoahinbfaaDoorL3
import Derived.Test.YtjdpocoahinbfaaDoorWk
import Derived.Test.YtjdpocoahinbfaaDoorWh
import Derived.Deep.Slices
import Derived.OpenShut
namespace Go.Proofs.YtjdpocoahinbfaaDoor
open Go.RowKit Go.ChangeShapes Go.WideShapes

theorem cost_cells {H : Type} {enc : TypeId × Value → H} {W : World} {fuel : Nat} {cs : List Value} {y : DataW H × List MemPlace}
    (h : DataW.trod enc Tryd.prog W 0 (fun _ => true) true fuel 32 cs = some y) :
    ∃ c : C5, cs = [.int .i64 c.a0, .int .i64 c.a1, .int .i64 c.a2, .int .i64 c.a3, .int .i64 c.a4] ∧ C64 c := by
  obtain ⟨xs, m, _, _, hl, hx, hi⟩ := DataW.trod_array Tryd.underlying32 h
  have e5 : Tryd.prog.cellsOf 32 = 5 := by kernel_rfl
  have e1 : Tryd.prog.cellsOf 3 = 1 := by kernel_rfl
  rw [e5] at hl
  rw [e1] at hi
  match cs, hl with
  | [v0, v1, v2, v3, v4], _ =>
    match xs, hx with
    | [x0, x1, x2, x3, x4], _ =>
      obtain ⟨a0, q0, _, w0⟩ := DataW.trod_int Tryd.underlying3 (hi 0 (by omega))
      obtain ⟨a1, q1, _, w1⟩ := DataW.trod_int Tryd.underlying3 (hi 1 (by omega))
      obtain ⟨a2, q2, _, w2⟩ := DataW.trod_int Tryd.underlying3 (hi 2 (by omega))
      obtain ⟨a3, q3, _, w3⟩ := DataW.trod_int Tryd.underlying3 (hi 3 (by omega))
      obtain ⟨a4, q4, _, w4⟩ := DataW.trod_int Tryd.underlying3 (hi 4 (by omega))
      simp at q0 q1 q2 q3 q4
      subst q0 q1 q2 q3 q4
      exact ⟨⟨a0, a1, a2, a3, a4⟩, rfl, in64_of_wf w0, in64_of_wf w1, in64_of_wf w2, in64_of_wf w3, in64_of_wf w4⟩

theorem cost_of_trod {H : Type} {enc : TypeId × Value → H} {W : World} {base : Nat} {v : Value} {d : DataW H} {p : List MemPlace} (hv : Value.okWide Tryd.prog W .any base 32 v)
    (h : DataW.Trod enc Tryd.prog W 0 (fun _ => true) true 32 v d p) : ∃ c : C5, v = c.v ∧ C64 c := by
  obtain ⟨fuel, hf⟩ := h
  obtain ⟨c, hc, h64⟩ := cost_cells hf
  simp only [Value.okWide, Tryd.underlying32] at hv
  obtain ⟨cs, rfl, _⟩ := hv
  refine ⟨c, ?_, h64⟩
  simp only [Value.cells] at hc
  show Value.agg cs = _
  congr 1
  apply Array.toList_inj.1
  rw [hc]

theorem isCosts_of_trod {H : Type} {enc : TypeId × Value → H} {W : World} {a : Option Addr} {len cap : Nat} {d : DataW H} {p : List MemPlace}
    (h : DataW.Trod enc Tryd.prog W 0 (fun _ => true) true 35 (.slice a len cap) d p) : ∃ cs, IsCosts W a len cs ∧ len ≤ maxLen := by
  obtain ⟨fuel, hf⟩ := h
  have e5 : Tryd.prog.cellsOf 32 = 5 := by kernel_rfl
  rcases Deep.open_slice Tryd.underlying35 hf with ⟨hcs, _⟩ | ⟨x, l, c, m, n, D, Pl, hcs, _, hl, hm, hmm, _, hel⟩
  · simp [Value.cells] at hcs
    obtain ⟨rfl, rfl, rfl⟩ := hcs
    exact ⟨[], ⟨rfl, .inl rfl⟩, Nat.zero_le _⟩
  · simp [Value.cells] at hcs
    obtain ⟨rfl, rfl, rfl⟩ := hcs
    rw [e5] at hel
    have hm' : m = cap := by simpa using hmm
    subst hm'
    have each : ∀ i, i < len → ∃ c : C5, ∀ k, k < 5 → W.cell? ((x.add (i * 5)).add k) = [Value.int .i64 c.a0, .int .i64 c.a1, .int .i64 c.a2, .int .i64 c.a3, .int .i64 c.a4][k]? := fun i hi => by
      obtain ⟨cs', h1, h2⟩ := hel i (by omega)
      obtain ⟨c, rfl, _⟩ := cost_cells h2
      exact ⟨c, (World.cells?_some h1).2.2⟩
    have : Inhabited C5 := ⟨c0⟩
    obtain ⟨f, hf'⟩ := Deep.choose_lt each
    refine ⟨(List.range len).map f, ⟨by simp, ?_⟩, by omega⟩
    by_cases h0 : len = 0
    · exact .inl h0
    · have q0 := hf' 0 (by omega) 0 (by omega)
      have lt : x.block < W.heap.size := by
        rcases Nat.lt_or_ge x.block W.heap.size with h' | h'
        · exact h'
        · have : W.heap[x.block]? = none := Array.getElem?_eq_none h'
          simp [Addr.add, World.cell?, this] at q0
      obtain ⟨b, off, spot⟩ := x
      have hspot : spot = none := by simpa [Addr.add] using World.cell?_spot q0
      subst hspot
      refine .inr ⟨b, off, rfl, lt, fun i hi => ?_⟩
      have e : ccs ((List.range len).map f) i = f i := by simp [ccs, hi]
      rw [e]
      have r0 := hf' i hi 0 (by omega)
      have r1 := hf' i hi 1 (by omega)
      have r2 := hf' i hi 2 (by omega)
      have r3 := hf' i hi 3 (by omega)
      have r4 := hf' i hi 4 (by omega)
      simp only [Go.WideShapes.add_plain] at r0 r1 r2 r3 r4
      exact ⟨r0, r1, r2, r3, r4⟩
end Go.Proofs.YtjdpocoahinbfaaDoor
