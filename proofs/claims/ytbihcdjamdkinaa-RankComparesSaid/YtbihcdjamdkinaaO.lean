/-
  WORDS for rows of numbers that the program itself makes: owned, apart, one more appended; a queue as it lies in memory.
-/
import Derived.Test.YtbihcdjamdkinaaWa
import Derived.Test.YtbihcdjamdkinaaK
import Derived.Maps.AppendAt
import Derived.Deep.AppendLies
import Derived.Lib.Hide
import Derived.RowKit3
import Derived.WalkSmall
import Derived.OneCell
namespace Go.Proofs.Ytbihcdjamdkinaa
open Go.RowKit Go.Lib

def In64 (a : Int) : Prop := -9223372036854775808 ≤ a ∧ a ≤ 9223372036854775807
theorem info3 : (Try.prog.info? 3).map (fun i => (i.zero, i.size, i.bytes)) = some (some (.int .i64 0), 1, 8) := by kernel_rfl

/-- The slice value v is the call's own (blocks from B on) and holds just these numbers. -/
def OwnI (w : World) (B : Nat) (v : Value) (es : List Int) : Prop := w.ownsRow B 3 1 v es.length (es.map (Value.int .i64))
/-- Two slice values lie in different blocks. -/
def ApartV (v u : Value) : Prop := v.ownBlock = none ∨ v.ownBlock ≠ u.ownBlock
/-- What an append to v has done. -/
def Grew (w w' : World) (v v' : Value) : Prop := w.grownBy w' v.ownBlock ∧ (v'.ownBlock = v.ownBlock ∨ v'.ownBlock = some w.heap.size)

theorem OwnI.nil (w : World) (B : Nat) : OwnI w B (.slice none 0 0) [] := World.ownsRow_nil _ _ _ _
theorem OwnI.alloc {w : World} {B : Nat} {v : Value} {es : List Int} (h : OwnI w B v es) (o : Obj) : OwnI (w.alloc o) B v es := World.ownsRow.alloc h o
theorem OwnI.drewN {w : World} {B : Nat} {v : Value} {es : List Int} (h : OwnI w B v es) (n : Nat) : OwnI (w.drewN n) B v es := h
theorem OwnI.lt {w : World} {B : Nat} {v : Value} {es : List Int} (h : OwnI w B v es) : ∀ k, v.ownBlock = some k → B ≤ k ∧ k < w.heap.size := World.ownsRow.lt h
theorem OwnI.grew {w w' : World} {B : Nat} {v v' u : Value} {es : List Int} (h : OwnI w B u es) (hg : Grew w w' v v') (ha : ApartV u v) : OwnI w' B u es := World.ownsRow.kept h hg.1 ha
theorem OwnI.below {w w' : World} {B B' : Nat} {v : Value} {es : List Int} (h : OwnI w B v es) (hb : Below B' w w') (hB : w.heap.size ≤ B') : OwnI w' B v es := by
  obtain ⟨h1, h2⟩ := h
  refine ⟨h1, ?_⟩
  rcases h2 with h2 | ⟨g, cap, cur, hv, hg, hh, r⟩
  · exact .inl h2
  · exact .inr ⟨g, cap, cur, hv, hg, by rw [hb.block g (by have := lt_of_block hh; omega)]; exact hh, r⟩
theorem Grew.below {w0 w w' : World} {B : Nat} {v v' : Value} {es : List Int} (hb : Below B w0 w) (h : OwnI w B v es) (hg : Grew w w' v v') (hB : B ≤ w.heap.size) : Below B w0 w' :=
  hb.grown hg.1 hB fun k hk => (h.lt k hk).1
theorem Grew.keep {w0 w w' : World} {B : Nat → Prop} {v v' : Value} (hb : Keep B w0 w) (hg : Grew w w' v v') (ht : There B w) (hv : ∀ k, v.ownBlock = some k → ¬ B k) : Keep B w0 w' := hb.grown hg.1 ht hv
theorem Grew.not {w w' : World} {B : Nat → Prop} {v v' : Value} (hg : Grew w w' v v') (ht : There B w) (hv : ∀ k, v.ownBlock = some k → ¬ B k) : ∀ k, v'.ownBlock = some k → ¬ B k := fun k hk hB => by
  rcases hg.2 with e | e
  · exact hv k (e.symm.trans hk) hB
  · rw [e] at hk
    injection hk with hk
    subst hk
    exact Nat.lt_irrefl _ (ht _ hB)
theorem ApartV.grew_left {w w' : World} {B : Nat} {v v' u : Value} {es : List Int} (ha : ApartV v u) (hg : Grew w w' v v') (hu : OwnI w B u es) : ApartV v' u := by
  rcases hg.2 with e | e
  · unfold ApartV; rw [e]; exact ha
  · refine .inr (fun e' => ?_)
    rw [e] at e'
    have := (hu.lt _ e'.symm).2
    omega
theorem ApartV.symm {v u : Value} (h : ApartV v u) : ApartV u v := by
  rcases h with h | h
  · by_cases e : u.ownBlock = none
    · exact .inl e
    · exact .inr (fun e' => e (e'.trans h))
  · exact .inr (fun e => h e.symm)

/-- 'append(s, z)', one number. -/
theorem wpList_app1 {w : World} {ops : Array Oper} {rest : List Oper} {o : Oper} {a : Act} {Q : Exit → Act → World → Prop} (hgd : o.guard = none) (s x : Operand)
    (ho : o.op = .call { callee := .builtin .append, args := #[s, x], argTypes := #[25, 25] }) (B : Nat) (v : Value) (es : List Int) (z : Int) (hs : a.eval s = v) (hown : OwnI w B v es)
    (b c : Nat) (hx : a.eval x = .slice (some ⟨b, 0, none⟩) 1 c) (hb : w.heap[b]? = some (.cells #[.int .i64 z] 3 (0, 0))) (hlen : es.length ≤ 1000000) (hB : B ≤ w.heap.size)
    (h : ∀ v' w', OwnI w' B v' (es ++ [z]) → Grew w w' v v' → wpList Try.prog ops Q rest (a.put o.dst v') w') : wpList Try.prog ops Q (o :: rest) a w := by
  obtain ⟨i0, hi0, hz0, hz1, hz2⟩ := info_parts info3
  refine wpList_append_own_at _ hgd s x 25 ho B 3 i0 (.int .i64 0) 1 8 Try.underlying25 hi0 hz0 hz1 hz2 rfl (by decide) v es.length _ hs hown ⟨b, 0, none⟩ 1 c [.int .i64 z] hx rfl ?_ ?_ ?_ ?_ hB ?_
  · intro j u hj
    match j, hj with
    | 0, hj => simp at hj; subst hj; exact cell_of_one hb
  · intro u hu; simp at hu; subst hu; rfl
  · unfold maxLen; omega
  · omega
  · intro v' w' h1 h2 _ h4
    exact h v' w' (by unfold OwnI; simpa using h1) ⟨h2, h4⟩

/-- A store into an owned row. -/
theorem OwnI.store {w : World} {B : Nat} {g n cap : Nat} {es : List Int} (h : OwnI w B (.slice (some ⟨g, 0, none⟩) n cap) es) (j : Nat) (z : Int) :
    OwnI (w.setCell ⟨g, j, none⟩ (.int .i64 z)) B (.slice (some ⟨g, 0, none⟩) n cap) (es.set j z) := by
  have hn : n = es.length := by
    rcases h.2 with ⟨h, _⟩ | ⟨g', cap', cur, hv, _⟩
    · cases h
    · injection hv
  subst hn
  have := (World.ownsRow.stored h j (.int .i64 z)).1
  unfold OwnI
  simpa using this
theorem OwnI.setCell {w : World} {B : Nat} {v : Value} {es : List Int} (h : OwnI w B v es) {a : Addr} (ha : v.ownBlock ≠ some a.block) (u : Value) : OwnI (w.setCell a u) B v es := ownsRow_setCell_other h ha u
theorem OwnI.cap {w : World} {B : Nat} {a : Option Addr} {n c : Nat} {es : List Int} (h : OwnI w B (.slice a n c) es) : n = es.length ∧ n ≤ c ∧ c ≤ maxLen := by
  rcases h.2 with ⟨h, h0⟩ | ⟨g', cap', cur, hv, _, _, h1, h2, _⟩
  · injection h with _ h1 h2
    subst h1 h2
    exact ⟨h0.symm, Nat.le_refl _, Nat.zero_le _⟩
  · injection hv with _ h3 h4
    subst h3 h4
    exact ⟨rfl, h1, h2⟩
/-- An owned row that is not empty: where it lies. -/
theorem OwnI.at {w : World} {B : Nat} {v : Value} {es : List Int} (h : OwnI w B v es) (hn : 0 < es.length) :
    ∃ g cap, v = .slice (some ⟨g, 0, none⟩) es.length cap ∧ es.length ≤ cap ∧ cap ≤ maxLen ∧ B ≤ g ∧ g < w.heap.size ∧ (∀ j, j < es.length → w.cell? ⟨g, j, none⟩ = some (.int .i64 (es.getD j 0))) ∧ (∀ j, w.frozen? ⟨g, j, none⟩ = false) := by
  have h' := h
  rcases h.2 with ⟨_, h0⟩ | ⟨g, cap, cur, rfl, hB, hg, hle, hcap, _, _⟩
  · omega
  · refine ⟨g, cap, rfl, hle, hcap, hB, lt_of_block hg, fun j hj => ?_, fun j => World.ownsRow.frozenAt h' j⟩
    rw [World.ownsRow.cellAt h' j (by omega)]
    simp [hj]
end Go.Proofs.Ytbihcdjamdkinaa
