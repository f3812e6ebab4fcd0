/-
  WORDS: blocks that are kept as they were, whichever they are (as 'Below', but for a set of blocks).
-/
import Derived.Below
import Derived.WalkSmall
import Derived.Lib.Hide
namespace Go.Proofs.Ytngegkgmenfelaa
open Go.RowKit Go.Lib

/-- The blocks of B hold what they held; the streams are as they were; no block has gone. -/
structure Keep (B : Nat → Prop) (w w' : World) : Prop where
  os : w'.os = w.os
  tape : w'.tape = w.tape
  output : w'.output = w.output
  size : w.heap.size ≤ w'.heap.size
  block : ∀ k, B k → w'.heap[k]? = w.heap[k]?

/-- All of B lie there. -/
def There (B : Nat → Prop) (w : World) : Prop := ∀ k, B k → k < w.heap.size

theorem Keep.refl (B : Nat → Prop) (w : World) : Keep B w w := ⟨rfl, rfl, rfl, Nat.le_refl _, fun _ _ => rfl⟩
theorem Keep.trans {B : Nat → Prop} {a b c : World} (h : Keep B a b) (k : Keep B b c) : Keep B a c :=
  ⟨k.os.trans h.os, k.tape.trans h.tape, k.output.trans h.output, Nat.le_trans h.size k.size, fun i hi => (k.block i hi).trans (h.block i hi)⟩
theorem Keep.mono {B B' : Nat → Prop} {w w' : World} (h : Keep B w w') (hB : ∀ k, B' k → B k) : Keep B' w w' := ⟨h.os, h.tape, h.output, h.size, fun k hk => h.block k (hB k hk)⟩
theorem Keep.drew {B : Nat → Prop} {a w : World} (h : Keep B a w) : Keep B a w.drew := ⟨h.os, h.tape, h.output, h.size, h.block⟩
theorem Keep.drewN {B : Nat → Prop} {a w : World} (h : Keep B a w) : ∀ n, Keep B a (w.drewN n) := fun _ => h.trans
  ⟨rfl, rfl, rfl, Nat.le_refl _, fun _ _ => rfl⟩
theorem Keep.setCell {B : Nat → Prop} {a w : World} (h : Keep B a w) {p : Addr} (hp : ¬ B p.block) (u : Value) : Keep B a (w.setCell p u) :=
  h.trans ⟨rfl, rfl, rfl, by simp [World.setCell], fun k hk => Below.heap_setCell _ _ _ _ (fun e => hp (e ▸ hk))⟩
theorem Keep.below {B : Nat → Prop} {n : Nat} {a w w' : World} (h : Keep B a w) (hb : Below n w w') (hB : ∀ k, B k → k < n) : Keep B a w' :=
  h.trans ⟨hb.os, hb.tape, hb.output, hb.size, fun k hk => hb.block k (hB k hk)⟩
theorem Keep.alloc {B : Nat → Prop} {a w : World} (h : Keep B a w) (hB : There B w) (o : Obj) : Keep B a (w.alloc o) :=
  h.below ((Below.refl w.heap.size w).alloc (Nat.le_refl _) o) hB
theorem Keep.grown {B : Nat → Prop} {a w w' : World} {row : Option Nat} (h : Keep B a w) (hg : w.grownBy w' row) (hB : There B w) (hr : ∀ k, row = some k → ¬ B k) : Keep B a w' :=
  h.trans ⟨hg.os, hg.tape, hg.output, hg.size, fun k hk => hg.block k (hB k hk) (fun e => hr k e.symm hk)⟩
theorem Keep.toBelow {B : Nat → Prop} {n : Nat} {w w' : World} (h : Keep B w w') (hB : ∀ k, k < n → B k) : Below n w w' := ⟨h.os, h.tape, h.output, h.size, fun k hk => h.block k (hB k hk)⟩
theorem Keep.cell {B : Nat → Prop} {w w' : World} (h : Keep B w w') {p : Addr} (hp : B p.block) : w'.cell? p = w.cell? p := World.cell?_of_block (w := w) (h.block p.block hp)
theorem Keep.frozen {B : Nat → Prop} {w w' : World} (h : Keep B w w') {p : Addr} (hp : B p.block) : w'.frozen? p = w.frozen? p := World.frozen?_of_block (w := w) (h.block p.block hp)
theorem There.keep {B B' : Nat → Prop} {w w' : World} (h : There B w) (hk : Keep B' w w') : There B w' := fun k hb => Nat.lt_of_lt_of_le (h k hb) hk.size
theorem There.below {B : Nat → Prop} {n : Nat} {w w' : World} (h : There B w) (hk : Below n w w') : There B w' := fun k hb => Nat.lt_of_lt_of_le (h k hb) hk.size
end Go.Proofs.Ytngegkgmenfelaa
