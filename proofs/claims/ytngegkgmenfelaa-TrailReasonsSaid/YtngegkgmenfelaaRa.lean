/-
  WORDS: the document's trail as it lies in memory; beside it the trail.
-/
import Derived.Test.YtngegkgmenfelaaXf
namespace Go.Proofs.Ytngegkgmenfelaa
open Go.RowKit Go.Lib

/-- The document's trail. -/
structure Ref where
  n : Nat
  L : List (List Int)
  D : List Int
  K : List (List Int)
  A : List Int

/-- Only blocks of M have changed, of those that were there. -/
structure Only (M : Nat → Prop) (w w' : World) : Prop where
  os : w'.os = w.os
  tape : w'.tape = w.tape
  output : w'.output = w.output
  size : w.heap.size ≤ w'.heap.size
  block : ∀ k, k < w.heap.size → ¬ M k → w'.heap[k]? = w.heap[k]?
theorem Only.refl (M : Nat → Prop) (w : World) : Only M w w := ⟨rfl, rfl, rfl, Nat.le_refl _, fun _ _ _ => rfl⟩
theorem Only.trans {M M' : Nat → Prop} {a b c : World} (h : Only M a b) (k : Only M' b c) (hM : ∀ i, M' i → M i ∨ a.heap.size ≤ i) : Only M a c :=
  ⟨k.os.trans h.os, k.tape.trans h.tape, k.output.trans h.output, Nat.le_trans h.size k.size, fun i hi hn => (k.block i (Nat.lt_of_lt_of_le hi h.size) (fun hm => by rcases hM i hm with h1 | h1; exact hn h1; omega)).trans (h.block i hi hn)⟩
theorem Only.keep {M S : Nat → Prop} {w w' : World} (h : Only M w w') (hS : There S w) (hd : ∀ k, S k → ¬ M k) : Keep S w w' := ⟨h.os, h.tape, h.output, h.size, fun k hk => h.block k (hS k hk) (hd k hk)⟩
theorem Only.below {M : Nat → Prop} {n : Nat} {w w' : World} (h : Only M w w') (hn : n ≤ w.heap.size) (hM : ∀ k, M k → n ≤ k) : Below n w w' := ⟨h.os, h.tape, h.output, h.size, fun k hk => h.block k (by omega) (fun hm => by have := hM k hm; omega)⟩
theorem Only.ofBelow {M : Nat → Prop} {w w' : World} (h : Below w.heap.size w w') : Only M w w' := ⟨h.os, h.tape, h.output, h.size, fun k hk _ => h.block k hk⟩
theorem Only.ofGrown {M : Nat → Prop} {w w' : World} {row : Option Nat} (h : w.grownBy w' row) (hr : ∀ k, row = some k → M k) : Only M w w' := ⟨h.os, h.tape, h.output, h.size, fun k hk hn => h.block k hk (fun e => hn (hr k e.symm))⟩
theorem Only.setCell {M : Nat → Prop} {w : World} {p : Addr} (hp : M p.block) (u : Value) : Only M w (w.setCell p u) :=
  ⟨rfl, rfl, rfl, by simp [World.setCell], fun k _ hn => Below.heap_setCell _ _ _ _ (fun e => hn (e ▸ hp))⟩

/-- The trail, beside what has changed. -/
theorem TrailAt.only {w w' : World} {B B' M : Nat → Prop} {b : Nat} {T : Tr} (h : TrailAt w B b T) (ho : Only M w w') (hM : ∀ k, M k → B k) (hB : ∀ k, B' k → B k ∨ w.heap.size ≤ k) (ht : There B' w') : TrailAt w' B' b T := by
  obtain ⟨val, ct, hm, hti⟩ := h
  refine ⟨val, ct, ?_, hti⟩
  refine ⟨(ho.block b (lt_of_block hm.box) (fun e => hm.base (hM b e))).trans hm.box, fun s => (hm.row s).kept fun k hk => ho.block k ((hm.row s).lt k hk) (fun e => hm.nB s k hk (hM k e)), hm.apart, hm.nb, fun hk => ?_, fun s k hs hk => ?_, ht⟩
  · rcases hB b hk with h | h
    · exact hm.base h
    · have := lt_of_block hm.box; omega
  · rcases hB k hk with h | h
    · exact hm.nB s k hs h
    · have := (hm.row s).lt k hs; omega

/-- The rows of the document's trail: clauses, decided, known. -/
inductive Rl
  | L | D | K
  deriving DecidableEq
def Rl.e : Rl → TypeId
  | .D => 3 | _ => 23
def upR {α : Type} (f : Rl → α) (s : Rl) (a : α) : Rl → α := fun t => if t = s then a else f t
theorem upR_same {α : Type} (f : Rl → α) (s : Rl) (a : α) : upR f s a s = a := if_pos rfl
theorem upR_other {α : Type} (f : Rl → α) {s t : Rl} (a : α) (h : t ≠ s) : upR f s a t = f t := if_neg h

/-- The box at p; its rows, apart; all that may be written lies in M; S is read only. -/
structure MemR (w : World) (M S : Nat → Prop) (p : Nat) (bx : Array Value) (val : Rl → Value) (ct : Rl → List Value) : Prop where
  box : w.heap[p]? = some (.cells bx 48 (0, 0))
  row : ∀ s, Row w s.e 1 (val s) (ct s)
  apart : ∀ s t, s ≠ t → ApartV (val s) (val t)
  mp : M p
  mr : ∀ s k, (val s).ownBlock = some k → M k ∧ k ≠ p
  off : ∀ k, S k → ¬ M k
  tM : There M w
  tS : There S w

variable {w w' : World} {M S : Nat → Prop} {p : Nat} {bx : Array Value} {val : Rl → Value} {ct : Rl → List Value}

theorem MemR.keep (h : MemR w M S p bx val ct) (hk : Keep (fun k => M k ∨ S k) w w') : MemR w' M S p bx val ct :=
  { h with
    box := (hk.block p (.inl h.mp)).trans h.box
    row := fun s => (h.row s).kept fun k hv => hk.block k (.inl (h.mr s k hv).1)
    tM := h.tM.keep hk
    tS := h.tS.keep hk }
theorem MemR.there (h : MemR w M S p bx val ct) : There (fun k => M k ∨ S k) w := fun k hk => hk.elim (h.tM k) (h.tS k)
theorem MemR.below (h : MemR w M S p bx val ct) (hb : Below w.heap.size w w') : MemR w' M S p bx val ct := h.keep ((Keep.refl _ w).below hb h.there)
theorem MemR.bcell (h : MemR w M S p bx val ct) (i : Nat) : w.cell? ⟨p, i, none⟩ = bx[i]? := by simp [World.cell?, h.box]
theorem MemR.bfr (h : MemR w M S p bx val ct) (o : Nat) : w.frozen? ⟨p, o, none⟩ = false := by simp [World.frozen?, h.box]
theorem MemR.size (h : MemR w M S p bx val ct) : p < w.heap.size := lt_of_block h.box

/-- A store into the box. -/
theorem MemR.setBox (h : MemR w M S p bx val ct) (i : Nat) (u : Value) : MemR (w.setCell ⟨p, i, none⟩ u) M S p (bx.setIfInBounds i u) val ct :=
  { h with
    box := heap_setCell_same w p i bx 48 u h.box
    row := fun s => (h.row s).kept fun k hk => heap_setCell_other w ⟨p, i, none⟩ k u (fun e => (h.mr s k hk).2 e)
    tM := fun k hk => by have := h.tM k hk; simpa [World.setCell] using this
    tS := fun k hk => by have := h.tS k hk; simpa [World.setCell] using this }
theorem MemR.onlyBox (h : MemR w M S p bx val ct) (i : Nat) (u : Value) : Only M w (w.setCell ⟨p, i, none⟩ u) := Only.setCell (p := ⟨p, i, none⟩) h.mp u
theorem MemR.onlyKeep (h : MemR w M S p bx val ct) (ho : Only M w w') : Keep S w w' := ho.keep h.tS h.off

/-- New blocks that may be written. -/
def MoreM (M S : Nat → Prop) (w w' : World) : Nat → Prop := fun k => M k ∨ (¬ S k ∧ w.heap.size ≤ k ∧ k < w'.heap.size)

/-- A row that has grown. -/
theorem MemR.grew {v' : Value} {xs' : List Value} (h : MemR w M S p bx val ct) (s : Rl) (hg : Grew w w' (val s) v') (hr : Row w' s.e 1 v' xs') : MemR w' (MoreM M S w w') S p bx (upR val s v') (upR ct s xs') ∧ Only M w w' := by
  have ho : Only M w w' := Only.ofGrown hg.1 fun k hk => (h.mr s k hk).1
  have hS : ∀ k, S k → k < w.heap.size := h.tS
  have hv' : ∀ k, v'.ownBlock = some k → (val s).ownBlock = some k ∨ w.heap.size ≤ k := fun k hk => by
    rcases hg.2 with e | ⟨k', e, hk'⟩
    · exact .inl (e ▸ hk)
    · rw [e] at hk; injection hk with hk; exact .inr (hk ▸ hk')
  have hp := h.size
  refine ⟨⟨?_, fun t => ?_, fun t u htu => ?_, .inl h.mp, fun t k hk => ?_, fun k hk hm => ?_, fun k hk => ?_, fun k hk => Nat.lt_of_lt_of_le (h.tS k hk) hg.1.size⟩, ho⟩
  · exact (hg.1.block p hp (fun e => (h.mr s p e.symm).2 rfl)).trans h.box
  · by_cases e : t = s
    · subst e; rw [upR_same, upR_same]; exact hr
    · rw [upR_other _ _ e, upR_other _ _ e]; exact (h.row t).grown hg.1 (h.apart t s e)
  · have key : ∀ t, t ≠ s → ApartV v' (val t) ∧ ApartV (val t) v' := fun t ht => by
      have hne : ∀ k, v'.ownBlock = some k → (val t).ownBlock ≠ some k := fun k hk hk2 => by
        rcases hv' k hk with h1 | h1
        · have := h.apart t s ht
          rcases this with h2 | h2
          · rw [hk2] at h2; cases h2
          · exact h2 (hk2.trans h1.symm)
        · have := (h.row t).lt k hk2; omega
      constructor
      · cases hk : v'.ownBlock with
        | none => exact .inl hk
        | some k => exact .inr fun e => hne k hk (by rw [← e, hk])
      · cases hk : (val t).ownBlock with
        | none => exact .inl hk
        | some k => exact .inr fun e => hne k (by rw [← e, hk]) hk
    by_cases e : t = s
    · subst e
      rw [upR_same, upR_other _ _ (fun e => htu e.symm)]
      exact (key u (fun e => htu e.symm)).1
    · rw [upR_other _ _ e]
      by_cases e2 : u = s
      · subst e2; rw [upR_same]; exact (key t e).2
      · rw [upR_other _ _ e2]; exact h.apart t u htu
  · by_cases e : t = s
    · subst e
      rw [upR_same] at hk
      rcases hv' k hk with h1 | h1
      · exact ⟨.inl (h.mr t k h1).1, (h.mr t k h1).2⟩
      · refine ⟨.inr ⟨fun hs => ?_, h1, hr.lt k hk⟩, by omega⟩
        have := hS k hs; omega
    · rw [upR_other _ _ e] at hk
      exact ⟨.inl (h.mr t k hk).1, (h.mr t k hk).2⟩
  · rcases hm with hm | hm
    · exact h.off k hk hm
    · exact hm.1 hk
  · rcases hk with hk | hk
    · exact Nat.lt_of_lt_of_le (h.tM k hk) hg.1.size
    · exact hk.2.2

/-- A row that is cut. -/
theorem MemR.cut {g n c k : Nat} (h : MemR w M S p bx val ct) (s : Rl) (hs : val s = .slice (some ⟨g, 0, none⟩) n c) (hk : k ≤ (ct s).length) :
    MemR w M S p bx (upR val s (.slice (some ⟨g, 0, none⟩) k c)) (upR ct s ((ct s).take k)) := by
  have hb : ∀ t, (upR val s (.slice (some ⟨g, 0, none⟩) k c) t).ownBlock = (val t).ownBlock := fun t => by
    by_cases e : t = s
    · subst e; rw [upR_same, hs]; rfl
    · rw [upR_other _ _ e]
  refine { h with
    row := fun t => ?_
    apart := fun t u htu => ?_
    mr := fun t k hk => ?_ }
  · by_cases e : t = s
    · subst e
      rw [upR_same, upR_same]
      have := h.row t
      rw [hs] at this
      exact this.cut hk
    · rw [upR_other _ _ e, upR_other _ _ e]; exact h.row t
  · unfold ApartV
    rw [hb, hb]
    exact h.apart t u htu
  · rw [hb] at hk; exact h.mr t k hk

/-- More that is read only. -/
theorem MemR.moreS (h : MemR w M S p bx val ct) {S' : Nat → Prop} (hs : ∀ k, S' k → S k ∨ (¬ M k ∧ k < w.heap.size)) : MemR w M S' p bx val ct :=
  { h with
    off := fun k hk hm => by
      rcases hs k hk with h1 | h1
      · exact h.off k h1 hm
      · exact h1.1 hm
    tS := fun k hk => by
      rcases hs k hk with h1 | h1
      · exact h.tS k h1
      · exact h1.2 }

structure TieR (w : World) (S : Nat → Prop) (R : Ref) (ct : Rl → List Value) (vA : Value) : Prop where
  Ll : (ct .L).length = R.L.length
  L : ∀ j, j < R.L.length → Stays S w fun w2 => Reads w2 ((ct .L).getD j undef) (R.L.getD j [])
  D : ct .D = ints R.D
  Kl : (ct .K).length = R.K.length
  K : ∀ j, j < R.K.length → Stays S w fun w2 => Reads w2 ((ct .K).getD j undef) (R.K.getD j [])
  A : Stays S w fun w2 => Reads w2 vA R.A

theorem TieR.step {R : Ref} {vA : Value} (h : TieR w S R ct vA) (hk : Keep S w w') : TieR w' S R ct vA :=
  { h with L := fun j hj => (h.L j hj).step hk, K := fun j hj => (h.K j hj).step hk, A := h.A.step hk }
theorem TieR.grow {S' : Nat → Prop} {R : Ref} {vA : Value} (h : TieR w S R ct vA) (hs : ∀ k, S k → S' k) : TieR w S' R ct vA :=
  { h with L := fun j hj => (h.L j hj).grow hs, K := fun j hj => (h.K j hj).grow hs, A := h.A.grow hs }

def boxR (n : Nat) (val : Rl → Value) (vA : Value) : Array Value := #[.int .i64 (n : Nat), val .L, val .D, val .K, vA]
/-- The document's trail at p. -/
def RefAt (w : World) (M S : Nat → Prop) (p : Nat) (R : Ref) : Prop := ∃ val ct vA, MemR w M S p (boxR R.n val vA) val ct ∧ TieR w S R ct vA

theorem RefAt.there {R : Ref} (h : RefAt w M S p R) : There (fun k => M k ∨ S k) w := by
  obtain ⟨val, ct, vA, hm, ht⟩ := h
  exact hm.there
theorem RefAt.keep {R : Ref} (h : RefAt w M S p R) (hk : Keep (fun k => M k ∨ S k) w w') : RefAt w' M S p R := by
  obtain ⟨val, ct, vA, hm, ht⟩ := h
  exact ⟨val, ct, vA, hm.keep hk, ht.step (hk.mono fun k h => .inr h)⟩
theorem RefAt.below {R : Ref} (h : RefAt w M S p R) (hb : Below w.heap.size w w') : RefAt w' M S p R := h.keep ((Keep.refl _ w).below hb h.there)

/-- What a call leaves. -/
def RefPost (w : World) (M S : Nat → Prop) (p : Nat) (R' : Ref) (w' : World) : Prop :=
  ∃ M' S' : Nat → Prop, RefAt w' M' S' p R' ∧ Only M w w' ∧ (∀ k, M k → M' k) ∧ (∀ k, S k → S' k) ∧ ∀ k, M' k ∨ S' k → (M k ∨ S k) ∨ w.heap.size ≤ k
theorem RefAt.post {R : Ref} (h : RefAt w' M S p R) (hb : Below w.heap.size w w') : RefPost w M S p R w' :=
  ⟨M, S, h, Only.ofBelow hb, fun _ h => h, fun _ h => h, fun _ h => .inl h⟩
theorem RefPost.trail {R' : Ref} {b : Nat} {T : Tr} (h : RefPost w M S p R' w') (ht : TrailAt w (fun k => M k ∨ S k) b T) :
    ∃ M' S' : Nat → Prop, RefAt w' M' S' p R' ∧ TrailAt w' (fun k => M' k ∨ S' k) b T ∧ Only M w w' ∧ (∀ k, M k → M' k) ∧ (∀ k, S k → S' k) ∧ ∀ k, M' k ∨ S' k → (M k ∨ S k) ∨ w.heap.size ≤ k := by
  obtain ⟨M', S', h1, h2, h3, h4, h5⟩ := h
  exact ⟨M', S', h1, ht.only h2 (fun k hk => .inl hk) h5 h1.there, h2, h3, h4, h5⟩
end Go.Proofs.Ytngegkgmenfelaa
