/-
  WORDS: rows in memory, apart from each other; a trail as it lies in memory.
-/
import Derived.Test.YtngegkgmenfelaaProg
import Derived.Test.YtngegkgmenfelaaK
import Derived.Maps.AppendAt
import Derived.Deep.AppendLies
import Derived.Lib.Hide
import Derived.RowKit3
import Derived.WalkSmall
import Derived.OneCell
import Derived.Laws.OwnMore
import Derived.ArgAppend
import Derived.Deep.Onto
namespace Go.Proofs.Ytngegkgmenfelaa
open Go.RowKit Go.Lib

def In64 (a : Int) : Prop := -9223372036854775808 ≤ a ∧ a ≤ 9223372036854775807
theorem info3 : (Try.prog.info? 3).map (fun i => (i.zero, i.size, i.bytes)) = some (some (.int .i64 0), 1, 8) := by kernel_rfl
theorem info23 : (Try.prog.info? 23).map (fun i => (i.zero, i.size, i.bytes)) = some (some (.slice none 0 0), 1, 24) := by kernel_rfl

/-- The slice value v is the call's own and holds just these cells, z to an element; its capacity may be less than its block's. -/
def Row (w : World) (e : TypeId) (z : Nat) (v : Value) (xs : List Value) : Prop :=
  ∃ n v0, w.ownsRow 0 e z v0 n xs ∧ (v = v0 ∨ ∃ g cap c', v0 = .slice (some ⟨g, 0, none⟩) n c' ∧ v = .slice (some ⟨g, 0, none⟩) n cap ∧ n ≤ cap ∧ cap ≤ c')
/-- Two slice values lie in different blocks. -/
def ApartV (v u : Value) : Prop := v.ownBlock = none ∨ v.ownBlock ≠ u.ownBlock
/-- What an append to v has done. -/
def Grew (w w' : World) (v v' : Value) : Prop := w.grownBy w' v.ownBlock ∧ (v'.ownBlock = v.ownBlock ∨ ∃ k, v'.ownBlock = some k ∧ w.heap.size ≤ k)

theorem Row.own {w : World} {e : TypeId} {z : Nat} {v : Value} {n : Nat} {xs : List Value} (h : w.ownsRow 0 e z v n xs) : Row w e z v xs := ⟨n, v, h, .inl rfl⟩
theorem Row.elim {w : World} {e : TypeId} {z : Nat} {v : Value} {xs : List Value} (h : Row w e z v xs) : ∃ n v0, w.ownsRow 0 e z v0 n xs ∧ v.ownBlock = v0.ownBlock ∧ (v = v0 ∨ ∃ g cap c', v0 = .slice (some ⟨g, 0, none⟩) n c' ∧ v = .slice (some ⟨g, 0, none⟩) n cap ∧ n ≤ cap ∧ cap ≤ c') := by
  obtain ⟨n, v0, h1, h2⟩ := h
  refine ⟨n, v0, h1, ?_, h2⟩
  rcases h2 with rfl | ⟨g, cap, c', rfl, rfl, _, _⟩
  · rfl
  · rfl
theorem Row.nil (w : World) (e : TypeId) (z : Nat) : Row w e z (.slice none 0 0) [] := Row.own (World.ownsRow_nil _ _ _ _)
theorem Row.lt {w : World} {e : TypeId} {z : Nat} {v : Value} {xs : List Value} (h : Row w e z v xs) : ∀ k, v.ownBlock = some k → k < w.heap.size := fun k hk => by
  obtain ⟨n, v0, h, hb, _⟩ := h.elim
  exact (h.lt k (by rw [← hb]; exact hk)).2
theorem Row.grown {w w' : World} {row : Option Nat} {e : TypeId} {z : Nat} {v : Value} {xs : List Value} (h : Row w e z v xs) (hg : w.grownBy w' row) (hne : v.ownBlock = none ∨ v.ownBlock ≠ row) : Row w' e z v xs := by
  obtain ⟨n, v0, h, hb, h2⟩ := h.elim
  exact ⟨n, v0, h.kept hg (by rw [← hb]; exact hne), h2⟩
theorem Row.kept {w w' : World} {e : TypeId} {z : Nat} {v : Value} {xs : List Value} (h : Row w e z v xs) (hk : ∀ k, v.ownBlock = some k → w'.heap[k]? = w.heap[k]?) : Row w' e z v xs := by
  obtain ⟨n, v0, ⟨h1, h2⟩, hb, h3⟩ := h.elim
  rw [hb] at hk
  refine ⟨n, v0, ⟨h1, ?_⟩, h3⟩
  rcases h2 with h2 | ⟨g, cap, cur, hv, hb', hg, r⟩
  · exact .inl h2
  · exact .inr ⟨g, cap, cur, hv, hb', by rw [hk g (by rw [hv]; rfl)]; exact hg, r⟩
/-- A row's number of elements, and where it lies. -/
theorem Row.atZ {w : World} {e : TypeId} {z n : Nat} {v : Value} {xs : List Value} (h : Row w e z v xs) (hl : xs.length = n * z) (hz : 0 < z) :
    (∃ a c, v = .slice a n c ∧ n ≤ c ∧ c ≤ maxLen) ∧ (0 < n → ∃ g c, v = .slice (some ⟨g, 0, none⟩) n c ∧ n ≤ c ∧ c ≤ maxLen ∧ g < w.heap.size ∧ (∀ j u, xs[j]? = some u → w.cell? ⟨g, j, none⟩ = some u) ∧ ∀ j, w.frozen? ⟨g, j, none⟩ = false) := by
  obtain ⟨n', v0, h1, _, h3⟩ := h.elim
  have e1 := h1.1
  obtain rfl : n' = n := Nat.eq_of_mul_eq_mul_right hz (e1.symm.trans hl)
  have cells : ∀ g c, v0 = .slice (some ⟨g, 0, none⟩) n' c → (∀ j u, xs[j]? = some u → w.cell? ⟨g, j, none⟩ = some u) ∧ (∀ j, w.frozen? ⟨g, j, none⟩ = false) := fun g c ev => by
    subst ev
    refine ⟨fun j u hu => ?_, fun j => World.ownsRow.frozenAt h1 j⟩
    have hj : j < xs.length := by
      by_cases hj : j < xs.length
      · exact hj
      · rw [List.getElem?_eq_none (by omega)] at hu; cases hu
    rw [World.ownsRow.cellAt h1 j (by omega)]
    exact hu
  rcases h1.2 with ⟨ev, h0⟩ | ⟨g, cap, cur, ev, _, hg, hle, hcap, _, _⟩
  · rcases h3 with rfl | ⟨g, cap, c', e2, _⟩
    · rw [ev, h0]
      exact ⟨⟨none, 0, rfl, Nat.le_refl _, Nat.zero_le _⟩, fun hn => by omega⟩
    · rw [ev] at e2; cases e2
  · obtain ⟨c1, c2⟩ := cells g cap ev
    rcases h3 with rfl | ⟨g2, cap2, c2', e2, rfl, hle2, hle3⟩
    · exact ⟨⟨_, _, ev, hle, hcap⟩, fun _ => ⟨g, cap, ev, hle, hcap, lt_of_block hg, c1, c2⟩⟩
    · rw [ev] at e2
      injection e2 with e2 _ e3
      injection e2 with e2
      injection e2 with e2 _ _
      subst e2 e3
      exact ⟨⟨_, _, rfl, hle2, Nat.le_trans hle3 hcap⟩, fun _ => ⟨g, cap2, rfl, hle2, Nat.le_trans hle3 hcap, lt_of_block hg, c1, c2⟩⟩
/-- A row: its form. -/
theorem Row.form {w : World} {e : TypeId} {v : Value} {xs : List Value} (h : Row w e 1 v xs) : ∃ a c, v = .slice a xs.length c ∧ xs.length ≤ c ∧ c ≤ maxLen := (h.atZ (by omega) (by omega)).1
/-- A row that is not empty: where it lies. -/
theorem Row.at {w : World} {e : TypeId} {v : Value} {xs : List Value} (h : Row w e 1 v xs) (hn : 0 < xs.length) :
    ∃ g c, v = .slice (some ⟨g, 0, none⟩) xs.length c ∧ xs.length ≤ c ∧ c ≤ maxLen ∧ g < w.heap.size ∧ (∀ j u, xs[j]? = some u → w.cell? ⟨g, j, none⟩ = some u) ∧ ∀ j, w.frozen? ⟨g, j, none⟩ = false := (h.atZ (by omega) (by omega)).2 hn
/-- A row that has an address: the block. -/
theorem Row.block {w : World} {e : TypeId} {z g n c : Nat} {xs : List Value} (h : Row w e z (.slice (some ⟨g, 0, none⟩) n c) xs) : ∃ c', w.ownsRow 0 e z (.slice (some ⟨g, 0, none⟩) n c') n xs ∧ n ≤ c ∧ c ≤ c' := by
  obtain ⟨m, v0, h1, h2⟩ := h
  rcases h2 with rfl | ⟨g', cap, c', rfl, hv, h3, h4⟩
  · rcases h1.2 with ⟨hv, _⟩ | ⟨g', cap', cur, hv, _, _, hle, _⟩
    · cases hv
    · injection hv with _ e2 e3
      subst e2 e3
      exact ⟨_, h1, hle, Nat.le_refl _⟩
  · injection hv with e1 e2 e3
    injection e1 with e1
    injection e1 with e1 _ _
    subst e1 e2 e3
    exact ⟨c', h1, h3, h4⟩
theorem Row.of {w : World} {e : TypeId} {z g n c c' : Nat} {xs : List Value} (h : w.ownsRow 0 e z (.slice (some ⟨g, 0, none⟩) n c') n xs) (h1 : n ≤ c) (h2 : c ≤ c') : Row w e z (.slice (some ⟨g, 0, none⟩) n c) xs := ⟨n, _, h, .inr ⟨g, c, c', rfl, rfl, h1, h2⟩⟩
theorem Row.store {w : World} {e : TypeId} {z g n c : Nat} {xs : List Value} (h : Row w e z (.slice (some ⟨g, 0, none⟩) n c) xs) (j : Nat) (u : Value) :
    Row (w.setCell ⟨g, j, none⟩ u) e z (.slice (some ⟨g, 0, none⟩) n c) (xs.set j u) := by
  obtain ⟨c', h, h1, h2⟩ := h.block
  exact Row.of (World.ownsRow.stored h j u).1 h1 h2
/-- A row that is cut, its capacity too. -/
theorem Row.cut3 {w : World} {e : TypeId} {g n c k c2 : Nat} {xs : List Value} (h : Row w e 1 (.slice (some ⟨g, 0, none⟩) n c) xs) (hk : k ≤ xs.length) (h2 : k ≤ c2) (h3 : c2 ≤ c) : Row w e 1 (.slice (some ⟨g, 0, none⟩) k c2) (xs.take k) := by
  obtain ⟨c', ⟨h1, h4⟩, h5, h6⟩ := h.block
  rw [Nat.mul_one] at h1
  rcases h4 with ⟨hv, _⟩ | ⟨g', cap, cur, hv, hB, hg, hle, hcap, hsz, htk⟩
  · cases hv
  · injection hv with e1 e2 e3
    injection e1 with e1
    injection e1 with e1 _ _
    subst e1 e3
    refine Row.of (c' := c') ⟨by simp; omega, .inr ⟨g, c', cur, rfl, hB, hg, by omega, hcap, hsz, ?_⟩⟩ h2 (by omega)
    have := congrArg (List.take k) htk
    rw [List.take_take] at this
    rw [← this]
    congr 1
    omega
theorem Row.cut {w : World} {e : TypeId} {g n c k : Nat} {xs : List Value} (h : Row w e 1 (.slice (some ⟨g, 0, none⟩) n c) xs) (hk : k ≤ xs.length) : Row w e 1 (.slice (some ⟨g, 0, none⟩) k c) (xs.take k) := by
  obtain ⟨c', h1, h2, _⟩ := h.block
  have := h1.1
  exact h.cut3 hk (by omega) (Nat.le_refl _)

/-- append, to such a row. -/
theorem Row.app {P : Program} {w : World} (t ty e : TypeId) (i : TypeInfo) (zv : Value) (bytes : Nat) (ht : P.underlying t = some (.slice e)) (hi : P.info? e = some i) (hz : i.zero = some zv) (hsize : i.size = 1) (hby : i.bytes = bytes) (hzs : zv.cells.size = 1)
    {v : Value} {xs : List Value} (h : Row w e 1 v xs) (a : Addr) (m c : Nat) (news : List Value) (hl : news.length = m) (hnews : ∀ j u, news[j]? = some u → w.cell? (a.add j) = some u) (h1 : ∀ u ∈ news, u.oneCell' = true) (h63 : xs.length + m ≤ maxLen) (hbytes : (xs.length + m) * bytes ≤ 140737488355328) :
    ∃ v' w', (Builtin.append_ #[t, t] ty #[v, .slice (some a) m c]).run P w = .ok v' w' ∧ Row w' e 1 v' (xs ++ news) ∧ Grew w w' v v' ∧ (v' = .slice none 0 0 ↔ v = .slice none 0 0 ∧ m = 0) := by
  obtain ⟨n, v0, ho, hb, h3⟩ := h.elim
  have hn : xs.length = n := by have := ho.1; omega
  rw [hn] at h63 hbytes
  rcases h3 with rfl | ⟨g, cap, c', rfl, rfl, hnc, hcc⟩
  · obtain ⟨v', w', r, q1, q2, q3, q4⟩ := run_append_own_at (P := P) (w := w) 0 t ty e i zv 1 bytes ht hi hz hsize hby hzs (by decide) v n xs ho a m c news (by omega) hnews h1 h63 hbytes (Nat.zero_le _)
    refine ⟨v', w', r, Row.own q1, ⟨q2, ?_⟩, q3⟩
    rcases q4 with q4 | q4
    · exact .inl q4
    · exact .inr ⟨_, q4, Nat.le_refl _⟩
  · by_cases hr : n + m ≤ cap
    · obtain ⟨v', w', r, q1, q2, q3, q4⟩ := run_append_own_at (P := P) (w := w) 0 t ty e i zv 1 bytes ht hi hz hsize hby hzs (by decide) _ n xs ho a m c news (by omega) hnews h1 h63 hbytes (Nat.zero_le _)
      have hcap : ∀ j, n ≤ j → j < c' → (w.cell? ⟨g, j, none⟩).isSome = true ∧ w.frozen? ⟨g, j, none⟩ = false := fun j _ hj => by
        rcases ho.2 with ⟨hv, _⟩ | ⟨g', cap', cur, hv, _, hg, _, _, hsz, _⟩
        · cases hv
        · injection hv with e1 _ e3
          injection e1 with e1
          injection e1 with e1 _ _
          subst e1 e3
          rw [cell_of_row w g j cur e (0, 0) hg, frozen_of_row w g j cur e hg]
          refine ⟨?_, rfl⟩
          rw [Array.getElem?_eq_getElem (by omega)]; rfl
      have room : ∀ k, n + m ≤ k → k ≤ c' → (Builtin.append_ #[t, t] ty #[.slice (some ⟨g, 0, none⟩) n k, .slice (some a) m c]).run P w = .ok (.slice (some ⟨g, 0, none⟩) (n + m) k) (w.setCells g (0 + n * i.size) news) := fun k hk hk' =>
        run_append_room_cells (P := P) w t ty e i ht hi g 0 n k a m c news (by rw [hsize]; omega) hnews h1 hk
          (fun j hj => by rw [hsize, Nat.mul_one, Nat.zero_add]; exact (hcap (n + j) (by omega) (by omega)).1) (fun j hj => by rw [hsize, Nat.mul_one, Nat.zero_add]; exact (hcap (n + j) (by omega) (by omega)).2)
      rw [room c' (by omega) (Nat.le_refl _)] at r
      injection r with r1 r2
      subst r1 r2
      refine ⟨_, _, room cap hr hcc, Row.of q1 hr hcc, ⟨q2, .inl rfl⟩, ⟨(fun h => by cases h), (fun h => by cases h.1)⟩⟩
    · obtain ⟨v', w', r, q1, q2⟩ := run_append_arg_grows (P := P) w t ty e i zv 1 bytes ht hi hz hsize hby hzs (by decide) ⟨g, 0, none⟩ n cap xs (by omega) (fun j u hu => ho.cells (g := g) rfl j u hu) a m c news (by omega) hnews (by omega) h63 hbytes
      refine ⟨v', w', r, Row.own (q1.mono (Nat.zero_le _)), ⟨⟨q2.os, q2.tape, q2.output, q2.size, fun k hk _ => q2.block k hk (by simp)⟩, ?_⟩, ⟨fun h => ?_, (fun h => by cases h.1)⟩⟩
      · cases hk : v'.ownBlock with
        | none =>
          exfalso
          rcases q1.2 with ⟨_, h0⟩ | ⟨g', cap', cur, hv, _⟩
          · omega
          · rw [hv] at hk; cases hk
        | some k => exact .inr ⟨k, rfl, (q1.lt k hk).1⟩
      · exfalso
        subst h
        rcases q1.2 with ⟨_, h0⟩ | ⟨g', cap', cur, hv, _⟩
        · omega
        · cases hv

/-- The rows of a trail: the clauses, the watched, what is known, the literals, the levels' starts, the short ones; each clause; each watch list. -/
inductive Sl
  | cl | wa | fa | li | st | sh
  | C (k : Nat)
  | W (j : Nat)
  deriving DecidableEq
def Sl.e : Sl → TypeId
  | .cl => 23 | .wa => 23 | .fa => 64 | _ => 3
def Sl.z : Sl → Nat
  | .fa => 3 | _ => 1

/-- The box at b; its rows, apart from each other and from it; none of it in the blocks of B, which lie there. -/
structure Mem (w : World) (B : Nat → Prop) (b : Nat) (bx : Array Value) (val : Sl → Value) (ct : Sl → List Value) : Prop where
  box : w.heap[b]? = some (.cells bx 62 (0, 0))
  row : ∀ s, Row w s.e s.z (val s) (ct s)
  apart : ∀ s t, s ≠ t → ApartV (val s) (val t)
  nb : ∀ s, (val s).ownBlock ≠ some b
  base : ¬ B b
  nB : ∀ s k, (val s).ownBlock = some k → ¬ B k
  lt : There B w

variable {w : World} {B : Nat → Prop} {b : Nat} {bx : Array Value} {val : Sl → Value} {ct : Sl → List Value}

def upS {α : Type} (f : Sl → α) (s : Sl) (a : α) : Sl → α := fun t => if t = s then a else f t
theorem upS_same {α : Type} (f : Sl → α) (s : Sl) (a : α) : upS f s a s = a := if_pos rfl
theorem upS_other {α : Type} (f : Sl → α) {s t : Sl} (a : α) (h : t ≠ s) : upS f s a t = f t := if_neg h

theorem Mem.below {w' : World} {n : Nat} (h : Mem w B b bx val ct) (hb : Below n w w') (hB : w.heap.size ≤ n) : Mem w' B b bx val ct :=
  { h with
    box := by rw [hb.block b (by have := lt_of_block h.box; omega)]; exact h.box
    row := fun s => (h.row s).kept fun k hk => hb.block k (by have := (h.row s).lt k hk; omega)
    lt := h.lt.below hb }
theorem Mem.drew (h : Mem w B b bx val ct) : Mem w.drew B b bx val ct := h.below (Below.refl _ _).drew (Nat.le_refl _)
theorem Mem.alloc (h : Mem w B b bx val ct) (o : Obj) : Mem (w.alloc o) B b bx val ct := h.below ((Below.refl _ _).alloc (Nat.le_refl _) o) (Nat.le_refl _)
theorem Mem.bcell (h : Mem w B b bx val ct) (i : Nat) : w.cell? ⟨b, i, none⟩ = bx[i]? := by simp [World.cell?, h.box]
theorem Mem.bfr (h : Mem w B b bx val ct) (o : Nat) : w.frozen? ⟨b, o, none⟩ = false := by simp [World.frozen?, h.box]

/-- A store into the box. -/
theorem Mem.setBox (h : Mem w B b bx val ct) (i : Nat) (u : Value) : Mem (w.setCell ⟨b, i, none⟩ u) B b (bx.setIfInBounds i u) val ct :=
  { h with
    box := heap_setCell_same w b i bx 62 u h.box
    row := fun s => (h.row s).kept fun k hk => heap_setCell_other w ⟨b, i, none⟩ k u (fun e => h.nb s (by rw [hk, e]))
    lt := fun k hk => by have := h.lt k hk; simpa [World.setCell] using this }

/-- A store into a row. -/
theorem Mem.store {g n c : Nat} (h : Mem w B b bx val ct) (s : Sl) (hs : val s = .slice (some ⟨g, 0, none⟩) n c) (j : Nat) (u : Value) : Mem (w.setCell ⟨g, j, none⟩ u) B b bx val (upS ct s ((ct s).set j u)) :=
  { h with
    box := (heap_setCell_other w ⟨g, j, none⟩ b u (fun e => h.nb s (by rw [hs, e]; rfl))).trans h.box
    row := fun t => by
      by_cases e : t = s
      · subst e
        rw [upS_same]
        have := h.row t
        rw [hs] at this ⊢
        exact this.store j u
      · rw [upS_other _ _ e]
        refine (h.row t).kept fun k hk => heap_setCell_other w ⟨g, j, none⟩ k u (fun e' => ?_)
        have := h.apart t s e
        unfold ApartV at this
        rw [hs, hk] at this
        rcases this with h1 | h1
        · cases h1
        · exact h1 (by rw [e']; rfl)
    lt := fun k hk => by have := h.lt k hk; simpa [World.setCell] using this }

/-- A row that has grown. -/
theorem Mem.grew {w' : World} {v' : Value} {xs' : List Value} (h : Mem w B b bx val ct) (s : Sl) (hg : Grew w w' (val s) v') (hr : Row w' s.e s.z v' xs') : Mem w' B b bx (upS val s v') (upS ct s xs') := by
  have hne : ∀ t, t ≠ s → (val t).ownBlock = none ∨ (val t).ownBlock ≠ (val s).ownBlock := fun t ht => h.apart t s ht
  have hv' : ∀ k, v'.ownBlock = some k → (val s).ownBlock = some k ∨ w.heap.size ≤ k := fun k hk => by
    rcases hg.2 with e | ⟨k', e, hk'⟩
    · exact .inl (e ▸ hk)
    · rw [e] at hk; injection hk with hk; exact .inr (hk ▸ hk')
  refine ⟨(hg.1.block b (lt_of_block h.box) (fun e => h.nb s e.symm)).trans h.box, fun t => ?_, fun t u htu => ?_, fun t => ?_, h.base, fun t k hk => ?_, fun k hk => Nat.lt_of_lt_of_le (h.lt k hk) hg.1.size⟩
  · by_cases e : t = s
    · subst e; rw [upS_same, upS_same]; exact hr
    · rw [upS_other _ _ e, upS_other _ _ e]; exact (h.row t).grown hg.1 (hne t e)
  · have key : ∀ t, t ≠ s → ApartV v' (val t) := fun t ht => by
      by_cases e : v'.ownBlock = (val t).ownBlock
      · cases hk : v'.ownBlock with
        | none => exact .inl hk
        | some k =>
          rw [hk] at e
          rcases hv' k hk with h1 | h1
          · rcases hne t ht with h2 | h2
            · rw [h2] at e; cases e
            · exact absurd (e.symm.trans h1.symm) h2
          · have := (h.row t).lt k e.symm
            omega
      · exact .inr e
    by_cases e1 : t = s
    · subst e1
      rw [upS_same, upS_other _ _ (fun e => htu e.symm)]
      exact key u (fun e => htu e.symm)
    · rw [upS_other _ _ e1]
      by_cases e2 : u = s
      · subst e2
        rw [upS_same]
        rcases key t e1 with k | k
        · by_cases e : (val t).ownBlock = none
          · exact .inl e
          · exact .inr (fun e' => e (e'.trans k))
        · exact .inr (fun e' => k e'.symm)
      · rw [upS_other _ _ e2]; exact h.apart t u htu
  · by_cases e : t = s
    · subst e
      rw [upS_same]
      intro hk
      rcases hv' b hk with h1 | h1
      · exact h.nb t h1
      · have := lt_of_block h.box; omega
    · rw [upS_other _ _ e]; exact h.nb t
  · by_cases e : t = s
    · subst e
      rw [upS_same] at hk
      intro hB
      rcases hv' k hk with h1 | h1
      · exact h.nB t k h1 hB
      · have := h.lt k hB; omega
    · rw [upS_other _ _ e] at hk; exact h.nB t k hk

/-- A row that is cut. -/
theorem Mem.cut {g n c k : Nat} (h : Mem w B b bx val ct) (s : Sl) (hz : s.z = 1) (hs : val s = .slice (some ⟨g, 0, none⟩) n c) (hk : k ≤ (ct s).length) :
    Mem w B b bx (upS val s (.slice (some ⟨g, 0, none⟩) k c)) (upS ct s ((ct s).take k)) := by
  have hb : ∀ t, (upS val s (.slice (some ⟨g, 0, none⟩) k c) t).ownBlock = (val t).ownBlock := fun t => by
    by_cases e : t = s
    · subst e; rw [upS_same, hs]; rfl
    · rw [upS_other _ _ e]
  refine ⟨h.box, fun t => ?_, fun t u htu => ?_, fun t => ?_, h.base, fun t k hk => ?_, h.lt⟩
  · by_cases e : t = s
    · subst e
      rw [upS_same, upS_same]
      have := h.row t
      rw [hs, hz] at this
      rw [hz]
      exact this.cut hk
    · rw [upS_other _ _ e, upS_other _ _ e]; exact h.row t
  · unfold ApartV
    rw [hb, hb]
    exact h.apart t u htu
  · rw [hb]; exact h.nb t
  · rw [hb] at hk; exact h.nB t k hk
end Go.Proofs.Ytngegkgmenfelaa
