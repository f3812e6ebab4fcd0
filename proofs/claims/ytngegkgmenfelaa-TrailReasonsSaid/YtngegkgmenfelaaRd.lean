/-
  The document's trail: New.
-/
import Derived.Test.YtngegkgmenfelaaRc
import Derived.Test.YtngegkgmenfelaaLa
namespace Go.Proofs.Ytngegkgmenfelaa
open Go.RowKit Go.Lib
attribute [local go_sem ↓] Go.wp_at_zero Go.wp_at_succ

def newR (n : Nat) (L : List (List Int)) : Ref := ⟨n, L, [], [], List.replicate n 0⟩
def NewRef (w : World) (S : Nat → Prop) (n : Nat) (L : List (List Int)) (p : Nat) (wf : World) : Prop :=
  ∃ M' S' : Nat → Prop, RefAt wf M' S' p (newR n L) ∧ Below w.heap.size w wf ∧ (∀ k, S k → S' k) ∧ ∀ k, M' k ∨ S' k → S k ∨ w.heap.size ≤ k
def newValR (vL : Value) : Rl → Value
  | .L => vL | _ => .slice none 0 0
def newCtR (news : List Value) : Rl → List Value
  | .L => news | _ => []
def boxObj (n : Nat) (vL : Value) (gA : Nat) : Obj := .cells #[.int .i64 (n : Nat), vL, .slice none 0 0, .slice none 0 0, .slice (some ⟨gA, 0, none⟩) n n] 48
def zerosObj (n : Nat) : Obj := .cells (Array.replicate n (.int .i64 0)) 3

theorem new_ref {w wf : World} {S : Nat → Prop} {n : Nat} {L : List (List Int)} {p gA : Nat} {vL : Value} {news : List Value} (hS : There S w) (hb : Below w.heap.size w wf) (hn : n ≤ 20000)
    (h1 : wf.heap[p]? = some (boxObj n vL gA)) (h2 : wf.heap[gA]? = some (zerosObj n)) (h3 : Row wf 23 1 vL news) (hv : ∀ k, vL.ownBlock = some k → w.heap.size ≤ k ∧ k ≠ p ∧ k ≠ gA) (hp : w.heap.size ≤ p) (hg : w.heap.size ≤ gA) (hne : gA ≠ p)
    (hl : news.length = L.length) (he : ∀ j, j < L.length → Stays S w fun w2 => Reads w2 (news.getD j undef) (L.getD j [])) : NewRef w S n L p wf := by
  have hk : Keep S w wf := (Keep.refl S w).below hb hS
  refine ⟨fun k => k = p ∨ vL.ownBlock = some k, fun k => S k ∨ k = gA, ⟨newValR vL, newCtR news, .slice (some ⟨gA, 0, none⟩) n n, ⟨h1, fun s => ?_, fun s t hst => ?_, .inl rfl, fun s k hk => ?_, fun k hk hm => ?_, fun k hk => ?_, fun k hk => ?_⟩, ⟨hl, fun j hj => ?_, rfl, rfl, fun j hj => absurd hj (Nat.not_lt_zero _), ?_⟩⟩, hb, fun k h => .inl h, fun k hk => ?_⟩
  · cases s with
    | L => exact h3
    | D => exact Row.nil _ _ _
    | K => exact Row.nil _ _ _
  · cases s with
    | L =>
      cases t with
      | L => exact absurd rfl hst
      | D =>
        cases hk : vL.ownBlock with
        | none => exact .inl hk
        | some k => exact .inr (by show vL.ownBlock ≠ _; rw [hk]; simp [newValR, Value.ownBlock])
      | K =>
        cases hk : vL.ownBlock with
        | none => exact .inl hk
        | some k => exact .inr (by show vL.ownBlock ≠ _; rw [hk]; simp [newValR, Value.ownBlock])
    | D => exact .inl rfl
    | K => exact .inl rfl
  · cases s with
    | L => exact ⟨.inr hk, (hv k hk).2.1⟩
    | D => cases hk
    | K => cases hk
  · rcases hm with hm | hm
    · rcases hk with hk | hk
      · have := hS k hk; omega
      · omega
    · have h4 := hv k hm
      rcases hk with hk | hk
      · have := hS k hk; omega
      · exact h4.2.2 hk
  · rcases hk with hk | hk
    · rw [hk]; exact lt_of_block h1
    · exact h3.lt k hk
  · rcases hk with hk | hk
    · exact Nat.lt_of_lt_of_le (hS k hk) hb.size
    · rw [hk]; exact lt_of_block h2
  · exact ((he j hj).step hk).grow fun k h => .inl h
  · intro w2 hk2
    have h5 := (hk2.block gA (.inr rfl)).trans h2
    have : Row w2 3 1 (.slice (some ⟨gA, 0, none⟩) n n) (ints (List.replicate n 0)) :=
      Row.own (n := n) ⟨by simp [ints], .inr ⟨gA, n, Array.replicate n (.int .i64 0), rfl, Nat.zero_le _, h5, Nat.le_refl _, by unfold maxLen; omega, by simp, by simp [ints]⟩⟩
    exact this.reads
  · rcases hk with (hk | hk) | hk | hk
    · rw [hk]; exact .inr hp
    · exact .inr (hv k hk).1
    · exact .inl hk
    · rw [hk]; exact .inr hg

/-- What is appended to nothing: the given rows. -/
theorem readsL_source {W w : World} {a : Option Addr} {q c : Nat} {L : List (List Int)} {S : Nat → Prop} (h : ReadsL W (.slice a q c) L) (hb0 : Below W.heap.size W w) (hO : ∀ k, Old W k → S k) (hq : L.length = q) :
    ∃ news : List Value, news.length = q ∧ (∀ u ∈ news, u.oneCell' = true) ∧ (∀ w', Below w.heap.size w w' → Source w' a q news) ∧ ∀ j, j < L.length → Stays S w fun w2 => Reads w2 (news.getD j undef) (L.getD j []) := by
  rcases h with ⟨_, hL⟩ | ⟨b, off, c', vs, e, hb, hc⟩
  · have h0 : q = 0 := by rw [← hq, hL]; rfl
    subst h0
    exact ⟨[], rfl, by simp, fun w' _ => .inl ⟨rfl, rfl⟩, fun j hj => by rw [hL] at hj; simp at hj⟩
  · injection e with e1 e2 e3
    have hget : ∀ j, j < q → ((List.range q).map vs).getD j undef = vs j := fun j hj => by simp [hj]
    refine ⟨(List.range q).map vs, by simp, fun u hu => ?_, fun w' hb' => .inr ⟨⟨b, off, none⟩, e1, fun j u hu => ?_⟩, fun j hj w2 hk => ?_⟩
    · obtain ⟨j, hj, rfl⟩ := List.mem_map.1 hu
      obtain ⟨va, vc, ev⟩ := (hc j (by rw [hq]; exact List.mem_range.1 hj)).2.form
      rw [ev]; rfl
    · rw [List.getElem?_map] at hu
      have hj : j < q := by
        by_cases hj : j < q
        · exact hj
        · rw [List.getElem?_eq_none (by simp; omega)] at hu; cases hu
      rw [List.getElem?_range hj] at hu
      injection hu with hu
      subst hu
      rw [add_off]
      have hb1 := hb0.trans (hb'.mono hb0.size)
      exact (hb1.cell (p := ⟨b, off + j, none⟩) hb).trans (hc j (by rw [hq]; exact hj)).1
    · rw [hget j (by rw [← hq]; exact hj)]
      exact (hc j hj).2.below (old_keep hb0 (hk.mono hO)) (Nat.le_refl _)

set_option maxRecDepth 1000000 in
theorem NewM_no {w : World} {s : Value} {L : List (List Int)} (n : Int) (h : ReadsL w s L) (hx : In64L L) (hl : L.length ≤ 1000000) (hcl : ∀ c ∈ L, c.length ≤ 1000000) (hr : rightB n L = false) :
    Calls Try.prog 18 #[.int .i64 n, s] w fun e w' => e = .returned (.tuple #[.pointer none, .int .i64 1]) ∧ w' = w := by
  have HR := Lib.hid (RightR_any n h hx hl hcl)
  rw [hr] at HR
  obtain ⟨a, c, rfl⟩ := h.form
  generalize L.length = q at *
  clear h hx hr hl hcl
  go_enter Try.func18, Try.ntmps18
  go_wp2_with (go_at_call 37; refine HR.out.mono ?_; rintro e w1 ⟨rfl, hw⟩; obtain rfl := hw.symm)
  go_ret2
  exact ⟨rfl, rfl⟩

theorem newA {w w1 : World} {S : Nat → Prop} {n : Nat} {L : List (List Int)} {v1 : Value} {news : List Value} (hS : There S w) (hn : n ≤ 20000) (hl : news.length = L.length) (he : ∀ j, j < L.length → Stays S w fun w2 => Reads w2 (news.getD j undef) (L.getD j []))
    (o1 : Row w1 23 1 v1 ([] ++ news)) (g1 : Grew (w.alloc (.cells #[] 23)).drew w1 (.slice (some ⟨w.heap.size, 0, none⟩) 0 0) v1) : NewRef w S n L (w1.heap.size + 1) ((w1.alloc (zerosObj n)).alloc (boxObj n v1 w1.heap.size)) := by
  have hb0 : Below w.heap.size w (w.alloc (.cells #[] 23)).drew := ((Below.refl _ _).alloc (Nat.le_refl _) _).drew
  have hb1 : Below w.heap.size w w1 := hb0.grown g1.1 hb0.size (fun k hk => by injection hk with hk; rw [← hk]; exact Nat.le_refl _)
  have hv1 : ∀ k, v1.ownBlock = some k → w.heap.size ≤ k := fun k hk => by
    rcases g1.2 with e | ⟨i, e, hi⟩
    · rw [hk] at e; injection e with e; rw [e]; exact Nat.le_refl _
    · rw [e] at hk; injection hk with hk; rw [← hk]; exact Nat.le_trans hb0.size hi
  have s1 : (w1.alloc (zerosObj n)).heap.size = w1.heap.size + 1 := by simp
  have hbf : Below w1.heap.size w1 ((w1.alloc (zerosObj n)).alloc (boxObj n v1 w1.heap.size)) := ((Below.refl _ _).alloc (Nat.le_refl _) _).alloc (by rw [s1]; omega) _
  have a1 := heap_alloc_new w1 (zerosObj n)
  have a2 := heap_alloc_new (w1.alloc (zerosObj n)) (boxObj n v1 w1.heap.size)
  rw [s1] at a2
  rw [List.nil_append] at o1
  have hsz := hb1.size
  refine new_ref hS (hb1.trans (hbf.mono hb1.size)) hn a2 ((Below.heap_alloc _ _ w1.heap.size (by rw [s1]; omega)).trans a1) (o1.kept fun k hk => hbf.block k (o1.lt k hk)) (fun k hk => ?_) (by omega) hsz (by omega) hl he
  have := o1.lt k hk
  exact ⟨hv1 k hk, by omega, by omega⟩
theorem newBC {w wp w1 : World} {S : Nat → Prop} {n gA g0 : Nat} {L : List (List Int)} {v1 : Value} {news : List Value} (hS : There S w) (hn : n ≤ 20000) (hl : news.length = L.length) (he : ∀ j, j < L.length → Stays S w fun w2 => Reads w2 (news.getD j undef) (L.getD j []))
    (hb0 : Below w.heap.size w wp) (hZ : wp.heap[gA]? = some (zerosObj n)) (hg : w.heap.size ≤ gA) (hg0 : w.heap.size ≤ g0) (hne : g0 ≠ gA)
    (o1 : Row w1 23 1 v1 ([] ++ news)) (g1 : Grew wp w1 (.slice (some ⟨g0, 0, none⟩) 0 0) v1) : NewRef w S n L w1.heap.size (w1.alloc (boxObj n v1 gA)) := by
  have hb1 : Below w.heap.size w w1 := hb0.grown g1.1 hb0.size (fun k hk => by injection hk with hk; rw [← hk]; exact hg0)
  have hgp : gA < wp.heap.size := lt_of_block hZ
  have hv1 : ∀ k, v1.ownBlock = some k → w.heap.size ≤ k ∧ k ≠ gA := fun k hk => by
    rcases g1.2 with e | ⟨i, e, hi⟩
    · rw [hk] at e; injection e with e; rw [e]; exact ⟨hg0, hne⟩
    · rw [e] at hk; injection hk with hk; rw [← hk]; exact ⟨Nat.le_trans hb0.size hi, by omega⟩
  have hZ1 : w1.heap[gA]? = some (zerosObj n) := (g1.1.block gA hgp (fun e => by injection e with e; exact hne e.symm)).trans hZ
  have hbf : Below w1.heap.size w1 (w1.alloc (boxObj n v1 gA)) := (Below.refl _ _).alloc (Nat.le_refl _) _
  rw [List.nil_append] at o1
  have hgs := lt_of_block hZ1
  refine new_ref hS (hb1.trans (hbf.mono hb1.size)) hn (heap_alloc_new _ _) ((Below.heap_alloc _ _ gA hgs).trans hZ1) (o1.kept fun k hk => hbf.block k (o1.lt k hk)) (fun k hk => ?_) hb1.size hg (by omega) hl he
  have := o1.lt k hk
  exact ⟨(hv1 k hk).1, by omega, (hv1 k hk).2⟩

set_option maxRecDepth 1000000 in
set_option maxHeartbeats 4000000 in
theorem NewM_ok {W w : World} {S : Nat → Prop} {s : Value} {L : List (List Int)} (n : Nat) (h : ReadsL W s L) (hb0 : Below W.heap.size W w) (hO : ∀ k, Old W k → S k) (hS : There S w) (hx : In64L L) (hl : L.length ≤ 60) (hcl : ∀ c ∈ L, c.length ≤ 1000000) (hr : rightB n L = true) :
    Calls Try.prog 18 #[.int .i64 (n : Nat), s] w fun e w' => ∃ p, e = .returned (.tuple #[.pointer (some ⟨p, 0, none⟩), .int .i64 0]) ∧ NewRef w S n L p w' := by
  obtain ⟨hn, _, _⟩ := rightB_all hr
  have HR := Lib.hid (RightR_any n (readsL_old h hb0) hx (by omega) hcl)
  rw [hr] at HR
  have hmk := make_ints n (by omega)
  obtain ⟨a, c, rfl⟩ := h.form
  obtain ⟨q, hq⟩ : ∃ q, L.length = q := ⟨_, rfl⟩
  obtain ⟨news, hnl, hn1, hsrc, hel⟩ := readsL_source (S := S) (hq ▸ h) hb0 hO hq
  have HQ := Lib.hid hq
  rw [hq] at HR ⊢
  have HNL := Lib.hid hnl
  have HN1 := Lib.hid hn1
  have HSRC := Lib.hid hsrc
  have HEL := Lib.hid hel
  have HS := Lib.hid hS
  have hq60 : q ≤ 60 := by omega
  have s1 : (w.alloc (.cells #[] 23)).heap.size = w.heap.size + 1 := by simp
  have s2 : (w.alloc (zerosObj n)).heap.size = w.heap.size + 1 := by simp
  have RA : Hid (Row (w.alloc (.cells #[] 23)).drew 23 1 (.slice (some ⟨w.heap.size, 0, none⟩) 0 0) []) := Lib.hid (Row.kept (Row.empty w 23) (fun _ _ => rfl))
  have RB : Hid (Row ((w.alloc (.cells #[] 23)).alloc (zerosObj n)).drew 23 1 (.slice (some ⟨w.heap.size, 0, none⟩) 0 0) []) := Lib.hid (Row.kept (Row.empty w 23) (fun k hk => Below.heap_alloc _ _ k ((Row.empty w 23).lt k hk)))
  have RC : Hid (Row ((w.alloc (zerosObj n)).alloc (.cells #[] 23)).drew 23 1 (.slice (some ⟨w.heap.size + 1, 0, none⟩) 0 0) []) := Lib.hid (by
    have := Row.empty (w.alloc (zerosObj n)) 23
    rw [s2] at this
    exact Row.kept this (fun _ _ => rfl))
  have BA : Hid (Below w.heap.size w (w.alloc (.cells #[] 23)).drew) := Lib.hid ((Below.refl _ _).alloc (Nat.le_refl _) _).drew
  have BB : Hid (Below w.heap.size w ((w.alloc (.cells #[] 23)).alloc (zerosObj n)).drew) := Lib.hid (((Below.refl _ _).alloc (Nat.le_refl _) _).alloc (by rw [s1]; omega) _).drew
  have BC : Hid (Below w.heap.size w ((w.alloc (zerosObj n)).alloc (.cells #[] 23)).drew) := Lib.hid (((Below.refl _ _).alloc (Nat.le_refl _) _).alloc (by rw [s2]; omega) _).drew
  have ZB : Hid (((w.alloc (.cells #[] 23)).alloc (zerosObj n)).drew.heap[w.heap.size + 1]? = some (zerosObj n)) := Lib.hid (by rw [← s1]; exact heap_alloc_new _ _)
  have ZC : Hid (((w.alloc (zerosObj n)).alloc (.cells #[] 23)).drew.heap[w.heap.size]? = some (zerosObj n)) := Lib.hid ((Below.heap_alloc _ _ _ (by rw [s2]; omega)).trans (heap_alloc_new _ _))
  have HLE : Hid (news.length = L.length) := Lib.hid (by rw [hnl, hq])
  unfold zerosObj at RB RC BB BC ZB ZC
  clear h hx hr hb0 hO hS hnl hn1 hsrc hel hq hl hcl s1 s2
  go_enter Try.func18, Try.ntmps18
  go_wp2_with (go_at_call 37; refine HR.out.mono ?_; rintro e w1 ⟨rfl, hw⟩; obtain rfl := hw.symm)
  go_region_law (first
    | (refine step_appsS rfl (.tmp 13) (.tmp 14) rfl (.slice (some ⟨w.heap.size, 0, none⟩) 0 0) [] news rfl RA.out a q c rfl (HSRC.out _ BA.out) HNL.out HN1.out (by simp; omega) (fun v1 w1 o1 g1 => ?_)
       obtain ⟨a1, c1, hv1, _, _⟩ := o1.form
       generalize ([] ++ news).length = l1 at hv1
       subst hv1
       have HFIN := Lib.hid (newA HS.out hn HLE.out HEL.out o1 g1)
       unfold zerosObj boxObj at HFIN
       clear o1 g1)
    | (refine step_appsS rfl (.tmp 13) (.tmp 14) rfl (.slice (some ⟨w.heap.size, 0, none⟩) 0 0) [] news rfl RB.out a q c rfl (HSRC.out _ BB.out) HNL.out HN1.out (by simp; omega) (fun v1 w1 o1 g1 => ?_)
       obtain ⟨a1, c1, hv1, _, _⟩ := o1.form
       generalize ([] ++ news).length = l1 at hv1
       subst hv1
       have HFIN := Lib.hid (newBC HS.out hn HLE.out HEL.out BB.out ZB.out (by omega) (by omega) (by omega) o1 g1)
       unfold boxObj at HFIN
       clear o1 g1)
    | (refine step_appsS rfl (.tmp 13) (.tmp 14) rfl (.slice (some ⟨w.heap.size + 1, 0, none⟩) 0 0) [] news rfl RC.out a q c rfl (HSRC.out _ BC.out) HNL.out HN1.out (by simp; omega) (fun v1 w1 o1 g1 => ?_)
       obtain ⟨a1, c1, hv1, _, _⟩ := o1.form
       generalize ([] ++ news).length = l1 at hv1
       subst hv1
       have HFIN := Lib.hid (newBC HS.out hn HLE.out HEL.out BC.out ZC.out (by omega) (by omega) (by omega) o1 g1)
       unfold boxObj at HFIN
       clear o1 g1))
  all_goals clear RA RB RC BA BB BC ZB ZC HSRC HEL HS HLE
  all_goals go_wp2_with fail
  all_goals go_ret2
  all_goals exact ⟨_, rfl, HFIN.out⟩
end Go.Proofs.Ytngegkgmenfelaa
