/-
  Appends to rows of numbers and of rows; slices.Clone; Lits, Clause.
-/
import Derived.Test.YtngegkgmenfelaaWa
import Derived.Deep.RegionLaw
import Derived.Lib.SliceRun
namespace Go.Proofs.Ytngegkgmenfelaa
open Go.RowKit Go.Lib
attribute [local go_sem ↓] Go.wp_at_zero Go.wp_at_succ

/-- 'append(v, x...)', of numbers. -/
theorem wpList_app {w : World} {ops : Array Oper} {rest : List Oper} {o : Oper} {a : Act} {Q : Exit → Act → World → Prop} (hgd : o.guard = none) (s x : Operand)
    (ho : o.op = .call { callee := .builtin .append, args := #[s, x], argTypes := #[23, 23] }) (v : Value) (xs news : List Value) (hs : a.eval s = v) (hr : Row w 3 1 v xs)
    (ad : Addr) (m c : Nat) (hx : a.eval x = .slice (some ad) m c) (hm : news.length = m) (hn : ∀ j u, news[j]? = some u → w.cell? (ad.add j) = some u) (h1 : ∀ u ∈ news, u.oneCell' = true) (hlen : xs.length + m ≤ 1000000)
    (h : ∀ v' w', Row w' 3 1 v' (xs ++ news) → Grew w w' v v' → (v' = .slice none 0 0 ↔ v = .slice none 0 0 ∧ m = 0) → wpList Try.prog ops Q rest (a.put o.dst v') w') : wpList Try.prog ops Q (o :: rest) a w := by
  obtain ⟨i0, hi0, hz0, hz1, hz2⟩ := info_parts info3
  refine wpList_plain hgd fun K hK' => ?_
  obtain ⟨v', w', hrun, q1, q2, q3⟩ := hr.app (P := Try.prog) 23 o.type 3 i0 (.int .i64 0) 8 Try.underlying23 hi0 hz0 hz1 hz2 rfl ad m c news hm hn h1 (by unfold maxLen; omega) (by omega)
  have := h v' w' q1 q2 q3
  unfold Oper.wp
  simp [execOp, ho, resolve, invoke, builtin, hs, hx, hrun, Result.andThen]
  exact hK' _ _ this

/-- 'append(v, x...)', of rows. -/
theorem wpList_apps {w : World} {ops : Array Oper} {rest : List Oper} {o : Oper} {a : Act} {Q : Exit → Act → World → Prop} (hgd : o.guard = none) (s x : Operand)
    (ho : o.op = .call { callee := .builtin .append, args := #[s, x], argTypes := #[22, 22] }) (v : Value) (xs news : List Value) (hs : a.eval s = v) (hr : Row w 23 1 v xs)
    (ad : Addr) (m c : Nat) (hx : a.eval x = .slice (some ad) m c) (hm : news.length = m) (hn : ∀ j u, news[j]? = some u → w.cell? (ad.add j) = some u) (h1 : ∀ u ∈ news, u.oneCell' = true) (hlen : xs.length + m ≤ 1000000)
    (h : ∀ v' w', Row w' 23 1 v' (xs ++ news) → Grew w w' v v' → (v' = .slice none 0 0 ↔ v = .slice none 0 0 ∧ m = 0) → wpList Try.prog ops Q rest (a.put o.dst v') w') : wpList Try.prog ops Q (o :: rest) a w := by
  obtain ⟨i0, hi0, hz0, hz1, hz2⟩ := info_parts info23
  refine wpList_plain hgd fun K hK' => ?_
  obtain ⟨v', w', hrun, q1, q2, q3⟩ := hr.app (P := Try.prog) 22 o.type 23 i0 (.slice none 0 0) 24 Try.underlying22 hi0 hz0 hz1 hz2 rfl ad m c news hm hn h1 (by unfold maxLen; omega) (by omega)
  have := h v' w' q1 q2 q3
  unfold Oper.wp
  simp [execOp, ho, resolve, invoke, builtin, hs, hx, hrun, Result.andThen]
  exact hK' _ _ this

/-- The same, as one step of a region that draws. -/
theorem step_app {ops : Array Oper} {o : Oper} {a : Act} {w : World} {K : Act → World → Prop} {Q : Exit → Act → World → Prop} {E : Prop} (hgd : o.guard = none) (s x : Operand)
    (ho : o.op = .call { callee := .builtin .append, args := #[s, x], argTypes := #[23, 23] }) (v : Value) (xs news : List Value) (hs : a.eval s = v) (hr : Row w 3 1 v xs)
    (ad : Addr) (m c : Nat) (hx : a.eval x = .slice (some ad) m c) (hm : news.length = m) (hn : ∀ j u, news[j]? = some u → w.cell? (ad.add j) = some u) (h1 : ∀ u ∈ news, u.oneCell' = true) (hlen : xs.length + m ≤ 1000000)
    (h : ∀ v' w', Row w' 3 1 v' (xs ++ news) → Grew w w' v v' → K (a.put o.dst v') w') : if Region.wanted o (yielded ops a.tmps) = true then Oper.wp Try.prog o a w K Q else E := by
  have hw : Region.wanted o (yielded ops a.tmps) = true := by simp [Region.wanted, hgd]
  rw [if_pos hw]
  obtain ⟨i0, hi0, hz0, hz1, hz2⟩ := info_parts info3
  obtain ⟨v', w', hrun, q1, q2, _⟩ := hr.app (P := Try.prog) 23 o.type 3 i0 (.int .i64 0) 8 Try.underlying23 hi0 hz0 hz1 hz2 rfl ad m c news hm hn h1 (by unfold maxLen; omega) (by omega)
  have := h v' w' q1 q2
  unfold Oper.wp
  simp [execOp, ho, resolve, invoke, builtin, hs, hx, hrun, Result.andThen]
  exact this
theorem step_apps {ops : Array Oper} {o : Oper} {a : Act} {w : World} {K : Act → World → Prop} {Q : Exit → Act → World → Prop} {E : Prop} (hgd : o.guard = none) (s x : Operand)
    (ho : o.op = .call { callee := .builtin .append, args := #[s, x], argTypes := #[22, 22] }) (v : Value) (xs news : List Value) (hs : a.eval s = v) (hr : Row w 23 1 v xs)
    (ad : Addr) (m c : Nat) (hx : a.eval x = .slice (some ad) m c) (hm : news.length = m) (hn : ∀ j u, news[j]? = some u → w.cell? (ad.add j) = some u) (h1 : ∀ u ∈ news, u.oneCell' = true) (hlen : xs.length + m ≤ 1000000)
    (h : ∀ v' w', Row w' 23 1 v' (xs ++ news) → Grew w w' v v' → K (a.put o.dst v') w') : if Region.wanted o (yielded ops a.tmps) = true then Oper.wp Try.prog o a w K Q else E := by
  have hw : Region.wanted o (yielded ops a.tmps) = true := by simp [Region.wanted, hgd]
  rw [if_pos hw]
  obtain ⟨i0, hi0, hz0, hz1, hz2⟩ := info_parts info23
  obtain ⟨v', w', hrun, q1, q2, _⟩ := hr.app (P := Try.prog) 22 o.type 23 i0 (.slice none 0 0) 24 Try.underlying22 hi0 hz0 hz1 hz2 rfl ad m c news hm hn h1 (by unfold maxLen; omega) (by omega)
  have := h v' w' q1 q2
  unfold Oper.wp
  simp [execOp, ho, resolve, invoke, builtin, hs, hx, hrun, Result.andThen]
  exact this

/-- A slice value that reads as these numbers. -/
def Reads (w : World) (s : Value) (xs : List Int) : Prop :=
  ((∃ a c, s = .slice a 0 c) ∧ xs = []) ∨ ∃ b off c, s = .slice (some ⟨b, off, none⟩) xs.length c ∧ b < w.heap.size ∧ ∀ j, j < xs.length → w.cell? ⟨b, off + j, none⟩ = some (.int .i64 (xs.getD j 0))
theorem Reads.below {w w' : World} {s : Value} {xs : List Int} {n : Nat} (h : Reads w s xs) (hb : Below n w w') (hn : w.heap.size ≤ n) : Reads w' s xs := by
  rcases h with h | ⟨b, off, c, e, h1, h2⟩
  · exact .inl h
  · exact .inr ⟨b, off, c, e, Nat.lt_of_lt_of_le h1 hb.size, fun j hj => (hb.cell (p := ⟨b, off + j, none⟩) (by simp; omega)).trans (h2 j hj)⟩
theorem Reads.keep {w w' : World} {B : Nat → Prop} {s : Value} {xs : List Int} (h : Reads w s xs) (hk : Keep B w w') (hB : ∀ k, k < w.heap.size → B k) : Reads w' s xs := h.below (hk.toBelow hB) (Nat.le_refl _)
theorem ints_get {xs : List Int} {j : Nat} {u : Value} (h : (ints xs)[j]? = some u) : j < xs.length ∧ u = .int .i64 (xs.getD j 0) := by
  unfold ints at h
  rw [List.getElem?_map] at h
  by_cases hj : j < xs.length
  · rw [List.getElem?_eq_getElem hj] at h
    simp at h
    exact ⟨hj, by rw [← h]; simp [hj]⟩
  · rw [List.getElem?_eq_none (by omega)] at h; simp at h
theorem ints_one (xs : List Int) : ∀ u ∈ ints xs, u.oneCell' = true := fun u hu => by
  obtain ⟨z, _, rfl⟩ := List.mem_map.1 hu; rfl
theorem add_off (b off j : Nat) : (⟨b, off, none⟩ : Addr).add j = ⟨b, off + j, none⟩ := by
  unfold Addr.add
  by_cases h : j = 0
  · rw [if_pos h, h]; rfl
  · rw [if_neg h]
theorem ints_at {xs : List Int} {j : Nat} (hj : j < xs.length) : (ints xs)[j]? = some (.int .i64 (xs.getD j 0)) := by simp [ints, hj]
theorem Row.reads {w : World} {v : Value} {xs : List Int} (h : Row w 3 1 v (ints xs)) : Reads w v xs := by
  by_cases h0 : 0 < xs.length
  · obtain ⟨g, c, e, _, _, hg, hc, _⟩ := h.at (by rw [ints_len]; exact h0)
    rw [ints_len] at e
    exact .inr ⟨g, 0, c, e, hg, fun j hj => by rw [Nat.zero_add]; exact hc _ _ (ints_at hj)⟩
  · obtain rfl : xs = [] := List.length_eq_zero_iff.1 (by omega)
    obtain ⟨n, v0, ⟨h1, h2⟩, h3⟩ := h
    have hn0 : n = 0 := by simp [ints] at h1; omega
    subst hn0
    rcases h2 with ⟨e, _⟩ | ⟨g, cap, cur, e, _, hg, _⟩
    · rcases h3 with rfl | ⟨_, _, _, e2, _⟩
      · exact .inl ⟨⟨none, 0, e⟩, rfl⟩
      · rw [e] at e2; cases e2
    · rcases h3 with rfl | ⟨g2, cap2, c2, e2, e3, _⟩
      · exact .inr ⟨g, 0, cap, e, lt_of_block hg, fun j hj => by simp at hj⟩
      · rw [e] at e2
        injection e2 with e2 _ _
        injection e2 with e2
        injection e2 with e2 _ _
        subst e2
        exact .inr ⟨g, 0, cap2, e3, lt_of_block hg, fun j hj => by simp at hj⟩

/-- What is new lies behind all that was. -/
def Fresh (w : World) (v : Value) : Prop := ∀ k, v.ownBlock = some k → w.heap.size ≤ k

theorem Row.empty (w : World) (e : TypeId) : Row (w.alloc (.cells #[] e)) e 1 (.slice (some ⟨w.heap.size, 0, none⟩) 0 0) [] :=
  Row.own (n := 0) ⟨rfl, .inr ⟨w.heap.size, 0, #[], rfl, Nat.zero_le _, heap_alloc_new _ _, Nat.le_refl _, Nat.zero_le _, rfl, by simp⟩⟩
theorem Row.one (w : World) (e : TypeId) (u : Value) : Row (w.alloc (.cells #[u] e)) e 1 (.slice (some ⟨w.heap.size, 0, none⟩) 1 1) [u] :=
  Row.own (n := 1) ⟨rfl, .inr ⟨w.heap.size, 1, #[u], rfl, Nat.zero_le _, heap_alloc_new _ _, Nat.le_refl _, by decide, rfl, by simp⟩⟩

set_option maxRecDepth 100000 in
theorem Clone_any {w : World} {s : Value} {xs : List Int} (h : Reads w s xs) (hl : xs.length ≤ 1000000) :
    Calls Try.prog 35 #[s] w fun e w' => ∃ v, e = .returned v ∧ Row w' 3 1 v (ints xs) ∧ Fresh w v ∧ Below w.heap.size w w' := by
  have q23 : ∀ (w : World) (a : Option Addr) (n c n' c' : Nat), (binOp .eql 23 (.slice a n c) (.slice none n' c')).run Try.prog w = .ok (.bool a.isNone) w := fun w a n c n' c' => Lib.run_eql_slice_nil w _ _ a n c n' c' Try.underlying23
  have cases : (xs = [] ∧ ∃ c, s = .slice none 0 c) ∨ ∃ ad c, s = .slice (some ad) xs.length c ∧ ∀ j u, (ints xs)[j]? = some u → (w.alloc (.cells #[] 3)).cell? (ad.add j) = some u := by
    rcases h with ⟨⟨a, c, rfl⟩, rfl⟩ | ⟨b, off, c, rfl, hb, hc⟩
    · cases a with
      | none => exact .inl ⟨rfl, c, rfl⟩
      | some ad => exact .inr ⟨ad, c, rfl, fun j u hu => by simp [ints] at hu⟩
    · refine .inr ⟨_, c, rfl, fun j u hu => ?_⟩
      obtain ⟨hj, rfl⟩ := ints_get hu
      rw [add_off]
      exact (((Below.refl w.heap.size w).alloc (Nat.le_refl _) _).cell (p := ⟨b, off + j, none⟩) hb).trans (hc j hj)
  clear h
  rcases cases with ⟨rfl, c, rfl⟩ | ⟨ad, c, rfl, hc⟩
  · go_enter Try.func35, Try.ntmps35
    go_wp2_with fail
    go_ret
    exact ⟨_, rfl, Row.nil _ _ _, fun k hk => by simp [Value.ownBlock] at hk, Below.refl _ _⟩
  · have B0 : Hid (Below w.heap.size w (w.alloc (.cells #[] 3))) := Lib.hid ((Below.refl _ _).alloc (Nat.le_refl _) _)
    have HC : Hid (∀ j u, (ints xs)[j]? = some u → (w.alloc (.cells #[] 3)).cell? (ad.add j) = some u) := Lib.hid hc
    clear hc
    obtain ⟨q, hq⟩ : ∃ q, xs.length = q := ⟨_, rfl⟩
    rw [hq] at hl ⊢
    have HQ := Lib.hid hq
    clear hq
    go_enter Try.func35, Try.ntmps35
    go_wp2_with (at_builtin; refine wpList_app rfl (.tmp 5) (.tmp 6) rfl (.slice (some ⟨w.heap.size, 0, none⟩) 0 0) [] (ints xs) rfl (Row.empty w 3) ad q c rfl (by rw [ints_len, HQ.out]) HC.out (ints_one xs) (by simp; omega) ?_; intro v w2 h1 h2 _; have H1 := Lib.hid h1; have H2 := Lib.hid h2; clear h1 h2)
    go_ret
    have h1 := H1.out
    have h2 := H2.out
    refine ⟨v, rfl, h1, fun k hk => ?_, B0.out.grown h2.1 (by simp) fun k hk => ?_⟩
    · rcases h2.2 with e | ⟨k', e, hk'⟩
      · rw [e] at hk; simp [Value.ownBlock] at hk; omega
      · rw [e] at hk; injection hk with hk; subst hk; simp at hk'; omega
    · simp [Value.ownBlock] at hk; omega

theorem Lits_any {w : World} {B : Nat → Prop} {b : Nat} {T : Tr} (h : TrailAt w B b T) (hl : T.lits.length ≤ 1000000) :
    Calls Try.prog 13 #[.pointer (some ⟨b, 0, none⟩)] w fun e w' => ∃ v, e = .returned v ∧ Row w' 3 1 v (ints T.lits) ∧ Fresh w v ∧ Below w.heap.size w w' := by
  obtain ⟨val, ct, hm, ht⟩ := h
  have hr := hm.row .li
  rw [ht.li] at hr
  have c3 : w.cell? ⟨b, 3, none⟩ = some (val .li) := hm.bcell 3
  have HR := Lib.hid (Clone_any (Row.reads hr) hl)
  clear hr ht hm
  generalize val .li = v0 at *
  go_enter Try.func13, Try.ntmps13
  go_wp2_with (go_at_call 35; refine HR.out.mono ?_; rintro e w1 ⟨v, rfl, h1, h2, h3⟩; have H := Lib.hid (And.intro h1 (And.intro h2 h3)); clear h1 h2 h3)
  go_ret
  exact ⟨v, rfl, H.out⟩

theorem Clause_no {w : World} {B : Nat → Prop} {b : Nat} {T : Tr} (h : TrailAt w B b T) (k : Int) (hk : k < 0 ∨ (T.L.length : Int) ≤ k) :
    Calls Try.prog 25 #[.pointer (some ⟨b, 0, none⟩), .int .i64 k] w fun e w' => e = .returned (.slice none 0 0) ∧ w' = w := by
  obtain ⟨val, ct, hm, ht⟩ := h
  have hr := hm.row .cl
  obtain ⟨a, c, e, _, _⟩ := hr.form
  have c4 : w.cell? ⟨b, 0, none⟩ = some (val .cl) := hm.bcell 0
  rw [e, ht.cl, List.length_map, List.length_range] at c4
  generalize T.L.length = q at *
  clear e hr ht hm
  by_cases hneg : k < 0
  · have hd : decide (k < 0) = true := decide_eq_true hneg
    go_enter Try.func25, Try.ntmps25
    go_wp2_with fail
    go_ret
    exact ⟨rfl, rfl⟩
  · obtain ⟨m, rfl⟩ := Int.eq_ofNat_of_zero_le (show 0 ≤ k by omega)
    have hq : q ≤ m := by omega
    clear hk hneg
    go_enter Try.func25, Try.ntmps25
    go_wp2_with fail
    go_ret
    exact ⟨rfl, rfl⟩

theorem Clause_at {w : World} {B : Nat → Prop} {b : Nat} {T : Tr} (h : TrailAt w B b T) (k : Nat) (hk : k < T.L.length) (hl : (T.L.getD k []).length ≤ 1000000) :
    Calls Try.prog 25 #[.pointer (some ⟨b, 0, none⟩), .int .i64 k] w fun e w' => ∃ v, e = .returned v ∧ Row w' 3 1 v (ints (T.L.getD k [])) ∧ Fresh w v ∧ Below w.heap.size w w' := by
  obtain ⟨val, ct, hm, ht⟩ := h
  have hr := hm.row .cl
  obtain ⟨g, c, e, _, _, hg, hc, _⟩ := hr.at (by rw [ht.cl]; simp; omega)
  have c4 : w.cell? ⟨b, 0, none⟩ = some (val .cl) := hm.bcell 0
  have ck : w.cell? ⟨g, k, none⟩ = some (val (.C k)) := hc k _ (by rw [ht.cl]; simp [hk])
  rw [e, ht.cl, List.length_map, List.length_range] at c4
  have hrk := hm.row (.C k)
  rw [ht.C k] at hrk
  have HR := Lib.hid (Clone_any (Row.reads hrk) hl)
  clear hrk hr ht hm hc e hl
  generalize T.L.length = q at *
  generalize T.L.getD k [] = xs at *
  generalize val (.C k) = v0 at *
  go_enter Try.func25, Try.ntmps25
  go_wp2_with (go_at_call 35; refine HR.out.mono ?_; rintro e w1 ⟨v, rfl, h1, h2, h3⟩; have H := Lib.hid (And.intro h1 (And.intro h2 h3)); clear h1 h2 h3)
  go_ret
  exact ⟨v, rfl, H.out⟩
end Go.Proofs.Ytngegkgmenfelaa
