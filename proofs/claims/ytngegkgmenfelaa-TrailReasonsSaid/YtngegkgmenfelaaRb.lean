/-
  The document's trail: Value, Back, Add.
-/
import Derived.Test.YtngegkgmenfelaaRa
import Derived.Deep.Upon
namespace Go.Proofs.Ytngegkgmenfelaa
open Go.RowKit Go.Lib
attribute [local go_sem ↓] Go.wp_at_zero Go.wp_at_succ

/-- Where what is appended comes from. -/
def Source (w : World) (a : Option Addr) (m : Nat) (news : List Value) : Prop := (m = 0 ∧ news = []) ∨ ∃ ad, a = some ad ∧ ∀ j u, news[j]? = some u → w.cell? (ad.add j) = some u

theorem Grew.refl (w : World) (v : Value) : Grew w w v v := ⟨⟨rfl, rfl, rfl, Nat.le_refl _, fun _ _ _ => rfl⟩, .inl rfl⟩
theorem Row.capOk {w : World} {e : TypeId} {v : Value} {xs : List Value} (h : Row w e 1 v xs) : ∃ a c, v = .slice a xs.length c ∧ xs.length ≤ c := by
  obtain ⟨a, c, e, h1, _⟩ := h.form
  exact ⟨a, c, e, h1⟩

theorem runApp3 {w : World} {v : Value} {xs news : List Value} {a : Option Addr} {m c : Nat} (ty : TypeId) (hr : Row w 3 1 v xs) (hs : Source w a m news) (hm : news.length = m) (h1 : ∀ u ∈ news, u.oneCell' = true) (hlen : xs.length + m ≤ 1000000) :
    ∃ v' w', (Builtin.append_ #[23, 23] ty #[v, .slice a m c]).run Try.prog w = .ok v' w' ∧ Row w' 3 1 v' (xs ++ news) ∧ Grew w w' v v' := by
  obtain ⟨i0, hi0, hz0, hz1, hz2⟩ := info_parts info3
  by_cases h0 : m = 0
  · subst h0
    obtain rfl := List.length_eq_zero_iff.1 hm
    obtain ⟨va, vc, rfl, hle⟩ := hr.capOk
    have hsrc : Src Try.prog i0.size 23 (.slice a 0 c) 0 [] w := by
      cases a with
      | none => exact Src.ofNil w Try.underlying23 c
      | some ad => exact Src.ofSlice w Try.underlying23 ad 0 c [] (by simp) (by simp) (by simp)
    exact ⟨_, _, run_append_nothing w 23 23 ty 3 i0 Try.underlying23 hi0 va xs.length vc hle _ hsrc, by rw [List.append_nil]; exact hr, Grew.refl _ _⟩
  · obtain ⟨ad, rfl, hn⟩ := hs.resolve_left (fun h => h0 h.1)
    obtain ⟨v', w', hrun, q1, q2, _⟩ := hr.app (P := Try.prog) 23 ty 3 i0 (.int .i64 0) 8 Try.underlying23 hi0 hz0 hz1 hz2 rfl ad m c news hm hn h1 (by unfold maxLen; omega) (by omega)
    exact ⟨v', w', hrun, q1, q2⟩
theorem runApp23 {w : World} {v : Value} {xs news : List Value} {a : Option Addr} {m c : Nat} (ty : TypeId) (hr : Row w 23 1 v xs) (hs : Source w a m news) (hm : news.length = m) (h1 : ∀ u ∈ news, u.oneCell' = true) (hlen : xs.length + m ≤ 1000000) :
    ∃ v' w', (Builtin.append_ #[22, 22] ty #[v, .slice a m c]).run Try.prog w = .ok v' w' ∧ Row w' 23 1 v' (xs ++ news) ∧ Grew w w' v v' := by
  obtain ⟨i0, hi0, hz0, hz1, hz2⟩ := info_parts info23
  by_cases h0 : m = 0
  · subst h0
    obtain rfl := List.length_eq_zero_iff.1 hm
    obtain ⟨va, vc, rfl, hle⟩ := hr.capOk
    have hsrc : Src Try.prog i0.size 22 (.slice a 0 c) 0 [] w := by
      cases a with
      | none => exact Src.ofNil w Try.underlying22 c
      | some ad => exact Src.ofSlice w Try.underlying22 ad 0 c [] (by simp) (by simp) (by simp)
    exact ⟨_, _, run_append_nothing w 22 22 ty 23 i0 Try.underlying22 hi0 va xs.length vc hle _ hsrc, by rw [List.append_nil]; exact hr, Grew.refl _ _⟩
  · obtain ⟨ad, rfl, hn⟩ := hs.resolve_left (fun h => h0 h.1)
    obtain ⟨v', w', hrun, q1, q2, _⟩ := hr.app (P := Try.prog) 22 ty 23 i0 (.slice none 0 0) 24 Try.underlying22 hi0 hz0 hz1 hz2 rfl ad m c news hm hn h1 (by unfold maxLen; omega) (by omega)
    exact ⟨v', w', hrun, q1, q2⟩

/-- append, in a walk. -/
theorem wpList_appS {w : World} {ops : Array Oper} {rest : List Oper} {o : Oper} {A : Act} {Q : Exit → Act → World → Prop} (hgd : o.guard = none) (s x : Operand)
    (ho : o.op = .call { callee := .builtin .append, args := #[s, x], argTypes := #[23, 23] }) (v : Value) (xs news : List Value) (hs : A.eval s = v) (hr : Row w 3 1 v xs)
    (a : Option Addr) (m c : Nat) (hx : A.eval x = .slice a m c) (hsrc : Source w a m news) (hm : news.length = m) (h1 : ∀ u ∈ news, u.oneCell' = true) (hlen : xs.length + m ≤ 1000000)
    (h : ∀ v' w', Row w' 3 1 v' (xs ++ news) → Grew w w' v v' → wpList Try.prog ops Q rest (A.put o.dst v') w') : wpList Try.prog ops Q (o :: rest) A w := by
  refine wpList_step fun K hK => ?_
  have hw : Region.wanted o (yielded ops A.tmps) = true := by simp [Region.wanted, hgd]
  rw [if_pos hw]
  obtain ⟨v', w', hrun, q1, q2⟩ := runApp3 (c := c) o.type hr hsrc hm h1 hlen
  have := h v' w' q1 q2
  unfold Oper.wp
  simp [execOp, ho, resolve, invoke, builtin, hs, hx, hrun, Result.andThen]
  exact hK _ _ this
theorem wpList_appsS {w : World} {ops : Array Oper} {rest : List Oper} {o : Oper} {A : Act} {Q : Exit → Act → World → Prop} (hgd : o.guard = none) (s x : Operand)
    (ho : o.op = .call { callee := .builtin .append, args := #[s, x], argTypes := #[22, 22] }) (v : Value) (xs news : List Value) (hs : A.eval s = v) (hr : Row w 23 1 v xs)
    (a : Option Addr) (m c : Nat) (hx : A.eval x = .slice a m c) (hsrc : Source w a m news) (hm : news.length = m) (h1 : ∀ u ∈ news, u.oneCell' = true) (hlen : xs.length + m ≤ 1000000)
    (h : ∀ v' w', Row w' 23 1 v' (xs ++ news) → Grew w w' v v' → wpList Try.prog ops Q rest (A.put o.dst v') w') : wpList Try.prog ops Q (o :: rest) A w := by
  refine wpList_step fun K hK => ?_
  have hw : Region.wanted o (yielded ops A.tmps) = true := by simp [Region.wanted, hgd]
  rw [if_pos hw]
  obtain ⟨v', w', hrun, q1, q2⟩ := runApp23 (c := c) o.type hr hsrc hm h1 hlen
  have := h v' w' q1 q2
  unfold Oper.wp
  simp [execOp, ho, resolve, invoke, builtin, hs, hx, hrun, Result.andThen]
  exact hK _ _ this

variable {w : World} {M S : Nat → Prop} {p : Nat} {R : Ref}

theorem ValueM_any (h : RefAt w M S p R) (h3 : Three R.A) (hl : R.A.length ≤ 20000) (x : Int) (hx : In64 x) :
    Calls Try.prog 43 #[.pointer (some ⟨p, 0, none⟩), .int .i64 x] w fun e w' => e = .returned (.int .i64 (litA R.A x)) ∧ w' = w := by
  obtain ⟨val, ct, vA, hm, ht⟩ := h
  have HL := Lib.hid (LitR_any ht.A.now h3 hl x hx)
  have c4 : w.cell? ⟨p, 4, none⟩ = some vA := hm.bcell 4
  have hp := hm.size
  clear hm ht h3 hl hx
  go_enter Try.func43, Try.ntmps43
  go_wp2_with (go_at_call 48; refine HL.out.mono ?_; rintro e w' ⟨rfl, hw⟩; obtain rfl := hw.symm)
  go_ret
  exact ⟨rfl, rfl⟩

theorem RefAt.dec (h : RefAt w M S p R) : ∃ a c, w.cell? ⟨p, 2, none⟩ = some (.slice a R.D.length c) := by
  obtain ⟨val, ct, vA, hm, ht⟩ := h
  have hr := hm.row .D
  rw [ht.D] at hr
  obtain ⟨a, c, e, _⟩ := hr.form
  rw [ints_len] at e
  exact ⟨a, c, (hm.bcell 2).trans (by rw [← e]; rfl)⟩
theorem RefAt.sizeP (h : RefAt w M S p R) : p < w.heap.size := by
  obtain ⟨val, ct, vA, hm, ht⟩ := h
  exact hm.size

theorem BackM_arg (h : RefAt w M S p R) (lv : Int) (hlv : lv < 0 ∨ (R.D.length : Int) < lv) :
    Calls Try.prog 40 #[.pointer (some ⟨p, 0, none⟩), .int .i64 lv] w fun e w' => e = .returned (.int .i64 1) ∧ w' = w := by
  obtain ⟨a, c, c2⟩ := h.dec
  have hp := h.sizeP
  generalize R.D.length = q at *
  clear h
  by_cases h0 : lv < 0
  · have hd : decide (lv < 0) = true := decide_eq_true h0
    clear hlv
    go_enter Try.func40, Try.ntmps40
    go_wp2_with fail
    go_ret
    exact ⟨rfl, rfl⟩
  · have hd : decide (lv < 0) = false := decide_eq_false h0
    have hd2 : decide ((q : Int) < lv) = true := decide_eq_true (hlv.resolve_left h0)
    clear hlv
    go_enter Try.func40, Try.ntmps40
    go_wp2_with fail
    go_ret
    exact ⟨rfl, rfl⟩
theorem BackM_same (h : RefAt w M S p R) :
    Calls Try.prog 40 #[.pointer (some ⟨p, 0, none⟩), .int .i64 (R.D.length : Nat)] w fun e w' => e = .returned (.int .i64 0) ∧ w' = w := by
  obtain ⟨a, c, c2⟩ := h.dec
  have hp := h.sizeP
  generalize R.D.length = q at *
  have hd : decide ((q : Int) < 0) = false := decide_eq_false (by omega)
  clear h
  go_enter Try.func40, Try.ntmps40
  go_wp2_with fail
  go_ret
  exact ⟨rfl, rfl⟩

def backM (R : Ref) (lv : Nat) : Ref := { R with A := R.K.getD lv [], K := R.K.take lv, D := R.D.take lv }

theorem back_rowsR (h : RefAt w M S p R) (hk : R.K.length = R.D.length) (lv : Nat) (hlv : lv < R.D.length) :
    ∃ gk ck gd cd u, (∃ ua ul uc, u = .slice ua ul uc) ∧ w.cell? ⟨p, 3, none⟩ = some (.slice (some ⟨gk, 0, none⟩) R.D.length ck) ∧ R.D.length ≤ ck ∧ w.cell? ⟨gk, lv, none⟩ = some u ∧ w.cell? ⟨p, 2, none⟩ = some (.slice (some ⟨gd, 0, none⟩) R.D.length cd) ∧ R.D.length ≤ cd ∧
      (∃ x, w.cell? ⟨p, 4, none⟩ = some x) ∧ (∀ i, w.frozen? ⟨p, i, none⟩ = false) ∧ gk ≠ p ∧
      (w.setCell ⟨p, 4, none⟩ u).cell? ⟨p, 3, none⟩ = some (.slice (some ⟨gk, 0, none⟩) R.D.length ck) ∧ (∀ i, (w.setCell ⟨p, 4, none⟩ u).frozen? ⟨p, i, none⟩ = false) ∧
      (∀ v, ((w.setCell ⟨p, 4, none⟩ u).setCell ⟨p, 3, none⟩ v).cell? ⟨p, 2, none⟩ = some (.slice (some ⟨gd, 0, none⟩) R.D.length cd) ∧ ∀ i, ((w.setCell ⟨p, 4, none⟩ u).setCell ⟨p, 3, none⟩ v).frozen? ⟨p, i, none⟩ = false) ∧
      RefPost w M S p (backM R lv) (((w.setCell ⟨p, 4, none⟩ u).setCell ⟨p, 3, none⟩ (.slice (some ⟨gk, 0, none⟩) lv ck)).setCell ⟨p, 2, none⟩ (.slice (some ⟨gd, 0, none⟩) lv cd)) := by
  obtain ⟨val, ct, vA, hm, ht⟩ := h
  have r2 := hm.row .D
  have r3 := hm.row .K
  rw [ht.D] at r2
  obtain ⟨gd, cd, e2, h1, _, _, _, _⟩ := r2.at (by rw [ints_len]; omega)
  obtain ⟨gk, ck, e3, h2, _, _, hc3, _⟩ := r3.at (by rw [ht.Kl]; omega)
  rw [ints_len] at e2 h1
  rw [ht.Kl, hk] at e3 h2
  have hlk : lv < (ct .K).length := by rw [ht.Kl]; omega
  have hu : (ct .K)[lv]? = some ((ct .K).getD lv undef) := by rw [List.getD_eq_getElem?_getD, List.getElem?_eq_getElem hlk, Option.getD_some]
  have m4 := hm.setBox 4 ((ct .K).getD lv undef)
  have m3 := m4.setBox 3 (.slice (some ⟨gk, 0, none⟩) lv ck)
  have m2 := m3.setBox 2 (.slice (some ⟨gd, 0, none⟩) lv cd)
  have o4 := hm.onlyBox 4 ((ct .K).getD lv undef)
  have o3 := m4.onlyBox 3 (.slice (some ⟨gk, 0, none⟩) lv ck)
  have o2 := m3.onlyBox 2 (.slice (some ⟨gd, 0, none⟩) lv cd)
  have oAll := (o4.trans o3 fun i hi => .inl hi).trans o2 fun i hi => .inl hi
  have mc := (m2.cut .K (k := lv) e3 (by omega)).cut .D (k := lv) (g := gd) (n := R.D.length) (c := cd) (by rw [upR_other _ _ (by simp)]; exact e2) (by rw [upR_other _ _ (by simp), ht.D, ints_len]; omega)
  have bx : ∀ i, (boxR R.n val vA)[i]? = some ((#[.int .i64 (R.n : Nat), val .L, val .D, val .K, vA] : Array Value).getD i undef) ∨ 5 ≤ i := fun i => by
    by_cases h : i < 5
    · left; unfold boxR; simp [Array.getD, h]
    · right; omega
  refine ⟨gk, ck, gd, cd, (ct .K).getD lv undef, (by obtain ⟨ua, uc, e⟩ := (ht.K lv (by omega)).now.form; exact ⟨_, _, _, e⟩), (hm.bcell 3).trans (by rw [← e3]; rfl), h2, hc3 _ _ hu, (hm.bcell 2).trans (by rw [← e2]; rfl), h1, ⟨vA, hm.bcell 4⟩, hm.bfr, (hm.mr .K gk (by rw [e3]; rfl)).2, (m4.bcell 3).trans (by rw [← e3]; simp [boxR]), m4.bfr, fun v => ⟨((m4.setBox 3 v).bcell 2).trans (by rw [← e2]; simp [boxR]), (m4.setBox 3 v).bfr⟩, M, S, ⟨upR (upR val .K (.slice (some ⟨gk, 0, none⟩) lv ck)) .D (.slice (some ⟨gd, 0, none⟩) lv cd), upR (upR ct .K ((ct .K).take lv)) .D ((upR ct .K ((ct .K).take lv) .D).take lv), (ct .K).getD lv undef, ?_, ?_⟩, oAll, fun _ h => h, fun _ h => h, fun _ h => .inl h⟩
  · have e : boxR (backM R lv).n (upR (upR val .K (.slice (some ⟨gk, 0, none⟩) lv ck)) .D (.slice (some ⟨gd, 0, none⟩) lv cd)) ((ct .K).getD lv undef) = (((boxR R.n val vA).setIfInBounds 4 ((ct .K).getD lv undef)).setIfInBounds 3 (.slice (some ⟨gk, 0, none⟩) lv ck)).setIfInBounds 2 (.slice (some ⟨gd, 0, none⟩) lv cd) := by
      simp [boxR, upR, backM]
    rw [e]
    exact mc
  · have hstep := hm.onlyKeep oAll
    have ht2 := ht.step hstep
    refine ⟨?_, fun j hj => ?_, ?_, ?_, fun j hj => ?_, ?_⟩
    · rw [upR_other _ _ (by simp), upR_other _ _ (by simp)]; exact ht.Ll
    · rw [upR_other _ _ (by simp), upR_other _ _ (by simp)]; exact ht2.L j hj
    · rw [upR_same, upR_other _ _ (by simp), ht.D]; unfold ints; rw [← List.map_take]; rfl
    · rw [upR_other _ _ (by simp), upR_same, List.length_take, ht.Kl]; show _ = (R.K.take lv).length; rw [List.length_take]
    · rw [upR_other _ _ (by simp), upR_same]
      have hj' : j < (R.K.take lv).length := hj
      rw [List.length_take] at hj'
      have := ht2.K j (by omega)
      have e1 : ((ct .K).take lv).getD j undef = (ct .K).getD j undef := by simp only [List.getD_eq_getElem?_getD]; rw [List.getElem?_take]; split; rfl; omega
      have e2 : (R.K.take lv).getD j [] = R.K.getD j [] := by simp only [List.getD_eq_getElem?_getD]; rw [List.getElem?_take]; split; rfl; omega
      show Stays S _ fun w2 => Reads w2 _ ((R.K.take lv).getD j [])
      rw [e1, e2]; exact this
    · exact ht2.K lv (by omega)

set_option maxRecDepth 1000000 in
theorem BackM_ok (h : RefAt w M S p R) (hk : R.K.length = R.D.length) (lv : Nat) (hlv : lv < R.D.length) :
    Calls Try.prog 40 #[.pointer (some ⟨p, 0, none⟩), .int .i64 (lv : Nat)] w fun e w' => e = .returned (.int .i64 0) ∧ RefPost w M S p (backM R lv) w' := by
  have hp := h.sizeP
  obtain ⟨gk, ck, gd, cd, u, ⟨ua, ul, uc, rfl⟩, c3, h3, cu, c2, h2, ⟨x4, c4⟩, f0, hne, d3, f1, hv, hpost⟩ := back_rowsR h hk lv hlv
  obtain ⟨d2, f2⟩ := hv (.slice (some ⟨gk, 0, none⟩) lv ck)
  have f04 := f0 4
  have f13 := f1 3
  have f22 := f2 2
  have HP := Lib.hid hpost
  generalize R.D.length = q at *
  have hd1 : decide ((lv : Int) < 0) = false := decide_eq_false (by omega)
  have hd2 : decide ((q : Int) < (lv : Int)) = false := decide_eq_false (by omega)
  have hd2n : decide (q < lv) = false := decide_eq_false (by omega)
  have hd3 : (lv : Int) < (q : Int) := by omega
  have hd0 : (0 : Int) ≤ (lv : Int) := by omega
  have hd4 : (lv : Int) ≤ (ck : Int) := by omega
  have hd5 : (lv : Int) ≤ (cd : Int) := by omega
  clear h hk f0 f1 f2 hv hpost hne
  go_enter Try.func40, Try.ntmps40
  go_wp2_with fail
  go_ret
  exact ⟨rfl, HP.out⟩
end Go.Proofs.Ytngegkgmenfelaa
