/-
  The document's trail: Add, New.
-/
import Derived.Test.YtngegkgmenfelaaRb
namespace Go.Proofs.Ytngegkgmenfelaa
open Go.RowKit Go.Lib
attribute [local go_sem ↓] Go.wp_at_zero Go.wp_at_succ

variable {w : World} {M S : Nat → Prop} {p : Nat} {R : Ref}

theorem step_appsS {ops : Array Oper} {o : Oper} {A : Act} {w : World} {K : Act → World → Prop} {Q : Exit → Act → World → Prop} {E : Prop} (hgd : o.guard = none) (s x : Operand)
    (ho : o.op = .call { callee := .builtin .append, args := #[s, x], argTypes := #[22, 22] }) (v : Value) (xs news : List Value) (hs : A.eval s = v) (hr : Row w 23 1 v xs)
    (a : Option Addr) (m c : Nat) (hx : A.eval x = .slice a m c) (hsrc : Source w a m news) (hm : news.length = m) (h1 : ∀ u ∈ news, u.oneCell' = true) (hlen : xs.length + m ≤ 1000000)
    (h : ∀ v' w', Row w' 23 1 v' (xs ++ news) → Grew w w' v v' → K (A.put o.dst v') w') : if Region.wanted o (yielded ops A.tmps) = true then Oper.wp Try.prog o A w K Q else E := by
  have hw : Region.wanted o (yielded ops A.tmps) = true := by simp [Region.wanted, hgd]
  rw [if_pos hw]
  obtain ⟨v', w', hrun, q1, q2⟩ := runApp23 (c := c) o.type hr hsrc hm h1 hlen
  have := h v' w' q1 q2
  unfold Oper.wp
  simp [execOp, ho, resolve, invoke, builtin, hs, hx, hrun, Result.andThen]
  exact this

def addM (R : Ref) (c : List Int) : Ref := { R with L := R.L ++ [c] }

theorem add_rowsR {w2 : World} (h : RefAt w M S p R) (hb : Below w.heap.size w w2) {s : Value} {c : List Int} (hr : Stays S w fun w2 => Reads w2 s c) :
    ∃ vL xs, w2.cell? ⟨p, 1, none⟩ = some vL ∧ Row w2 23 1 vL xs ∧ xs.length = R.L.length ∧ ∀ v' w3, Row w3 23 1 v' (xs ++ [s]) → Grew w2 w3 vL v' → (∃ a1 l1 n1, v' = .slice a1 l1 n1) ∧ w3.cell? ⟨p, 1, none⟩ = some vL ∧ w3.frozen? ⟨p, 1, none⟩ = false ∧ p < w3.heap.size ∧ Hid (RefPost w M S p (addM R c) (w3.setCell ⟨p, 1, none⟩ v')) := by
  obtain ⟨val, ct, vA, hm, ht⟩ := h
  have hm2 := hm.below hb
  refine ⟨val .L, ct .L, hm2.bcell 1, hm2.row .L, ht.Ll, fun v' w3 h1 h2 => ?_⟩
  obtain ⟨m3, o3⟩ := hm2.grew .L h2 h1
  have m4 := m3.setBox 1 v'
  have o4 := m3.onlyBox 1 v'
  have hoA : Only M w (w3.setCell ⟨p, 1, none⟩ v') := ((Only.ofBelow hb).trans o3 fun i hi => .inl hi).trans o4 fun i hi => by
    rcases hi with hi | hi
    · exact .inl hi
    · have := hb.size; exact .inr (by omega)
  have hk := hm.onlyKeep hoA
  refine ⟨(by obtain ⟨a1, n1, e, _⟩ := h1.form; exact ⟨_, _, _, e⟩), m3.bcell 1, m3.bfr 1, m3.size, Lib.hid ⟨MoreM M S w2 w3, S, ⟨upR val .L v', upR ct .L (ct .L ++ [s]), vA, (by have e : boxR (addM R c).n (upR val .L v') vA = (boxR R.n val vA).setIfInBounds 1 v' := (by simp [boxR, upR, addM]); rw [e]; exact m4), ?_⟩, hoA, (fun k hk => .inl hk), (fun k hk => hk), fun k hk => ?_⟩⟩
  · have ht2 := ht.step hk
    refine ⟨?_, fun j hj => ?_, ?_, ?_, fun j hj => ?_, ht2.A⟩
    · rw [upR_same, List.length_append, ht.Ll]; show _ = (R.L ++ [c]).length; rw [List.length_append]; rfl
    · rw [upR_same]
      show Stays S _ fun w2 => Reads w2 _ ((R.L ++ [c]).getD j [])
      have hj' : j < (R.L ++ [c]).length := hj
      rw [List.length_append] at hj'
      by_cases e : j < R.L.length
      · have e1 : ((ct .L) ++ [s]).getD j undef = (ct .L).getD j undef := by simp only [List.getD_eq_getElem?_getD]; rw [List.getElem?_append_left (by rw [ht.Ll]; exact e)]
        have e2 : (R.L ++ [c]).getD j [] = R.L.getD j [] := by simp only [List.getD_eq_getElem?_getD]; rw [List.getElem?_append_left e]
        rw [e1, e2]
        exact ht2.L j e
      · have ej : j = R.L.length := by simp at hj'; omega
        have e1 : ((ct .L) ++ [s]).getD j undef = s := by rw [ej, ← ht.Ll]; simp [List.getD_eq_getElem?_getD]
        have e2 : (R.L ++ [c]).getD j [] = c := by rw [ej]; simp [List.getD_eq_getElem?_getD]
        rw [e1, e2]
        exact hr.step hk
    · rw [upR_other _ _ (by simp)]; exact ht.D
    · rw [upR_other _ _ (by simp)]; exact ht.Kl
    · rw [upR_other _ _ (by simp)]; exact ht2.K j hj
  · rcases hk with (hk | hk) | hk
    · exact .inl (.inl hk)
    · have := hb.size; exact .inr (by omega)
    · exact .inl (.inr hk)

theorem RefAt.nAt (h : RefAt w M S p R) : w.cell? ⟨p, 0, none⟩ = some (.int .i64 (R.n : Nat)) := by
  obtain ⟨val, ct, vA, hm, ht⟩ := h
  exact hm.bcell 0

def AddM (w : World) (M S : Nat → Prop) (p : Nat) (R : Ref) (c : List Int) (o : Bool) (e : Ending) (w' : World) : Prop :=
  (o = false ∧ e = .returned (.int .i64 1) ∧ RefPost w M S p R w') ∨ (o = true ∧ e = .returned (.int .i64 0) ∧ RefPost w M S p (addM R c) w')

set_option maxRecDepth 1000000 in
set_option maxHeartbeats 4000000 in
theorem AddM_any (h : RefAt w M S p R) {s : Value} {c : List Int} (hr : Stays S w fun w2 => Reads w2 s c) (hx : ∀ x ∈ c, In64 x) (hl : c.length ≤ 1000000) (hL : R.L.length ≤ 900000) :
    Calls Try.prog 41 #[.pointer (some ⟨p, 0, none⟩), s] w fun e w' => AddM w M S p R c (rightB R.n [c]) e w' := by
  obtain ⟨sa, sc, rfl⟩ := hr.now.form
  have hp := h.sizeP
  have c0 := h.nAt
  have B1 : Hid (Below w.heap.size w (w.alloc (.cells #[.slice sa c.length sc] 23))) := Lib.hid ((Below.refl _ _).alloc (Nat.le_refl _) _)
  have HR := Lib.hid (RightR_any R.n (readsL_one hr.now) (fun d hd x hx' => by rw [List.mem_singleton.1 hd] at hx'; exact hx x hx') (by simp) (fun d hd => by rw [List.mem_singleton.1 hd]; exact hl))
  have HB := Lib.hid (fun w2 hb => add_rowsR (w2 := w2) h hb hr)
  have HP := Lib.hid ((h.below B1.out).post B1.out)
  have HLE := Lib.hid hL
  generalize c.length = q at *
  cases ho : rightB R.n [c] with
  | false =>
    rw [ho] at HR
    clear h hr hx hl hL ho HB
    go_enter Try.func41, Try.ntmps41
    go_wp2_with (go_at_call 37; refine HR.out.mono ?_; rintro e w1 ⟨rfl, hw⟩; obtain rfl := hw.symm)
    go_ret
    exact .inl ⟨rfl, rfl, HP.out⟩
  | true =>
    rw [ho] at HR
    obtain ⟨vL, xs, c1, hrow, hxl, hnext⟩ := HB.out _ (B1.out.alloc B1.out.size (.cells #[.slice sa q sc] 23))
    have c1' : (w.alloc (.cells #[.slice sa q sc] 23)).cell? ⟨p, 1, none⟩ = some vL := by
      rw [← c1]
      exact (((Below.refl (w.heap.size + 1) (w.alloc (.cells #[.slice sa q sc] 23))).alloc (by simp) (.cells #[.slice sa q sc] 23)).cell (p := ⟨p, 1, none⟩) (by simp; omega)).symm
    have HROW := Lib.hid hrow
    have HNEXT := Lib.hid hnext
    have HXL := Lib.hid hxl
    have HONE : Hid (Row ((w.alloc (.cells #[.slice sa q sc] 23)).alloc (.cells #[.slice sa q sc] 23)) 23 1 (.slice (some ⟨w.heap.size + 1, 0, none⟩) 1 1) [.slice sa q sc]) := Lib.hid (by have := Row.one (w.alloc (.cells #[.slice sa q sc] 23)) 23 (.slice sa q sc); rw [show (w.alloc (.cells #[.slice sa q sc] 23)).heap.size = w.heap.size + 1 from by simp] at this; exact this)
    clear h hr hx hl hL ho HB c1 hrow hnext hxl
    go_enter Try.func41, Try.ntmps41
    go_wp2_with fail
    go_at_call 37
    refine HR.out.mono ?_
    rintro e w1 ⟨rfl, hw⟩
    obtain rfl := hw.symm
    clear hw HR
    go_wp2_with (at_builtin; refine wpList_appsS rfl (.tmp 19) (.tmp 21) rfl vL xs [.slice sa q sc] rfl HROW.out (some ⟨w.heap.size + 1, 0, none⟩) 1 1 rfl (.inr ⟨_, rfl, fun j u hj => one_at HONE.out hj⟩) rfl (by intro u hu; rw [List.mem_singleton.1 hu]; rfl) (by rw [HXL.out]; have := HLE.out; omega) ?_; intro v' w3 h1 h2; obtain ⟨⟨a1, l1, n1, hv1⟩, d1, f1, hp3, HPN⟩ := HNEXT.out v' w3 h1 h2; clear h1 h2; subst hv1)
    go_ret
    exact .inr ⟨rfl, rfl, HPN.out⟩
end Go.Proofs.Ytngegkgmenfelaa
