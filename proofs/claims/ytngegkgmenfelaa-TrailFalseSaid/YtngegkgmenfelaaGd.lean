/-
  PLAIN: look as a whole.
-/
import Derived.Test.YtngegkgmenfelaaGc
import Derived.Test.YtngegkgmenfelaaWm
namespace Go.Proofs.Ytngegkgmenfelaa
open Go.RowKit Go.Lib
variable {n : Nat} {T : Tr}

/-- More is known; the clauses are the same. -/
structure Ext (T T' : Tr) : Prop where
  same : SameCl T T'
  starts : T'.starts = T.starts
  short : T'.short = T.short
  wl : T'.W.length = T.W.length
  lits : ∃ more, T'.lits = T.lits ++ more
theorem Ext.refl (T : Tr) : Ext T T := ⟨SameCl.refl T, rfl, rfl, rfl, [], by simp⟩
theorem Ext.trans {a b c : Tr} (h : Ext a b) (k : Ext b c) : Ext a c := by
  obtain ⟨m1, e1⟩ := h.lits
  obtain ⟨m2, e2⟩ := k.lits
  exact ⟨h.same.trans k.same, k.starts.trans h.starts, k.short.trans h.short, k.wl.trans h.wl, m1 ++ m2, by rw [e2, e1, List.append_assoc]⟩

/-- The clause m has x for a watch, and then the other one is true. -/
def Done (T : Tr) (x : Int) (m : Nat) : Prop := ((cl T m).getD 0 0 = x → valOf T ((cl T m).getD 1 0) = 1) ∧ ((cl T m).getD 1 0 = x → valOf T ((cl T m).getD 0 0) = 1)

structure LookRes (n : Nat) (x : Int) (T0 : Tr) (R : Int × List Int × Tr) : Prop where
  good : Good n (setW R.2.2 (sideN x) R.2.1)
  ext : Ext T0 R.2.2
  nx : R.2.2.nx = T0.nx
  yes : R.1 = -1 → ∀ k ∈ R.2.1, ∃ m : Nat, k = (m : Nat) ∧ Done R.2.2 x m
  no : R.1 ≠ -1 → ∃ m : Nat, R.1 = (m : Nat) ∧ m < R.2.2.L.length ∧ ∀ z ∈ cl R.2.2 m, valOf R.2.2 z = -1
theorem LookRes.from {x : Int} {T0 T1 : Tr} {R : Int × List Int × Tr} (h : LookRes n x T1 R) (e : Ext T0 T1) (hn : T1.nx = T0.nx) : LookRes n x T0 R := ⟨h.good, e.trans h.ext, h.nx.trans hn, h.yes, h.no⟩

theorem cl_other_ne (T : Tr) (k i m : Nat) (h : m ≠ k) : cl (otherT T k i) m = cl T m := getD_set_ne _ _ _ (Ne.symm h)
theorem cl_look1_ne (T : Tr) (x : Int) (k m : Nat) (h : m ≠ k) : cl (look1 x k T) m = cl T m := by
  unfold look1; split
  · exact getD_set_ne _ _ _ (Ne.symm h)
  · rfl

theorem lookGo_good {x : Int} (hxn : 1 ≤ x.natAbs ∧ x.natAbs ≤ n) : ∀ (rest kept : List Int) (T : Tr), Good n (setW T (sideN x) (kept ++ rest)) → sideN x < T.W.length → valOf T x = -1 → (∀ k ∈ kept, ∃ m : Nat, k = (m : Nat) ∧ Done T x m) → LookRes n x T (lookGo x rest kept T)
  | [], kept, T, h, hj, hx, hd => by
    rw [List.append_nil] at h
    exact ⟨h, Ext.refl T, rfl, fun _ => hd, fun hh => absurd rfl hh⟩
  | k :: rest, kept, T, h, hj, hx, hd => by
    obtain ⟨m, rfl, hm, hL, ho⟩ := h.wIn (sideN x) k (by rw [setW_get _ _ _ hj]; exact List.mem_append_right _ (List.mem_cons_self ..))
    have hm : m < T.L.length := hm
    have hL : Long (cl T m) := hL
    have ho : sideN x = sideN ((cl T m).getD 0 0) ∨ sideN x = sideN ((cl T m).getD 1 0) := ho
    have hcm : ∀ z ∈ cl T m, 1 ≤ z.natAbs ∧ z.natAbs ≤ n := (h.ok.clause m).2
    have m0 := (hcm _ (mem_getD (d := 0) (show 0 < (cl T m).length by have := hL.1; omega))).1
    have m1 := (hcm _ (mem_getD (d := 0) (show 1 < (cl T m).length by have := hL.1; omega))).1
    have nd := h.wNd (sideN x)
    rw [setW_get _ _ _ hj] at nd
    have hmk : ∀ q : Nat, ((q : Nat) : Int) ∈ kept → q ≠ m := fun q hq e => by
      rw [List.nodup_append] at nd
      exact nd.2.2 _ hq _ (List.mem_cons_self ..) (by rw [e])
    rw [lookGo_mid]
    -- behind the change of places
    obtain ⟨h1, s1, c1, L1⟩ : Good n (setW (look1 x m T) (sideN x) (kept ++ (m : Int) :: rest)) ∧ SameCl T (look1 x m T) ∧ (cl (look1 x m T) m).getD 1 0 = x ∧ Long (cl (look1 x m T) m) := by
      by_cases e : (cl T m).getD 0 0 = x
      · have e1 : look1 x m T = swT T m 0 1 := if_pos e
        rw [e1]
        obtain ⟨g, s⟩ := h.sw01 m hm hL
        have c1 : (cl (swT T m 0 1) m).getD 1 0 = x := by rw [cl_sw _ _ _ _ _ hm, if_pos rfl, getD_set_eq _ _ _ (by rw [List.length_set]; have := hL.1; omega)]; exact e
        have c0 : (cl (swT T m 0 1) m).getD 0 0 = (cl T m).getD 1 0 := by rw [cl_sw _ _ _ _ _ hm, if_pos rfl, getD_set_ne _ _ _ (by omega), getD_set_eq _ _ _ (by have := hL.1; omega)]
        refine ⟨g, s, c1, by rw [show (cl (swT T m 0 1) m).length = (cl T m).length from sw_len T m 0 1 m]; exact hL.1, ?_⟩
        rw [c0, c1, ← e]; exact Ne.symm hL.2
      · have e1 : look1 x m T = T := if_neg e
        rw [e1]
        refine ⟨h, SameCl.refl T, ?_, hL⟩
        rcases ho with ho | ho
        · exact absurd (side_inj (by omega) (by omega) ho).symm e
        · exact (side_inj (by omega) (by omega) ho).symm
    obtain ⟨f1, f2, f3, f4, f5, f6⟩ := look1_rest x T m
    have hx1 : valOf (look1 x m T) x = -1 := by rw [valOf_F f1]; exact hx
    have hm1 : m < (look1 x m T).L.length := by rw [s1.1]; exact hm
    have hj1 : sideN x < (look1 x m T).W.length := by rw [f2]; exact hj
    have E1 : Ext T (look1 x m T) := ⟨s1, f5, f6, by rw [f2], [], by rw [f3]; simp⟩
    have hd1 : ∀ k ∈ kept, ∃ q : Nat, k = (q : Nat) ∧ Done (look1 x m T) x q := fun k hk => by
      obtain ⟨q, rfl, d1, d2⟩ := hd k hk
      refine ⟨q, rfl, ?_⟩
      unfold Done
      rw [cl_look1_ne T x m q (hmk q hk), valOf_F f1, valOf_F f1]
      exact ⟨d1, d2⟩
    refine LookRes.from ?_ E1 f4
    generalize look1 x m T = T1 at *
    clear hd f1 f2 f3 f4 f5 f6 E1 s1 h hx hj hm hL ho hcm m0 m1 nd
    have h2l : 2 ≤ (cl T1 m).length := L1.1
    have ym : (cl T1 m).getD 0 0 ∈ cl T1 m := mem_getD (by omega)
    have hcm : ∀ z ∈ cl T1 m, 1 ≤ z.natAbs ∧ z.natAbs ≤ n := (h1.ok.clause m).2
    have eapp : (kept ++ [(m : Int)]) ++ rest = kept ++ (m : Int) :: rest := by simp
    have n0x : (cl T1 m).getD 0 0 ≠ x := by rw [← c1]; exact L1.2
    unfold lookMid
    show LookRes n x T1 (if valOf T1 ((cl T1 m).getD 0 0) < 1 then (if otherI T1 (cl T1 m) < (cl T1 m).length then lookGo x rest kept (otherT T1 m (otherI T1 (cl T1 m))) else if valOf T1 ((cl T1 m).getD 0 0) = 0 then lookGo x rest (kept ++ [(m : Int)]) (makeT T1 ((cl T1 m).getD 0 0) m) else (m, kept ++ (m : Int) :: rest, T1)) else lookGo x rest (kept ++ [(m : Int)]) T1)
    have h3 := valOf_three h1.ok.small ((cl T1 m).getD 0 0)
    have h3 : valOf T1 ((cl T1 m).getD 0 0) = -1 ∨ valOf T1 ((cl T1 m).getD 0 0) = 0 ∨ valOf T1 ((cl T1 m).getD 0 0) = 1 := h3
    by_cases hv : valOf T1 ((cl T1 m).getD 0 0) < 1
    · rw [if_pos hv]
      obtain ⟨o1, o2, o3, o4⟩ := otherI_spec T1 (cl T1 m) h2l
      by_cases hot : otherI T1 (cl T1 m) < (cl T1 m).length
      · rw [if_pos hot]
        obtain ⟨g2, s2⟩ := h1.other rfl hj1 hx1 hm1 L1 c1 (by omega) o1 hot (o4 hot)
        have wl2 : (otherT T1 m (otherI T1 (cl T1 m))).W.length = T1.W.length := by show (push T1.W _ m).length = _; unfold push; rw [List.length_set]
        refine (lookGo_good hxn rest kept _ g2 (by rw [wl2]; exact hj1) hx1 fun k hk => ?_).from ⟨s2, rfl, rfl, wl2, [], by simp [otherT, pushT, swT]⟩ rfl
        obtain ⟨q, rfl, d1, d2⟩ := hd1 k hk
        refine ⟨q, rfl, ?_⟩
        unfold Done
        rw [cl_other_ne _ _ _ _ (hmk q hk)]
        exact ⟨d1, d2⟩
      · rw [if_neg hot]
        have oe : otherI T1 (cl T1 m) = (cl T1 m).length := by omega
        rw [oe] at o3
        have hz : ∀ z ∈ cl T1 m, z ≠ (cl T1 m).getD 0 0 → valOf T1 z = -1 := fun z hz hzy => by
          obtain ⟨p, hp, e⟩ := List.getElem_of_mem hz
          have e' : (cl T1 m).getD p 0 = z := by rw [List.getD_eq_getElem?_getD, List.getElem?_eq_getElem hp, Option.getD_some, e]
          by_cases p0 : p = 0
          · subst p0; exact absurd e'.symm hzy
          · by_cases p1 : p = 1
            · subst p1; rw [← e', c1]; exact hx1
            · have := o3 p (by omega) hp
              unfold goodI at this
              rw [e', Bool.and_eq_false_iff, decide_eq_false_iff_not, bne_eq_false_iff_eq] at this
              have h4 := valOf_three h1.ok.small z
              have h4 : valOf T1 z = -1 ∨ valOf T1 z = 0 ∨ valOf T1 z = 1 := h4
              rcases this with this | this
              · omega
              · exact absurd this hzy
        by_cases hv0 : valOf T1 ((cl T1 m).getD 0 0) = 0
        · rw [if_pos hv0]
          have yb := hcm _ ym
          have g2 := h1.make_core ((cl T1 m).getD 0 0) (m : Nat) yb hv0 m hm1 rfl ym hz
          rw [makeT_setW] at g2
          have yF : 1 ≤ ((cl T1 m).getD 0 0).natAbs ∧ ((cl T1 m).getD 0 0).natAbs ≤ T1.F.length := by have := h1.ok.fl; rw [show T1.F.length = n from this]; exact yb
          have vm : ∀ z, valOf T1 z = 1 → valOf (makeT T1 ((cl T1 m).getD 0 0) m) z = 1 := fun z hz1 => by
            rw [valOf_make _ _ _ _ yF]
            have e1 : ¬ z = (cl T1 m).getD 0 0 := fun e => by rw [e, hv0] at hz1; omega
            have e2 : ¬ z = -((cl T1 m).getD 0 0) := fun e => by rw [e, valOf_neg, hv0] at hz1; omega
            rw [if_neg e1, if_neg e2]; exact hz1
          have vy : valOf (makeT T1 ((cl T1 m).getD 0 0) m) ((cl T1 m).getD 0 0) = 1 := by rw [valOf_make _ _ _ _ yF, if_pos rfl]
          refine (lookGo_good hxn rest (kept ++ [(m : Int)]) (makeT T1 ((cl T1 m).getD 0 0) m) (by rw [eapp]; exact g2) hj1 ?_ fun k hk => ?_).from ⟨SameCl.refl _, rfl, rfl, rfl, [(cl T1 m).getD 0 0], rfl⟩ rfl
          · rw [valOf_make _ _ _ _ yF]
            have e1 : ¬ x = (cl T1 m).getD 0 0 := Ne.symm n0x
            have e2 : ¬ x = -((cl T1 m).getD 0 0) := fun e => by rw [e, valOf_neg, hv0] at hx1; omega
            rw [if_neg e1, if_neg e2]; exact hx1
          · rcases List.mem_append.1 hk with hk | hk
            · obtain ⟨q, rfl, d1, d2⟩ := hd1 k hk
              exact ⟨q, rfl, fun e => vm _ (d1 e), fun e => vm _ (d2 e)⟩
            · rw [List.mem_singleton] at hk
              exact ⟨m, hk, fun e => absurd e n0x, fun _ => vy⟩
        · rw [if_neg hv0]
          refine ⟨h1, Ext.refl _, rfl, fun e => absurd e (by show ¬ ((m : Nat) : Int) = -1; omega), fun _ => ⟨m, rfl, hm1, fun z hz' => ?_⟩⟩
          by_cases e : z = (cl T1 m).getD 0 0
          · show valOf T1 z = -1
            rw [e]; omega
          · exact hz z hz' e
    · rw [if_neg hv]
      refine lookGo_good hxn rest (kept ++ [(m : Int)]) _ (by rw [eapp]; exact h1) hj1 hx1 fun k hk => ?_
      rcases List.mem_append.1 hk with hk | hk
      · exact hd1 k hk
      · rw [List.mem_singleton] at hk
        exact ⟨m, hk, fun e => absurd e n0x, fun _ => by omega⟩
end Go.Proofs.Ytngegkgmenfelaa
