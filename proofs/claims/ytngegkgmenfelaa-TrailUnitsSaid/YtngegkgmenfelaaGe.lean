/-
  PLAIN: single, Follow.
-/
import Derived.Test.YtngegkgmenfelaaGd
namespace Go.Proofs.Ytngegkgmenfelaa
open Go.RowKit Go.Lib
variable {n : Nat} {T : Tr}

def singleGo : List Int → Tr → Int × Tr
  | [], T => (-1, T)
  | k :: rest, T =>
    if (cl T k.toNat).length = 0 ∨ valOf T ((cl T k.toNat).getD 0 0) < 0 then (k, T)
    else if valOf T ((cl T k.toNat).getD 0 0) = 0 then singleGo rest (makeT T ((cl T k.toNat).getD 0 0) k) else singleGo rest T
def singleT (T : Tr) : Int × Tr := singleGo T.short T
def nextT (T : Tr) : Tr := { T with nx := T.nx + 1 }
def followGo : Nat → Tr → (Int × Bool) × Tr
  | 0, T => ((-1, true), T)
  | f + 1, T =>
    if T.nx < T.lits.length then
      if (lookT T (-(T.lits.getD T.nx 0))).1 = -1 then followGo f (nextT (lookT T (-(T.lits.getD T.nx 0))).2)
      else (((lookT T (-(T.lits.getD T.nx 0))).1, false), (lookT T (-(T.lits.getD T.nx 0))).2)
    else ((-1, true), T)
def followT (T : Tr) : (Int × Bool) × Tr := if (singleT T).1 = -1 then followGo (T.F.length + 1) (singleT T).2 else (((singleT T).1, false), (singleT T).2)

/-- A clause's literals are all false. -/
def AllFalse (T : Tr) (k : Int) : Prop := ∃ m : Nat, k = (m : Nat) ∧ m < T.L.length ∧ ∀ z ∈ cl T m, valOf T z = -1
/-- A clause that is not empty, its first literal true. -/
def FirstTrue (T : Tr) (k : Int) : Prop := ∃ m : Nat, k = (m : Nat) ∧ 0 < (cl T m).length ∧ ∃ z ∈ cl T m, valOf T z = 1

theorem Ext.up {T' : Tr} (e : Ext T T') (h : Good n T) (h' : Good n T') {x : Int} (hx : valOf T x = 1) : valOf T' x = 1 := by
  obtain ⟨more, em⟩ := e.lits
  rw [← h'.lit, em]
  exact List.mem_append_left _ ((h.lit x).2 hx)
theorem Ext.down {T' : Tr} (e : Ext T T') (h : Good n T) (h' : Good n T') {x : Int} (hx : valOf T x = -1) : valOf T' x = -1 := by
  have := e.up h h' (x := -x) (by rw [valOf_neg, hx]; rfl)
  rw [valOf_neg] at this; omega
theorem FirstTrue.up {T' : Tr} {k : Int} (f : FirstTrue T k) (e : Ext T T') (h : Good n T) (h' : Good n T') : FirstTrue T' k := by
  obtain ⟨m, rfl, h1, z, hz, hv⟩ := f
  have hz' := (e.same.2 m z).2 hz
  exact ⟨m, rfl, List.length_pos_of_mem hz', z, hz', e.up h h' hv⟩

structure SingleRes (n : Nat) (rest : List Int) (T : Tr) (R : Int × Tr) : Prop where
  good : Good n R.2
  ext : Ext T R.2
  nx : R.2.nx = T.nx
  yes : R.1 = -1 → ∀ k ∈ rest, FirstTrue R.2 k
  no : R.1 ≠ -1 → AllFalse R.2 R.1

theorem singleGo_good : ∀ (rest : List Int) (T : Tr), Good n T → (∀ k ∈ rest, ∃ m : Nat, k = (m : Nat) ∧ m < T.L.length ∧ Alike (cl T m)) → SingleRes n rest T (singleGo rest T)
  | [], T, h, _ => ⟨h, Ext.refl T, rfl, fun _ k hk => absurd hk (by simp), fun hh => absurd rfl hh⟩
  | k :: rest, T, h, hr => by
    obtain ⟨m, rfl, hm, hA⟩ := hr k (List.mem_cons_self ..)
    have hcm : ∀ z ∈ cl T m, 1 ≤ z.natAbs ∧ z.natAbs ≤ n := (h.ok.clause m).2
    unfold singleGo
    rw [Int.toNat_natCast]
    by_cases h0 : (cl T m).length = 0 ∨ valOf T ((cl T m).getD 0 0) < 0
    · rw [if_pos h0]
      refine ⟨h, Ext.refl T, rfl, fun e => absurd e (by show ¬ ((m : Nat) : Int) = -1; omega), fun _ => ⟨m, rfl, hm, fun z hz => ?_⟩⟩
      have hz : z ∈ cl T m := hz
      rcases h0 with h0 | h0
      · exact absurd (List.length_pos_of_mem hz) (by omega)
      · have h3 := valOf_three h.ok.small z
        show valOf T z = -1
        rw [hA z hz] at h3 ⊢; omega
    · rw [if_neg h0]
      have hl : 0 < (cl T m).length := by omega
      have hv : ¬ valOf T ((cl T m).getD 0 0) < 0 := fun e => h0 (.inr e)
      have ym : (cl T m).getD 0 0 ∈ cl T m := mem_getD hl
      by_cases hv0 : valOf T ((cl T m).getD 0 0) = 0
      · rw [if_pos hv0]
        have g2 := h.make_core ((cl T m).getD 0 0) (m : Nat) (hcm _ ym) hv0 m hm rfl ym (fun z hz hzy => absurd (hA z hz) hzy)
        have yF : 1 ≤ ((cl T m).getD 0 0).natAbs ∧ ((cl T m).getD 0 0).natAbs ≤ T.F.length := by rw [h.ok.fl]; exact hcm _ ym
        have r := singleGo_good rest (makeT T ((cl T m).getD 0 0) m) g2 (fun k hk => hr k (List.mem_cons_of_mem _ hk))
        have E : Ext T (makeT T ((cl T m).getD 0 0) m) := ⟨SameCl.refl _, rfl, rfl, rfl, _, rfl⟩
        refine ⟨r.good, E.trans r.ext, r.nx, fun e k hk => ?_, r.no⟩
        rcases List.mem_cons.1 hk with rfl | hk
        · refine FirstTrue.up (T := makeT T ((cl T m).getD 0 0) m) ⟨m, rfl, hl, _, ym, ?_⟩ r.ext g2 r.good
          rw [valOf_make _ _ _ _ yF, if_pos rfl]
        · exact r.yes e k hk
      · rw [if_neg hv0]
        have r := singleGo_good rest T h (fun k hk => hr k (List.mem_cons_of_mem _ hk))
        refine ⟨r.good, r.ext, r.nx, fun e k hk => ?_, r.no⟩
        rcases List.mem_cons.1 hk with rfl | hk
        · have h3 := valOf_three h.ok.small ((cl T m).getD 0 0)
          exact FirstTrue.up ⟨m, rfl, hl, _, ym, by omega⟩ r.ext h r.good
        · exact r.yes e k hk

theorem Good.singleT (h : Good n T) : SingleRes n T.short T (singleT T) := singleGo_good T.short T h h.shIn

/-- One literal is looked at. -/
structure StepRes (n : Nat) (T : Tr) (R : Int × Tr) : Prop where
  good : R.1 ≠ -1 → Good n R.2
  goodN : R.1 = -1 → Good n (nextT R.2)
  ext : Ext T R.2
  nx : R.2.nx = T.nx
  no : R.1 ≠ -1 → AllFalse R.2 R.1

theorem Good.lookT (h : Good n T) (hn : T.nx < T.lits.length) : StepRes n T (lookT T (-(T.lits.getD T.nx 0))) := by
  obtain ⟨x, hx⟩ : ∃ x, -(T.lits.getD T.nx 0) = x := ⟨_, rfl⟩
  have hlm : T.lits.getD T.nx 0 ∈ T.lits := mem_getD hn
  have hxv : valOf T x = -1 := by rw [← hx, valOf_neg, (h.lit _).1 hlm]
  have hxn : 1 ≤ x.natAbs ∧ x.natAbs ≤ n := by have := h.litVar hlm; rw [← hx, Int.natAbs_neg]; exact this
  have hj : sideN x < T.W.length := by rw [h.ok.wl]; exact side_lt hxn
  have e0 : setW T (sideN x) ([] ++ T.W.getD (sideN x) []) = T := by
    unfold setW
    have : T.W.set (sideN x) ([] ++ T.W.getD (sideN x) []) = T.W := by
      rw [List.nil_append, List.getD_eq_getElem?_getD, List.getElem?_eq_getElem hj, Option.getD_some, List.set_getElem_self]
    rw [this]
  have r := lookGo_good hxn (T.W.getD (sideN x) []) [] T (by rw [e0]; exact h) hj hxv (fun k hk => absurd hk (by simp))
  rw [hx]
  unfold Ytngegkgmenfelaa.lookT
  generalize lookGo x (T.W.getD (sideN x) []) [] T = R at r
  have hj2 : sideN x < R.2.2.W.length := by rw [r.ext.wl]; exact hj
  refine ⟨fun _ => r.good, fun e => ?_, ⟨r.ext.same, r.ext.starts, r.ext.short, by show (R.2.2.W.set _ _).length = _; rw [List.length_set]; exact r.ext.wl, r.ext.lits⟩, r.nx, fun e => r.no e⟩
  obtain ⟨more, em⟩ := r.ext.lits
  have hn2 : R.2.2.nx < R.2.2.lits.length := by rw [r.nx, em, List.length_append]; omega
  have ex : -(R.2.2.lits.getD R.2.2.nx 0) = x := by
    rw [r.nx, em, List.getD_eq_getElem?_getD, List.getElem?_append_left hn, ← List.getD_eq_getElem?_getD]; exact hx
  have g := r.good
  refine { g with ok := ⟨g.ok.fl, g.ok.n2, g.ok.wl, g.ok.small, g.ok.cl, g.ok.ll⟩, nxl := hn2, vis := fun p hp m hm hL => ?_ }
  by_cases ep : p < R.2.2.nx
  · exact g.vis p ep m hm hL
  · obtain rfl : p = R.2.2.nx := by have hp : p < R.2.2.nx + 1 := hp; omega
    obtain ⟨w0, w1⟩ := g.wOf m hm hL
    have dn : ((m : Nat) : Int) ∈ R.2.1 → Done R.2.2 x m := fun hk => by
      obtain ⟨q, eq, d⟩ := r.yes e _ hk
      obtain rfl : m = q := by omega
      exact d
    show ((cl R.2.2 m).getD 0 0 = -(R.2.2.lits.getD R.2.2.nx 0) → valOf R.2.2 ((cl R.2.2 m).getD 1 0) = 1) ∧ ((cl R.2.2 m).getD 1 0 = -(R.2.2.lits.getD R.2.2.nx 0) → valOf R.2.2 ((cl R.2.2 m).getD 0 0) = 1)
    rw [ex]
    refine ⟨fun e0 => ?_, fun e1 => ?_⟩
    · rw [show (cl (setW R.2.2 (sideN x) R.2.1) m).getD 0 0 = x from e0, setW_get _ _ _ hj2] at w0
      exact (dn w0).1 e0
    · rw [show (cl (setW R.2.2 (sideN x) R.2.1) m).getD 1 0 = x from e1, setW_get _ _ _ hj2] at w1
      exact (dn w1).2 e1

/-- No clause is false, none is one literal short. -/
def Closed (T : Tr) : Prop := ∀ m, m < T.L.length → (∃ z ∈ cl T m, valOf T z = 1) ∨ ∃ a ∈ cl T m, ∃ b ∈ cl T m, a ≠ b ∧ valOf T a ≠ -1 ∧ valOf T b ≠ -1

theorem Good.closed (h : Good n T) (hn : T.lits.length ≤ T.nx) (hs : ∀ k ∈ T.short, FirstTrue T k) : Closed T := by
  intro m hm
  by_cases hL : Long (cl T m)
  · have c0 : (cl T m).getD 0 0 ∈ cl T m := mem_getD (by have := hL.1; omega)
    have c1 : (cl T m).getD 1 0 ∈ cl T m := mem_getD (by have := hL.1; omega)
    have find : ∀ z, valOf T z = -1 → ∃ p, p < T.nx ∧ z = -(T.lits.getD p 0) := fun z hz => by
      have h1 : -z ∈ T.lits := by rw [h.lit, valOf_neg, hz]; rfl
      obtain ⟨p, hp, e⟩ := List.getElem_of_mem h1
      refine ⟨p, by omega, ?_⟩
      rw [List.getD_eq_getElem?_getD, List.getElem?_eq_getElem hp, Option.getD_some, e, Int.neg_neg]
    by_cases h0 : valOf T ((cl T m).getD 0 0) = -1
    · obtain ⟨p, hp, e⟩ := find _ h0
      exact .inl ⟨_, c1, (h.vis p hp m hm hL).1 e⟩
    · by_cases h1 : valOf T ((cl T m).getD 1 0) = -1
      · obtain ⟨p, hp, e⟩ := find _ h1
        exact .inl ⟨_, c0, (h.vis p hp m hm hL).2 e⟩
      · exact .inr ⟨_, c0, _, c1, hL.2, h0, h1⟩
  · obtain ⟨q, e, _, z, hz, hv⟩ := hs _ (h.shOf m hm hL)
    obtain rfl : m = q := by omega
    exact .inl ⟨z, hz, hv⟩

structure FollowRes (n : Nat) (T : Tr) (R : (Int × Bool) × Tr) : Prop where
  good : Good n R.2
  ext : Ext T R.2
  yes : R.1.2 = true → R.1.1 = -1 ∧ Closed R.2
  no : R.1.2 = false → AllFalse R.2 R.1.1

theorem Ext.next {a b : Tr} (h : Ext a b) : Ext a (nextT b) := ⟨h.same, h.starts, h.short, h.wl, h.lits⟩

theorem followGo_good : ∀ (f : Nat) (T : Tr), Good n T → (∀ k ∈ T.short, FirstTrue T k) → n + 1 ≤ T.nx + f → FollowRes n T (followGo f T)
  | 0, T, h, _, hf => by have := h.nxl; have := h.litsLen; omega
  | f + 1, T, h, hs, hf => by
    unfold followGo
    by_cases hn : T.nx < T.lits.length
    · rw [if_pos hn]
      have r := h.lookT hn
      generalize lookT T (-(T.lits.getD T.nx 0)) = R at r
      by_cases hk : R.1 = -1
      · rw [if_pos hk]
        have g := r.goodN hk
        have E := r.ext.next
        have r2 := followGo_good f (nextT R.2) g (fun k hk => (hs k (by rw [← E.short]; exact hk)).up E h g) (by show n + 1 ≤ (R.2.nx + 1) + f; rw [r.nx]; omega)
        exact ⟨r2.good, E.trans r2.ext, r2.yes, r2.no⟩
      · rw [if_neg hk]
        exact ⟨r.good hk, r.ext, (fun e => by cases e), fun _ => r.no hk⟩
    · rw [if_neg hn]
      exact ⟨h, Ext.refl T, fun _ => ⟨rfl, h.closed (by omega) hs⟩, (fun e => by cases e)⟩

theorem Good.followT (h : Good n T) : FollowRes n T (followT T) := by
  have r := h.singleT
  unfold Ytngegkgmenfelaa.followT
  generalize Ytngegkgmenfelaa.singleT T = R at r
  by_cases hk : R.1 = -1
  · rw [if_pos hk]
    have r2 := followGo_good (T.F.length + 1) R.2 r.good (fun k hk' => r.yes hk k (by rw [← r.ext.short]; exact hk')) (by rw [h.ok.fl]; omega)
    exact ⟨r2.good, r.ext.trans r2.ext, r2.yes, r2.no⟩
  · rw [if_neg hk]
    exact ⟨r.good, r.ext, (fun e => by cases e), fun _ => r.no hk⟩
end Go.Proofs.Ytngegkgmenfelaa
