/-
  PLAIN: rows of literals decided, taken back, done again; Units beside them.
-/
import Derived.Test.YtngegkgmenfelaaGij
import Derived.Test.YtngegkgmenfelaaXac
namespace Go.Proofs.Ytngegkgmenfelaa
open Go.RowKit Go.Lib

variable {n : Nat} {T U : Tr} {L : List (List Int)}

theorem new_facts (hr : rightB (n : Int) L = true) (hL : L.length ≤ 300000) : Good n (putAll (emptyT n) L) ∧ SameL (putAll (emptyT n) L) L ∧ (putAll (emptyT n) L).lits = [] ∧ (putAll (emptyT n) L).starts = [] := by
  obtain ⟨hn, _, hc⟩ := rightB_all hr
  have R := Good.putAll L (emptyT n) (Good.new n hn) hc (by show 0 + L.length ≤ 300000; omega)
  have e0 : (emptyT n).L.length = 0 := rfl
  refine ⟨R.good, ⟨by rw [R.ll, e0, Nat.zero_add], fun m hm x => ?_⟩, R.lits, R.starts⟩
  have := R.new m hm x
  rw [e0, Nat.zero_add] at this
  exact this

/-- The same literals are true. -/
def Sim (T U : Tr) : Prop := ∀ x, x ∈ T.lits ↔ x ∈ U.lits
theorem Sim.refl (T : Tr) : Sim T T := fun _ => Iff.rfl
theorem Sim.symm (h : Sim T U) : Sim U T := fun x => (h x).symm
theorem Sim.of (h : T.lits = U.lits) : Sim T U := fun x => by rw [h]
theorem Sim.val (hT : Good n T) (hU : Good n U) (h : Sim T U) (x : Int) : valOf T x = valOf U x := by
  have a := h x
  have b := h (-x)
  rw [hT.lit, hU.lit] at a b
  rw [valOf_neg, valOf_neg] at b
  have a3 := valOf_three hT.ok.small x
  have b3 := valOf_three hU.ok.small x
  rcases a3 with e | e | e <;> rcases b3 with e' | e' | e' <;> rw [e, e'] at a b ⊢ <;> simp at a b
theorem Sim.decE (hT : Good n T) (hU : Good n U) (h : Sim T U) (x : Int) : Ytngegkgmenfelaa.decE T x = Ytngegkgmenfelaa.decE U x := by
  have hv := h.val hT hU x
  have e : isVar T x = isVar U x := by unfold isVar; rw [hT.ok.fl, hU.ok.fl]
  unfold Ytngegkgmenfelaa.decE
  rw [e]
  by_cases h0 : (factOf T x).1 = 0
  · have h1 : (factOf U x).1 = 0 := val_fact (by rw [← hv]; exact fact_val h0)
    rw [if_pos h0, if_pos h1]
  · have h1 : ¬ (factOf U x).1 = 0 := fun h1 => h0 (val_fact (by rw [hv]; exact fact_val h1))
    rw [if_neg h0, if_neg h1]
theorem Closed.sim (hT : Good n T) (hU : Good n U) (h : Sim T U) (lT : SameL T L) (lU : SameL U L) (hc : Closed T) : Closed U := by
  intro m hm
  have hmL : m < L.length := by rw [← lU.1]; exact hm
  have e : ∀ x, x ∈ cl T m ↔ x ∈ cl U m := fun x => (lT.2 m hmL x).trans (lU.2 m hmL x).symm
  have hv := h.val hT hU
  rcases hc m (by rw [lT.1]; exact hmL) with ⟨z, hz, h1⟩ | ⟨a, ha, b, hb, hab, h1, h2⟩
  · exact .inl ⟨z, (e z).1 hz, by rw [← hv]; exact h1⟩
  · exact .inr ⟨a, (e a).1 ha, b, (e b).1 hb, hab, by rw [← hv]; exact h1, by rw [← hv]; exact h2⟩

theorem SameL.decS (h : SameL T L) (x : Int) : SameL (Ytngegkgmenfelaa.decS T x) L := by
  unfold Ytngegkgmenfelaa.decS
  split
  · exact h
  · exact h
theorem decS_lits {x : Int} (h : decE T x = 0) : (decS T x).lits = T.lits ++ [x] ∧ (decS T x).starts = T.starts ++ [((T.lits.length : Nat) : Int)] := by
  unfold decS; rw [if_pos h]; exact ⟨rfl, rfl⟩
theorem SameL.backT (h : SameL T L) (lv : Nat) : SameL (Ytngegkgmenfelaa.backT T lv) L := h

theorem Good.followSame (h : Good n T) (hL : SameL T L) (hc : Closed T) : (Ytngegkgmenfelaa.followT T).1.2 = true ∧ (Ytngegkgmenfelaa.followT T).2.lits = T.lits ∧ (Ytngegkgmenfelaa.followT T).2.starts = T.starts := by
  have S := h.followSpec hL
  have hy := S.free.2 (h.closedFree hL hc (fun _ hx => hx))
  obtain ⟨more, em⟩ := S.more
  refine ⟨hy, ?_, S.starts⟩
  cases more with
  | nil => rw [em, List.append_nil]
  | cons y more =>
    exfalso
    have hy1 : y ∈ (Ytngegkgmenfelaa.followT T).2.lits := by rw [em]; simp
    have hy2 := h.closedHas hL hc (fun _ hx => hx) (S.der y hy1)
    have hnd := S.good.nd
    rw [em] at hnd
    exact (List.nodup_append.1 hnd).2.2 y hy2 y List.mem_cons_self rfl

/-- What a row of literals leaves. -/
structure RowSpec (n : Nat) (L : List (List Int)) (T : Tr) (R : Bool × Tr) : Prop where
  good : Good n R.2
  same : SameL R.2 L
  closed : R.1 = true → Closed R.2
  rows : (R.2.starts = T.starts ∧ R.2.lits = T.lits) ∨ ((∃ more, R.2.starts = T.starts ++ ((T.lits.length : Nat) : Int) :: more) ∧ ∃ more, R.2.lits = T.lits ++ more)

theorem rowGo_spec : ∀ (xs : List Int) (on : Bool) (T : Tr), Good n T → SameL T L → (on = true → Closed T) → RowSpec n L T (rowGo xs on T) := by
  intro xs
  induction xs with
  | nil => intro on T h hL hc; exact ⟨h, hL, hc, .inl ⟨rfl, rfl⟩⟩
  | cons x xs ih =>
    intro on T h hL hc
    unfold rowGo
    cases on with
    | false => exact ⟨h, hL, (fun h => by cases h), .inl ⟨rfl, rfl⟩⟩
    | true =>
      rw [if_pos rfl]
      by_cases h0 : decE T x = 0
      · rw [if_pos h0]
        have S := (h.decS x).followSpec (hL.decS x)
        obtain ⟨e1, e2⟩ := decS_lits h0
        obtain ⟨more, em⟩ := S.more
        have R := ih _ _ S.good S.same (fun hy => (S.yes hy).2)
        refine ⟨R.good, R.same, R.closed, .inr ?_⟩
        rcases R.rows with ⟨r1, r2⟩ | ⟨⟨m1, r1⟩, m2, r2⟩
        · exact ⟨⟨[], by rw [r1, S.starts, e2]⟩, _, by rw [r2, em, e1, List.append_assoc]⟩
        · exact ⟨⟨_, by rw [r1, S.starts, e2, List.append_assoc]; rfl⟩, _, by rw [r2, em, e1, List.append_assoc, List.append_assoc]⟩
      · rw [if_neg h0]
        exact ih true T h hL hc

theorem rowT_any (h : Good n T) (hL : SameL T L) (xs : List Int) : Good n (rowT T xs).2 ∧ SameL (rowT T xs).2 L ∧ ((rowT T xs).1 = true → Closed (rowT T xs).2) := by
  have S := h.followSpec hL
  have R := rowGo_spec xs (followT T).1.2 (followT T).2 S.good S.same (fun hy => (S.yes hy).2)
  exact ⟨R.good, R.same, R.closed⟩
theorem rowT_spec (h : Good n T) (hL : SameL T L) (hc : Closed T) (xs : List Int) : RowSpec n L T (rowT T xs) := by
  have S := h.followSpec hL
  obtain ⟨e1, e2, e3⟩ := h.followSame hL hc
  have R := rowGo_spec xs (followT T).1.2 (followT T).2 S.good S.same (fun hy => (S.yes hy).2)
  refine ⟨R.good, R.same, R.closed, ?_⟩
  have := R.rows
  rw [e2, e3] at this
  exact this

/-- Back, at the level too. -/
def backA (T : Tr) (lv : Nat) : Tr := if lv < T.starts.length then backT T lv else T
theorem Good.backA (h : Good n T) (lv : Nat) : Good n (Ytngegkgmenfelaa.backA T lv) := by
  unfold Ytngegkgmenfelaa.backA
  split
  · rename_i hl; exact h.back lv hl
  · exact h
theorem SameL.backA (h : SameL T L) (lv : Nat) : SameL (Ytngegkgmenfelaa.backA T lv) L := by
  unfold Ytngegkgmenfelaa.backA
  split
  · exact h
  · exact h
theorem RowSpec.back {R : Bool × Tr} (h : RowSpec n L T R) : T.starts.length ≤ R.2.starts.length ∧ (backA R.2 T.starts.length).lits = T.lits ∧ (backA R.2 T.starts.length).starts = T.starts := by
  rcases h.rows with ⟨r1, r2⟩ | ⟨⟨m1, r1⟩, m2, r2⟩
  · unfold backA
    rw [if_neg (by rw [r1]; omega)]
    exact ⟨by rw [r1]; exact Nat.le_refl _, r2, r1⟩
  · have hlt : T.starts.length < R.2.starts.length := by rw [r1]; simp
    have hs : startOf R.2 T.starts.length = T.lits.length := by
      unfold startOf
      rw [r1, List.getD_eq_getElem?_getD, List.getElem?_append_right (Nat.le_refl _), Nat.sub_self]
      simp
    unfold backA
    rw [if_pos hlt]
    refine ⟨by omega, ?_, ?_⟩
    · show R.2.lits.take (startOf R.2 T.starts.length) = T.lits
      rw [hs, r2, List.take_left]
    · show R.2.starts.take T.starts.length = T.starts
      rw [r1, List.take_left]

theorem follow_sim (hT : Good n T) (hU : Good n U) (lT : SameL T L) (lU : SameL U L) (h : Sim T U) : (followT T).1.2 = (followT U).1.2 ∧ ((followT T).1.2 = true → Sim (followT T).2 (followT U).2) := by
  have S := hT.followSpec lT
  have V := hU.followSpec lU
  have e : (followT T).1.2 = true ↔ (followT U).1.2 = true := by
    rw [S.free, V.free]
    exact not_congr (Conflict.congr h)
  refine ⟨?_, fun hy x => ?_⟩
  · cases h1 : (followT T).1.2 <;> cases h2 : (followT U).1.2 <;> rw [h1, h2] at e <;> simp at e <;> rfl
  · rw [S.iff hy, V.iff (e.1 hy)]
    exact Der.congr h x

theorem rowGo_sim : ∀ (xs : List Int) (on : Bool) (T U : Tr), Good n T → Good n U → SameL T L → SameL U L → (on = true → Sim T U) →
    (rowGo xs on T).1 = (rowGo xs on U).1 ∧ ((rowGo xs on T).1 = true → Sim (rowGo xs on T).2 (rowGo xs on U).2) := by
  intro xs
  induction xs with
  | nil => intro on T U _ _ _ _ h; exact ⟨rfl, h⟩
  | cons x xs ih =>
    intro on T U hT hU lT lU h
    cases on with
    | false => unfold rowGo; exact ⟨rfl, fun h => by cases h⟩
    | true =>
      have hs := h rfl
      have he := hs.decE hT hU x
      unfold rowGo
      rw [if_pos rfl, if_pos rfl, ← he]
      by_cases h0 : decE T x = 0
      · rw [if_pos h0, if_pos h0]
        have s2 : Sim (decS T x) (decS U x) := fun y => by
          rw [(decS_lits h0).1, (decS_lits (he ▸ h0)).1, List.mem_append, List.mem_append, hs y]
        obtain ⟨f1, f2⟩ := follow_sim (hT.decS x) (hU.decS x) (lT.decS x) (lU.decS x) s2
        rw [← f1]
        exact ih _ _ _ ((hT.decS x).followSpec (lT.decS x)).good ((hU.decS x).followSpec (lU.decS x)).good ((hT.decS x).followSpec (lT.decS x)).same ((hU.decS x).followSpec (lU.decS x)).same f2
      · rw [if_neg h0, if_neg h0]
        exact ih true T U hT hU lT lU h
theorem rowT_sim (hT : Good n T) (hU : Good n U) (lT : SameL T L) (lU : SameL U L) (h : Sim T U) (xs : List Int) :
    (rowT T xs).1 = (rowT U xs).1 ∧ ((rowT T xs).1 = true → Sim (rowT T xs).2 (rowT U xs).2) := by
  obtain ⟨f1, f2⟩ := follow_sim hT hU lT lU h
  unfold rowT
  rw [← f1]
  exact rowGo_sim xs _ _ _ (hT.followSpec lT).good (hU.followSpec lU).good (hT.followSpec lT).same (hU.followSpec lU).same f2

/-- The law of TrailBack, plain. -/
theorem back_law (h : Good n T) (hL : SameL T L) (hc : Closed T) (xs : List Int) :
    T.starts.length ≤ (rowT T xs).2.starts.length ∧ Good n (backA (rowT T xs).2 T.starts.length) ∧ (backA (rowT T xs).2 T.starts.length).lits = T.lits ∧ (backA (rowT T xs).2 T.starts.length).starts = T.starts ∧
    Closed (backA (rowT T xs).2 T.starts.length) ∧ SameL (backA (rowT T xs).2 T.starts.length) L ∧
    (rowT T xs).1 = (rowT (backA (rowT T xs).2 T.starts.length) xs).1 ∧ ((rowT T xs).1 = true → Sim (rowT T xs).2 (rowT (backA (rowT T xs).2 T.starts.length) xs).2) := by
  have R := rowT_spec h hL hc xs
  obtain ⟨b1, b2, b3⟩ := R.back
  have hg := R.good.backA T.starts.length
  have hl := R.same.backA T.starts.length
  have hs : Sim T (backA (rowT T xs).2 T.starts.length) := Sim.of b2.symm
  obtain ⟨s1, s2⟩ := rowT_sim h hg hL hl hs xs
  exact ⟨b1, hg, b2, b3, hc.sim h hg hs hL hl, hl, s1, s2⟩
theorem keepsB_sim {xs ys : List Int} (h : ∀ x, x ∈ xs ↔ x ∈ ys) : keepsB xs ys = true := decide_eq_true fun x hx => (h x).1 hx

/-- Units, and a closed trail that has all that was given and no more. -/
theorem units_end {G : List Int} (h : Good n T) (hL : SameL T L) (hc : Closed T) (sub : ∀ x ∈ T.lits, Der L (fun y => y ∈ G) x) (all : ∀ x ∈ G, x ∈ T.lits) : ¬ Bad n L G := by
  rintro (⟨x, hx, h1⟩ | ⟨x, h1, h2⟩ | h1)
  · rw [(okLit_iff x n).2 (h.litVar (all x hx))] at h1; cases h1
  · exact h.consistent (h.closedHas hL hc all h1) (h.closedHas hL hc all h2)
  · exact h.closedFree hL hc all h1
theorem units_val {G A : List Int} (h : Good n T) (hL : SameL T L) (hc : Closed T) (sub : ∀ x ∈ T.lits, Der L (fun y => y ∈ G) x) (all : ∀ x ∈ G, x ∈ T.lits) (ht : Told n L G A) (v : Int) : valOf T v = litA A v := by
  have key : ∀ v, valOf T v = 1 ↔ litA A v = 1 := fun v => by
    rw [← h.lit, ht.iff]
    exact ⟨sub v, h.closedHas hL hc all⟩
  have a := key v
  have b := key (-v)
  rw [valOf_neg, litA_neg] at b
  have a3 := valOf_three h.ok.small v
  have b3 := litA_three ht.three v
  rcases a3 with e | e | e <;> rcases b3 with e' | e' | e' <;> rw [e, e'] at a b ⊢ <;> simp at a b
/-- A step of TrailUnits. -/
theorem units_bad {G : List Int} (h : Good n T) (sub : ∀ x ∈ T.lits, Der L (fun y => y ∈ G) x) {x : Int} (hx : x ∈ G) (hb : decE T x = 1 ∨ valOf T x = -1) : Bad n L G := by
  rcases hb with hb | hb
  · refine .inl ⟨x, hx, ?_⟩
    unfold decE at hb
    cases hv : isVar T x with
    | false => unfold isVar at hv; rw [h.ok.fl] at hv; exact hv
    | true => rw [hv] at hb; simp only [if_true] at hb; split at hb <;> omega
  · exact .inr (.inl ⟨x, .base hx, sub _ ((h.lit _).2 (by rw [valOf_neg, hb]; rfl))⟩)
theorem units_sub {G : List Int} {R : (Int × Bool) × Tr} (sub : ∀ x ∈ T.lits, Der L (fun y => y ∈ G) x) (S : FollowSpec n L T R) : ∀ x ∈ R.2.lits, Der L (fun y => y ∈ G) x := fun x hx => (S.der x hx).mono sub
theorem units_conflict {G : List Int} {R : (Int × Bool) × Tr} (sub : ∀ x ∈ T.lits, Der L (fun y => y ∈ G) x) (S : FollowSpec n L T R) (hn : R.1.2 = false) : Bad n L G := by
  refine .inr (.inr ?_)
  have : ¬ ¬ Conflict L (fun y => y ∈ T.lits) := fun h => by rw [S.free.2 h] at hn; cases hn
  exact (Classical.not_not.1 this).mono sub

/-- A closed trail: no clause is false by what it knows. -/
theorem closed_value {A : List Int} (h : Good n T) (hL : SameL T L) (hc : Closed T) (hA : ∀ x, okLit x n = true → litA A x = valOf T x) {c : List Int} (hcL : c ∈ L) : ¬ valC A c < 0 := by
  intro hv
  obtain ⟨m, hm, he⟩ := hL.of hcL
  have fal : ∀ y ∈ cl T m, valOf T y < 0 := fun y hy => by
    rw [← hA y ((okLit_iff y n).2 ((h.ok.clause m).2 y hy))]
    exact (valC_le c).1.1 hv y ((he y).1 hy)
  have h3 := valOf_three h.ok.small
  rcases hc m hm with ⟨z, hz, hz1⟩ | ⟨a, ha, b, hb, hab, ha1, hb1⟩
  · have := fal z hz; omega
  · have := fal a ha
    have := h3 a; omega
end Go.Proofs.Ytngegkgmenfelaa
