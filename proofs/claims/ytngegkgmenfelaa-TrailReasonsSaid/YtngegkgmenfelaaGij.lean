/-
  PLAIN: what follows of some literals by some clauses; Follow tells just that.
-/
import Derived.Test.YtngegkgmenfelaaGfh
import Derived.Test.YtngegkgmenfelaaUad
namespace Go.Proofs.Ytngegkgmenfelaa
open Go.RowKit Go.Lib

/-- What follows of S. -/
inductive Der (L : List (List Int)) (S : Int → Prop) : Int → Prop
  | base {x : Int} : S x → Der L S x
  | step {x : Int} (c : List Int) : c ∈ L → x ∈ c → (∀ y ∈ c, y ≠ x → Der L S (-y)) → Der L S x

/-- A clause is false by what follows. -/
def Conflict (L : List (List Int)) (S : Int → Prop) : Prop := ∃ c ∈ L, ∀ y ∈ c, Der L S (-y)

/-- T's clauses are those of L, up to the literals' order. -/
def SameL (T : Tr) (L : List (List Int)) : Prop := T.L.length = L.length ∧ ∀ m, m < L.length → ∀ x, x ∈ cl T m ↔ x ∈ L.getD m []

theorem Der.mono {L : List (List Int)} {S S' : Int → Prop} (hS : ∀ x, S x → Der L S' x) {x : Int} (h : Der L S x) : Der L S' x := by
  induction h with
  | base h => exact hS _ h
  | step c hc hx _ ih => exact .step c hc hx ih
theorem Conflict.mono {L : List (List Int)} {S S' : Int → Prop} (hS : ∀ x, S x → Der L S' x) (h : Conflict L S) : Conflict L S' := by
  obtain ⟨c, hc, h⟩ := h
  exact ⟨c, hc, fun y hy => (h y hy).mono hS⟩
theorem Der.congr {L : List (List Int)} {S S' : Int → Prop} (hS : ∀ x, S x ↔ S' x) (x : Int) : Der L S x ↔ Der L S' x :=
  ⟨fun h => h.mono fun y hy => .base ((hS y).1 hy), fun h => h.mono fun y hy => .base ((hS y).2 hy)⟩
theorem Conflict.congr {L : List (List Int)} {S S' : Int → Prop} (hS : ∀ x, S x ↔ S' x) : Conflict L S ↔ Conflict L S' :=
  ⟨fun h => h.mono fun y hy => .base ((hS y).1 hy), fun h => h.mono fun y hy => .base ((hS y).2 hy)⟩

theorem SameL.mem {T : Tr} {L : List (List Int)} (h : SameL T L) {m : Nat} (hm : m < T.L.length) : ∃ c ∈ L, ∀ x, x ∈ cl T m ↔ x ∈ c :=
  ⟨L.getD m [], mem_getD (by rw [← h.1]; exact hm), h.2 m (by rw [← h.1]; exact hm)⟩
theorem SameL.of {T : Tr} {L : List (List Int)} (h : SameL T L) {c : List Int} (hc : c ∈ L) : ∃ m, m < T.L.length ∧ ∀ x, x ∈ cl T m ↔ x ∈ c := by
  obtain ⟨m, hm, rfl⟩ := List.getElem_of_mem hc
  refine ⟨m, by rw [h.1]; exact hm, fun x => ?_⟩
  rw [h.2 m hm x, List.getD_eq_getElem?_getD, List.getElem?_eq_getElem hm, Option.getD_some]
theorem SameL.same {T T' : Tr} {L : List (List Int)} (h : SameL T L) (hs : SameCl T T') : SameL T' L :=
  ⟨hs.1.trans h.1, fun m hm x => (hs.2 m x).trans (h.2 m hm x)⟩

variable {n : Nat} {T : Tr}

/-- What holds in a closed trail. -/
theorem Good.closedHas {L : List (List Int)} {S : Int → Prop} (h : Good n T) (hL : SameL T L) (hc : Closed T) (hS : ∀ x, S x → x ∈ T.lits) {x : Int} (hx : Der L S x) : x ∈ T.lits := by
  induction hx with
  | base hx => exact hS _ hx
  | @step x c hcL hxc _ ih =>
    obtain ⟨m, hm, he⟩ := hL.of hcL
    have fal : ∀ y ∈ cl T m, y ≠ x → valOf T y = -1 := fun y hy hyx => by
      have := (h.lit _).1 (ih y ((he y).1 hy) hyx)
      rw [valOf_neg] at this; omega
    rcases hc m hm with ⟨z, hz, hz1⟩ | ⟨a, ha, b, hb, hab, ha1, hb1⟩
    · by_cases e : z = x
      · rw [h.lit, ← e]; exact hz1
      · have := fal z hz e; omega
    · by_cases e : a = x
      · exact absurd (fal b hb (by rw [← e]; exact fun e' => hab e'.symm)) hb1
      · exact absurd (fal a ha e) ha1
theorem Good.consistent (h : Good n T) {x : Int} (h1 : x ∈ T.lits) (h2 : -x ∈ T.lits) : False := by
  have a := (h.lit _).1 h1
  have b := (h.lit _).1 h2
  rw [valOf_neg] at b; omega
theorem Good.closedFree {L : List (List Int)} {S : Int → Prop} (h : Good n T) (hL : SameL T L) (hc : Closed T) (hS : ∀ x, S x → x ∈ T.lits) : ¬ Conflict L S := by
  rintro ⟨c, hcL, hy⟩
  obtain ⟨m, hm, he⟩ := hL.of hcL
  have fal : ∀ y ∈ cl T m, valOf T y = -1 := fun y hym => by
    have := (h.lit _).1 (h.closedHas hL hc hS (hy y ((he y).1 hym)))
    rw [valOf_neg] at this; omega
  rcases hc m hm with ⟨z, hz, hz1⟩ | ⟨a, ha, b, hb, hab, ha1, hb1⟩
  · have := fal z hz; omega
  · exact ha1 (fal a ha)

/-- What Follow does. -/
structure FollowSpec (n : Nat) (L : List (List Int)) (T : Tr) (R : (Int × Bool) × Tr) : Prop where
  good : Good n R.2
  same : SameL R.2 L
  starts : R.2.starts = T.starts
  more : ∃ more, R.2.lits = T.lits ++ more
  der : ∀ x ∈ R.2.lits, Der L (fun y => y ∈ T.lits) x
  yes : R.1.2 = true → R.1.1 = -1 ∧ Closed R.2
  no : R.1.2 = false → AllFalse R.2 R.1.1

theorem FollowSpec.iff {L : List (List Int)} {R : (Int × Bool) × Tr} (h : FollowSpec n L T R) (hy : R.1.2 = true) (x : Int) : x ∈ R.2.lits ↔ Der L (fun y => y ∈ T.lits) x :=
  ⟨h.der x, fun hx => h.good.closedHas h.same (h.yes hy).2 (fun y hy => by obtain ⟨m, e⟩ := h.more; rw [e]; exact List.mem_append_left _ hy) hx⟩
theorem FollowSpec.free {L : List (List Int)} {R : (Int × Bool) × Tr} (h : FollowSpec n L T R) : R.1.2 = true ↔ ¬ Conflict L (fun y => y ∈ T.lits) := by
  constructor
  · intro hy
    exact h.good.closedFree h.same (h.yes hy).2 (fun y hy => by obtain ⟨m, e⟩ := h.more; rw [e]; exact List.mem_append_left _ hy)
  · intro hn
    by_cases hb : R.1.2 = true
    · exact hb
    · exfalso
      obtain ⟨m, _, hm, hz⟩ := h.no (by simpa using hb)
      obtain ⟨c, hc, he⟩ := h.same.mem hm
      refine hn ⟨c, hc, fun y hy => h.der _ ?_⟩
      rw [h.good.lit, valOf_neg, hz y ((he y).2 hy)]
      rfl

theorem Good.followSpec {L : List (List Int)} (h : Good n T) (hL : SameL T L) : FollowSpec n L T (Ytngegkgmenfelaa.followT T) := by
  have R := h.followT
  obtain ⟨more, em⟩ := R.ext.lits
  have hS := hL.same R.ext.same
  refine ⟨R.good, hS, R.ext.starts, ⟨more, em⟩, ?_, R.yes, R.no⟩
  have key : ∀ i, i < (Ytngegkgmenfelaa.followT T).2.lits.length → Der L (fun y => y ∈ T.lits) ((Ytngegkgmenfelaa.followT T).2.lits.getD i 0) := by
    intro i
    induction i using Nat.strongRecOn with
    | ind i ih =>
      intro hi
      rcases R.good.rs i hi with ⟨hst, _⟩ | ⟨_, m, hm, _, hxm, hoth⟩
      · rw [R.ext.starts] at hst
        obtain ⟨a, ha, e⟩ := List.getElem_of_mem hst
        have h2 := (h.stIn a ha).2
        rw [List.getD_eq_getElem?_getD, List.getElem?_eq_getElem ha, Option.getD_some, e] at h2
        have h3 : i < T.lits.length := by omega
        have e2 : (Ytngegkgmenfelaa.followT T).2.lits.getD i 0 = T.lits.getD i 0 := by
          rw [em]; simp only [List.getD_eq_getElem?_getD]; rw [List.getElem?_append_left h3]
        rw [e2]
        exact .base (mem_getD h3)
      · obtain ⟨c, hc, he⟩ := hS.mem hm
        refine .step c hc ((he _).1 hxm) fun y hy hyx => ?_
        have h1 := hoth y ((he y).2 hy) hyx
        obtain ⟨j, hj, ej⟩ := List.getElem_of_mem h1
        rw [List.length_take] at hj
        have := ih j (by omega) (by omega)
        rw [List.getElem_take] at ej
        rw [List.getD_eq_getElem?_getD, List.getElem?_eq_getElem (by omega), Option.getD_some, ej] at this
        exact this
  intro x hx
  obtain ⟨i, hi, e⟩ := List.getElem_of_mem hx
  have := key i hi
  rw [List.getD_eq_getElem?_getD, List.getElem?_eq_getElem hi, Option.getD_some, e] at this
  exact this
end Go.Proofs.Ytngegkgmenfelaa

/-
  PLAIN: Units: what holds of the assignment as it grows; what it tells.
-/
namespace Go.Proofs.Ytngegkgmenfelaa
open Go.RowKit Go.Lib

theorem setA_len (A : List Int) (x : Int) : (setA A x).length = A.length := List.length_set
theorem sgn_two (x : Int) : sgn x = -1 ∨ sgn x = 1 := by unfold sgn; split; exact .inl rfl; exact .inr rfl
theorem setA_three {A : List Int} (h : Three A) (x : Int) : Three (setA A x) := fun a ha => by
  rcases List.mem_or_eq_of_mem_set ha with ha | ha
  · exact h a ha
  · rcases sgn_two x with e | e
    · exact .inl (ha.trans e)
    · exact .inr (.inr (ha.trans e))
theorem okLit_iff (x : Int) (n : Nat) : okLit x n = true ↔ 1 ≤ x.natAbs ∧ x.natAbs ≤ n := decide_eq_true_iff
theorem litA_neg (A : List Int) (x : Int) : litA A (-x) = - litA A x := by
  unfold litA okLit
  rw [Int.natAbs_neg]
  split
  · rename_i h
    have h := (okLit_iff x A.length).1 h
    by_cases h1 : x < 0
    · rw [if_neg (by omega), if_pos h1]; omega
    · rw [if_pos (by omega), if_neg h1]
  · rfl
theorem litA_ok {A : List Int} {x : Int} (h : litA A x ≠ 0) : okLit x A.length = true := by
  unfold litA at h
  split at h
  · assumption
  · exact absurd rfl h
theorem litA_set {A : List Int} {x : Int} (hx : okLit x A.length = true) (y : Int) : litA (setA A x) y = if y = x then 1 else if y = -x then -1 else litA A y := by
  have hx' := (okLit_iff _ _).1 hx
  unfold litA
  rw [setA_len]
  by_cases hy : okLit y A.length = true
  · have hy' := (okLit_iff _ _).1 hy
    rw [if_pos hy, if_pos hy]
    by_cases e : y.natAbs = x.natAbs
    · have g : (setA A x).getD (y.natAbs - 1) 0 = sgn x := by
        unfold setA; rw [e]; exact getD_set_eq _ _ _ (by omega)
      rw [g]
      unfold sgn
      by_cases e1 : y = x
      · subst e1; rw [if_pos rfl]; split <;> simp_all
      · have e2 : y = -x := by omega
        rw [if_neg e1, if_pos e2]
        subst e2
        by_cases h0 : x < 0
        · rw [if_neg (by omega), if_pos h0]
        · rw [if_pos (by omega), if_neg h0]
    · have g : (setA A x).getD (y.natAbs - 1) 0 = A.getD (y.natAbs - 1) 0 := by
        unfold setA; exact getD_set_ne _ _ _ (by omega)
      rw [g, if_neg (show ¬ y = x from fun h => e (by rw [h])), if_neg (show ¬ y = -x from fun h => e (by rw [h, Int.natAbs_neg]))]
  · rw [if_neg hy, if_neg hy, if_neg (show ¬ y = x from fun h => hy (by rw [h]; exact hx)), if_neg (show ¬ y = -x from fun h => hy (by rw [h]; unfold okLit at hx ⊢; rw [Int.natAbs_neg]; exact hx))]

/-- How many are not known. -/
def zeros (A : List Int) : Nat := A.count 0
theorem zerosA_set {A : List Int} {x : Int} (hx : okLit x A.length = true) (h0 : litA A x = 0) : zeros (setA A x) < zeros A := by
  have hx' := (okLit_iff _ _).1 hx
  have hz : A.getD (x.natAbs - 1) 0 = 0 := by
    unfold litA at h0; rw [if_pos hx] at h0; split at h0 <;> omega
  obtain ⟨m, hm⟩ : ∃ m, x.natAbs = m + 1 := ⟨x.natAbs - 1, by omega⟩
  unfold zeros setA
  rw [hm, Nat.add_sub_cancel] at hz ⊢
  have hml : m < A.length := by omega
  clear hx hx' h0 hm
  have hs := sgn_two x
  generalize sgn x = s at *
  induction A generalizing m with
  | nil => simp at hml
  | cons a A ih =>
    cases m with
    | zero =>
      have : a = 0 := by simpa using hz
      subst this
      rw [List.set_cons_zero, List.count_cons_self, List.count_cons_of_ne (by rcases hs with rfl | rfl <;> decide)]
      omega
    | succ m =>
      rw [List.set_cons_succ, List.count_cons, List.count_cons]
      have := ih m (by simpa using hz) (by simpa using hml)
      omega
theorem zeros_le (A : List Int) : zeros A ≤ A.length := List.count_le_length

/-- The assignment as it grows. -/
structure UnA (n : Nat) (L : List (List Int)) (G D A : List Int) : Prop where
  len : A.length = n
  three : Three A
  sound : ∀ x, litA A x = 1 → Der L (fun y => y ∈ G) x
  has : ∀ x ∈ D, okLit x n = true ∧ litA A x = 1

theorem UnA.start (n : Nat) (L : List (List Int)) (G : List Int) : UnA n L G [] (List.replicate n 0) := by
  refine ⟨by simp, fun a ha => .inr (.inl (List.eq_of_mem_replicate ha)), fun x hx => ?_, fun x hx => by cases hx⟩
  exfalso
  have h2 := (okLit_iff _ _).1 (litA_ok (A := List.replicate n 0) (x := x) (by omega))
  rw [List.length_replicate] at h2
  have : (List.replicate n (0 : Int)).getD (x.natAbs - 1) 0 = 0 := by
    rw [List.getD_eq_getElem?_getD, List.getElem?_replicate]; split <;> rfl
  unfold litA at hx
  rw [this] at hx
  split at hx
  · split at hx <;> omega
  · omega
theorem UnA.set {n : Nat} {L : List (List Int)} {G D A : List Int} (h : UnA n L G D A) {x : Int} (hok : okLit x n = true) (hl : litA A x ≠ -1) (hd : Der L (fun y => y ∈ G) x) :
    UnA n L G (D ++ [x]) (setA A x) := by
  have hok' : okLit x A.length = true := by rw [h.len]; exact hok
  refine ⟨by rw [setA_len]; exact h.len, setA_three h.three x, fun y hy => ?_, fun y hy => ?_⟩
  · rw [litA_set hok'] at hy
    split at hy
    · rename_i e; rw [e]; exact hd
    · split at hy
      · omega
      · exact h.sound y hy
  · rw [litA_set hok']
    rcases List.mem_append.1 hy with hy | hy
    · obtain ⟨h1, h2⟩ := h.has y hy
      refine ⟨h1, ?_⟩
      split
      · rfl
      · split
        · rename_i e
          rw [e, litA_neg] at h2
          exact absurd (by omega) hl
        · exact h2
    · obtain rfl := List.mem_singleton.1 hy
      exact ⟨hok, if_pos rfl⟩

/-- Units told nothing. -/
def Bad (n : Nat) (L : List (List Int)) (G : List Int) : Prop := (∃ x ∈ G, okLit x n = false) ∨ (∃ x, Der L (fun y => y ∈ G) x ∧ Der L (fun y => y ∈ G) (-x)) ∨ Conflict L (fun y => y ∈ G)
/-- Units told A. -/
structure Told (n : Nat) (L : List (List Int)) (G A : List Int) : Prop where
  len : A.length = n
  three : Three A
  given : ∀ x ∈ G, okLit x n = true
  iff : ∀ x, litA A x = 1 ↔ Der L (fun y => y ∈ G) x
  free : ¬ Conflict L (fun y => y ∈ G)

theorem Told.notBad {n : Nat} {L : List (List Int)} {G A : List Int} (h : Told n L G A) : ¬ Bad n L G := by
  rintro (⟨x, hx, h1⟩ | ⟨x, h1, h2⟩ | h1)
  · rw [h.given x hx] at h1; cases h1
  · have a := (h.iff _).2 h1
    have b := (h.iff _).2 h2
    rw [litA_neg] at b; omega
  · exact h.free h1

theorem UnA.setBad {n : Nat} {L : List (List Int)} {G D A : List Int} (h : UnA n L G D A) {x : Int} (hx : x ∈ G) (hn : okLit x A.length = false ∨ litA A x = -1) : Bad n L G := by
  rcases hn with hn | hn
  · exact .inl ⟨x, hx, by rw [← h.len]; exact hn⟩
  · exact .inr (.inl ⟨x, .base hx, h.sound _ (by rw [litA_neg, hn]; rfl)⟩)

theorem valC_le {A : List Int} (c : List Int) : (valC A c < 0 ↔ ∀ y ∈ c, litA A y < 0) ∧ (valC A c ≥ -1) := by
  unfold valC
  have key : ∀ (c : List Int) (n : Int), -1 ≤ n → ((c.foldl (fun n x => max n (litA A x)) n < 0 ↔ n < 0 ∧ ∀ y ∈ c, litA A y < 0) ∧ -1 ≤ c.foldl (fun n x => max n (litA A x)) n) := by
    intro c
    induction c with
    | nil => intro n hn; simp; omega
    | cons y c ih =>
      intro n hn
      rw [List.foldl_cons]
      obtain ⟨h1, h2⟩ := ih (max n (litA A y)) (by omega)
      refine ⟨h1.trans ?_, h2⟩
      simp only [List.mem_cons, forall_eq_or_imp]
      constructor
      · rintro ⟨a, b⟩; exact ⟨by omega, by omega, b⟩
      · rintro ⟨a, b, d⟩; exact ⟨by omega, d⟩
  obtain ⟨h1, h2⟩ := key c (-1) (by omega)
  exact ⟨h1.trans ⟨fun h => h.2, fun h => ⟨by omega, h⟩⟩, h2⟩

theorem UnA.false {n : Nat} {L : List (List Int)} {G D A : List Int} (h : UnA n L G D A) {c : List Int} (hc : c ∈ L) (hv : valC A c < 0) : Bad n L G := by
  refine .inr (.inr ⟨c, hc, fun y hy => h.sound _ ?_⟩)
  have := (valC_le c).1.1 hv y hy
  have h3 := litA_three h.three y
  rw [litA_neg]; omega

/-- unit: it tells the one that is left. -/
theorem unitGo_spec {A : List Int} (h3 : Three A) : ∀ (c : List Int) (x : Int), (∀ y ∈ c, y ≠ 0) → 
    (unitGo A c x ≠ 0 → (unitGo A c x = x ∨ (unitGo A c x ∈ c ∧ litA A (unitGo A c x) = 0)) ∧ (x ≠ 0 → unitGo A c x = x) ∧ ∀ y ∈ c, y ≠ unitGo A c x → litA A y = -1) ∧
    (unitGo A c x = 0 → (∃ y ∈ c, litA A y = 1) ∨ (x ≠ 0 ∧ ∃ y ∈ c, y ≠ x ∧ litA A y = 0) ∨ (∃ y ∈ c, ∃ z ∈ c, y ≠ z ∧ litA A y = 0 ∧ litA A z = 0) ∨ (x = 0 ∧ ∀ y ∈ c, litA A y = -1)) := by
  intro c
  induction c with
  | nil =>
    intro x _
    unfold unitGo
    exact ⟨fun h => ⟨.inl rfl, fun _ => rfl, fun y hy => by cases hy⟩, fun h => .inr (.inr (.inr ⟨h, fun y hy => by cases hy⟩))⟩
  | cons y c ih =>
    intro x hne
    have hy0 : y ≠ 0 := hne y (List.mem_cons_self)
    have hc := fun z hz => hne z (List.mem_cons_of_mem _ hz)
    unfold unitGo
    by_cases h1 : litA A y = 1 ∨ (litA A y = 0 ∧ x ≠ 0 ∧ x ≠ y)
    · rw [if_pos h1]
      refine ⟨fun h => absurd rfl h, fun _ => ?_⟩
      rcases h1 with h1 | ⟨h1, h2, h4⟩
      · exact .inl ⟨y, List.mem_cons_self, h1⟩
      · exact .inr (.inl ⟨h2, y, List.mem_cons_self, fun e => h4 e.symm, h1⟩)
    · rw [if_neg h1]
      by_cases h2 : litA A y = 0
      · rw [if_pos h2]
        have hxy : x = 0 ∨ x = y := by
          by_cases e : x = 0
          · exact .inl e
          · by_cases e2 : x = y
            · exact .inr e2
            · exact absurd (.inr ⟨h2, e, e2⟩) h1
        obtain ⟨i1, i2⟩ := ih y hc
        refine ⟨fun h => ?_, fun h => ?_⟩
        · obtain ⟨_, j2, j3⟩ := i1 h
          have e := j2 hy0
          refine ⟨.inr ⟨by rw [e]; exact List.mem_cons_self, by rw [e]; exact h2⟩, fun hx => ?_, fun z hz hzn => ?_⟩
          · rw [e]; rcases hxy with e2 | e2
            · exact absurd e2 hx
            · exact e2.symm
          · rcases List.mem_cons.1 hz with hz | hz
            · exact absurd (by rw [e]; exact hz) hzn
            · exact j3 z hz hzn
        · rcases i2 h with ⟨z, hz, k⟩ | ⟨_, z, hz, k1, k2⟩ | ⟨z, hz, u, hu, k⟩ | ⟨e, _⟩
          · exact .inl ⟨z, List.mem_cons_of_mem _ hz, k⟩
          · exact .inr (.inr (.inl ⟨y, List.mem_cons_self, z, List.mem_cons_of_mem _ hz, fun e => k1 e.symm, h2, k2⟩))
          · exact .inr (.inr (.inl ⟨z, List.mem_cons_of_mem _ hz, u, List.mem_cons_of_mem _ hu, k⟩))
          · exact absurd e hy0
      · rw [if_neg h2]
        have hyf : litA A y = -1 := by have := litA_three h3 y; omega
        obtain ⟨i1, i2⟩ := ih x hc
        refine ⟨fun h => ?_, fun h => ?_⟩
        · obtain ⟨j1, j2, j3⟩ := i1 h
          refine ⟨j1.imp id (fun k => ⟨List.mem_cons_of_mem _ k.1, k.2⟩), j2, fun z hz hzn => ?_⟩
          rcases List.mem_cons.1 hz with hz | hz
          · rw [hz]; exact hyf
          · exact j3 z hz hzn
        · rcases i2 h with ⟨z, hz, k⟩ | ⟨k0, z, hz, k1, k2⟩ | ⟨z, hz, u, hu, k⟩ | ⟨e, k⟩
          · exact .inl ⟨z, List.mem_cons_of_mem _ hz, k⟩
          · exact .inr (.inl ⟨k0, z, List.mem_cons_of_mem _ hz, k1, k2⟩)
          · exact .inr (.inr (.inl ⟨z, List.mem_cons_of_mem _ hz, u, List.mem_cons_of_mem _ hu, k⟩))
          · refine .inr (.inr (.inr ⟨e, fun z hz => ?_⟩))
            rcases List.mem_cons.1 hz with hz | hz
            · rw [hz]; exact hyf
            · exact k z hz

/-- A step of Units. -/
theorem UnA.unit {n : Nat} {L : List (List Int)} {G D A : List Int} (h : UnA n L G D A) {c : List Int} (hc : c ∈ L) (hok : ∀ y ∈ c, okLit y n = true) (hu : unitGo A c 0 ≠ 0) :
    okLit (unitGo A c 0) A.length = true ∧ litA A (unitGo A c 0) = 0 ∧ UnA n L G D (setA A (unitGo A c 0)) ∧ zeros (setA A (unitGo A c 0)) < zeros A := by
  have hne : ∀ y ∈ c, y ≠ 0 := fun y hy => by have := (okLit_iff _ _).1 (hok y hy); omega
  obtain ⟨h1, _, h2⟩ := (unitGo_spec h.three c 0 hne).1 hu
  obtain ⟨h3, h4⟩ := h1.resolve_left hu
  generalize unitGo A c 0 = x at *
  have ho := hok x h3
  have hd : Der L (fun y => y ∈ G) x := .step c hc h3 fun y hy hyx => h.sound _ (by rw [litA_neg, h2 y hy hyx]; rfl)
  have hs := h.set ho (by omega) hd
  have ho' : okLit x A.length = true := by rw [h.len]; exact ho
  exact ⟨ho', h4, ⟨hs.len, hs.three, hs.sound, fun y hy => hs.has y (List.mem_append_left _ hy)⟩, zerosA_set ho' h4⟩

/-- A clause is fine. -/
def FineC (A c : List Int) : Prop := unitGo A c 0 = 0 ∧ ¬ valC A c < 0

theorem FineC.spec {A c : List Int} (h3 : Three A) (h : FineC A c) (hok : ∀ y ∈ c, y ≠ 0) : (∃ z ∈ c, litA A z = 1) ∨ ∃ a ∈ c, ∃ b ∈ c, a ≠ b ∧ litA A a = 0 ∧ litA A b = 0 := by
  rcases (unitGo_spec h3 c 0 hok).2 h.1 with h1 | ⟨h1, _⟩ | ⟨y, hy, z, hz, k⟩ | ⟨_, h1⟩
  · exact .inl h1
  · exact absurd rfl h1
  · exact .inr ⟨y, hy, z, hz, k.1, k.2⟩
  · exact absurd ((valC_le c).1.2 fun y hy => by rw [h1 y hy]; omega) h.2

theorem UnA.told {n : Nat} {L : List (List Int)} {G A : List Int} (h : UnA n L G G A) (hok : ∀ c ∈ L, ∀ y ∈ c, okLit y n = true) (hf : ∀ c ∈ L, FineC A c) : Told n L G A := by
  have fine : ∀ c ∈ L, (∃ z ∈ c, litA A z = 1) ∨ ∃ a ∈ c, ∃ b ∈ c, a ≠ b ∧ litA A a = 0 ∧ litA A b = 0 := fun c hc =>
    (hf c hc).spec h.three fun y hy => by have := (okLit_iff _ _).1 (hok c hc y hy); omega
  have all : ∀ x, Der L (fun y => y ∈ G) x → litA A x = 1 := by
    intro x hx
    induction hx with
    | base hx => exact (h.has _ hx).2
    | @step x c hc hxc _ ih =>
      have fal : ∀ y ∈ c, y ≠ x → litA A y = -1 := fun y hy hyx => by
        have := ih y hy hyx
        rw [litA_neg] at this; omega
      rcases fine c hc with ⟨z, hz, hz1⟩ | ⟨a, ha, b, hb, hab, ha1, hb1⟩
      · by_cases e : z = x
        · rw [← e]; exact hz1
        · have := fal z hz e; omega
      · by_cases e : a = x
        · have := fal b hb (by rw [← e]; exact fun e' => hab e'.symm); omega
        · have := fal a ha e; omega
  refine ⟨h.len, h.three, fun x hx => (h.has x hx).1, fun x => ⟨h.sound x, all x⟩, ?_⟩
  rintro ⟨c, hc, hy⟩
  have fal : ∀ y ∈ c, litA A y = -1 := fun y hyc => by
    have := all _ (hy y hyc)
    rw [litA_neg] at this; omega
  rcases fine c hc with ⟨z, hz, hz1⟩ | ⟨a, ha, b, hb, hab, ha1, hb1⟩
  · have := fal z hz; omega
  · have := fal a ha; omega
end Go.Proofs.Ytngegkgmenfelaa
