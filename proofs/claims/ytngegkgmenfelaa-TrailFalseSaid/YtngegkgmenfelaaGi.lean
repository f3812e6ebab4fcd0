/-
  PLAIN: what follows of some literals by some clauses; Follow tells just that.
-/
import Derived.Test.YtngegkgmenfelaaGh
namespace Go.Proofs.Ytngegkgmenfelaa
open Go.RowKit Go.Lib

/-- What follows of S. -/
inductive Der (L : List (List Int)) (S : Int → Prop) : Int → Prop
  | base {x : Int} : S x → Der L S x
  | step {x : Int} (c : List Int) : c ∈ L → x ∈ c → (∀ y ∈ c, y ≠ x → Der L S (-y)) → Der L S x

/-- A clause is false by what follows. -/
def Conflict (L : List (List Int)) (S : Int → Prop) : Prop := ∃ c ∈ L, ∀ y ∈ c, Der L S (-y)

/-- T's clauses are those of L, up to the literals' order. -/
def SameL (T : Tr) (L : List (List Int)) : Prop := T.L.length = L.length ∧ ∀ m, m < L.length → ∀ x, x ∈ cl T m ↔ x ∈ L.getD m []

theorem Der.mono {L : List (List Int)} {S S' : Int → Prop} (hS : ∀ x, S x → Der L S' x) {x : Int} (h : Der L S x) : Der L S' x := by
  induction h with
  | base h => exact hS _ h
  | step c hc hx _ ih => exact .step c hc hx ih
theorem Conflict.mono {L : List (List Int)} {S S' : Int → Prop} (hS : ∀ x, S x → Der L S' x) (h : Conflict L S) : Conflict L S' := by
  obtain ⟨c, hc, h⟩ := h
  exact ⟨c, hc, fun y hy => (h y hy).mono hS⟩
theorem Der.congr {L : List (List Int)} {S S' : Int → Prop} (hS : ∀ x, S x ↔ S' x) (x : Int) : Der L S x ↔ Der L S' x :=
  ⟨fun h => h.mono fun y hy => .base ((hS y).1 hy), fun h => h.mono fun y hy => .base ((hS y).2 hy)⟩
theorem Conflict.congr {L : List (List Int)} {S S' : Int → Prop} (hS : ∀ x, S x ↔ S' x) : Conflict L S ↔ Conflict L S' :=
  ⟨fun h => h.mono fun y hy => .base ((hS y).1 hy), fun h => h.mono fun y hy => .base ((hS y).2 hy)⟩

theorem SameL.mem {T : Tr} {L : List (List Int)} (h : SameL T L) {m : Nat} (hm : m < T.L.length) : ∃ c ∈ L, ∀ x, x ∈ cl T m ↔ x ∈ c :=
  ⟨L.getD m [], mem_getD (by rw [← h.1]; exact hm), h.2 m (by rw [← h.1]; exact hm)⟩
theorem SameL.of {T : Tr} {L : List (List Int)} (h : SameL T L) {c : List Int} (hc : c ∈ L) : ∃ m, m < T.L.length ∧ ∀ x, x ∈ cl T m ↔ x ∈ c := by
  obtain ⟨m, hm, rfl⟩ := List.getElem_of_mem hc
  refine ⟨m, by rw [h.1]; exact hm, fun x => ?_⟩
  rw [h.2 m hm x, List.getD_eq_getElem?_getD, List.getElem?_eq_getElem hm, Option.getD_some]
theorem SameL.same {T T' : Tr} {L : List (List Int)} (h : SameL T L) (hs : SameCl T T') : SameL T' L :=
  ⟨hs.1.trans h.1, fun m hm x => (hs.2 m x).trans (h.2 m hm x)⟩

variable {n : Nat} {T : Tr}

/-- What holds in a closed trail. -/
theorem Good.closedHas {L : List (List Int)} {S : Int → Prop} (h : Good n T) (hL : SameL T L) (hc : Closed T) (hS : ∀ x, S x → x ∈ T.lits) {x : Int} (hx : Der L S x) : x ∈ T.lits := by
  induction hx with
  | base hx => exact hS _ hx
  | @step x c hcL hxc _ ih =>
    obtain ⟨m, hm, he⟩ := hL.of hcL
    have fal : ∀ y ∈ cl T m, y ≠ x → valOf T y = -1 := fun y hy hyx => by
      have := (h.lit _).1 (ih y ((he y).1 hy) hyx)
      rw [valOf_neg] at this; omega
    rcases hc m hm with ⟨z, hz, hz1⟩ | ⟨a, ha, b, hb, hab, ha1, hb1⟩
    · by_cases e : z = x
      · rw [h.lit, ← e]; exact hz1
      · have := fal z hz e; omega
    · by_cases e : a = x
      · exact absurd (fal b hb (by rw [← e]; exact fun e' => hab e'.symm)) hb1
      · exact absurd (fal a ha e) ha1
theorem Good.consistent (h : Good n T) {x : Int} (h1 : x ∈ T.lits) (h2 : -x ∈ T.lits) : False := by
  have a := (h.lit _).1 h1
  have b := (h.lit _).1 h2
  rw [valOf_neg] at b; omega
theorem Good.closedFree {L : List (List Int)} {S : Int → Prop} (h : Good n T) (hL : SameL T L) (hc : Closed T) (hS : ∀ x, S x → x ∈ T.lits) : ¬ Conflict L S := by
  rintro ⟨c, hcL, hy⟩
  obtain ⟨m, hm, he⟩ := hL.of hcL
  have fal : ∀ y ∈ cl T m, valOf T y = -1 := fun y hym => by
    have := (h.lit _).1 (h.closedHas hL hc hS (hy y ((he y).1 hym)))
    rw [valOf_neg] at this; omega
  rcases hc m hm with ⟨z, hz, hz1⟩ | ⟨a, ha, b, hb, hab, ha1, hb1⟩
  · have := fal z hz; omega
  · exact ha1 (fal a ha)

/-- What Follow does. -/
structure FollowSpec (n : Nat) (L : List (List Int)) (T : Tr) (R : (Int × Bool) × Tr) : Prop where
  good : Good n R.2
  same : SameL R.2 L
  starts : R.2.starts = T.starts
  more : ∃ more, R.2.lits = T.lits ++ more
  der : ∀ x ∈ R.2.lits, Der L (fun y => y ∈ T.lits) x
  yes : R.1.2 = true → R.1.1 = -1 ∧ Closed R.2
  no : R.1.2 = false → AllFalse R.2 R.1.1

theorem FollowSpec.iff {L : List (List Int)} {R : (Int × Bool) × Tr} (h : FollowSpec n L T R) (hy : R.1.2 = true) (x : Int) : x ∈ R.2.lits ↔ Der L (fun y => y ∈ T.lits) x :=
  ⟨h.der x, fun hx => h.good.closedHas h.same (h.yes hy).2 (fun y hy => by obtain ⟨m, e⟩ := h.more; rw [e]; exact List.mem_append_left _ hy) hx⟩
theorem FollowSpec.free {L : List (List Int)} {R : (Int × Bool) × Tr} (h : FollowSpec n L T R) : R.1.2 = true ↔ ¬ Conflict L (fun y => y ∈ T.lits) := by
  constructor
  · intro hy
    exact h.good.closedFree h.same (h.yes hy).2 (fun y hy => by obtain ⟨m, e⟩ := h.more; rw [e]; exact List.mem_append_left _ hy)
  · intro hn
    by_cases hb : R.1.2 = true
    · exact hb
    · exfalso
      obtain ⟨m, _, hm, hz⟩ := h.no (by simpa using hb)
      obtain ⟨c, hc, he⟩ := h.same.mem hm
      refine hn ⟨c, hc, fun y hy => h.der _ ?_⟩
      rw [h.good.lit, valOf_neg, hz y ((he y).2 hy)]
      rfl

theorem Good.followSpec {L : List (List Int)} (h : Good n T) (hL : SameL T L) : FollowSpec n L T (Ytngegkgmenfelaa.followT T) := by
  have R := h.followT
  obtain ⟨more, em⟩ := R.ext.lits
  have hS := hL.same R.ext.same
  refine ⟨R.good, hS, R.ext.starts, ⟨more, em⟩, ?_, R.yes, R.no⟩
  have key : ∀ i, i < (Ytngegkgmenfelaa.followT T).2.lits.length → Der L (fun y => y ∈ T.lits) ((Ytngegkgmenfelaa.followT T).2.lits.getD i 0) := by
    intro i
    induction i using Nat.strongRecOn with
    | ind i ih =>
      intro hi
      rcases R.good.rs i hi with ⟨hst, _⟩ | ⟨_, m, hm, _, hxm, hoth⟩
      · rw [R.ext.starts] at hst
        obtain ⟨a, ha, e⟩ := List.getElem_of_mem hst
        have h2 := (h.stIn a ha).2
        rw [List.getD_eq_getElem?_getD, List.getElem?_eq_getElem ha, Option.getD_some, e] at h2
        have h3 : i < T.lits.length := by omega
        have e2 : (Ytngegkgmenfelaa.followT T).2.lits.getD i 0 = T.lits.getD i 0 := by
          rw [em]; simp only [List.getD_eq_getElem?_getD]; rw [List.getElem?_append_left h3]
        rw [e2]
        exact .base (mem_getD h3)
      · obtain ⟨c, hc, he⟩ := hS.mem hm
        refine .step c hc ((he _).1 hxm) fun y hy hyx => ?_
        have h1 := hoth y ((he y).2 hy) hyx
        obtain ⟨j, hj, ej⟩ := List.getElem_of_mem h1
        rw [List.length_take] at hj
        have := ih j (by omega) (by omega)
        rw [List.getElem_take] at ej
        rw [List.getD_eq_getElem?_getD, List.getElem?_eq_getElem (by omega), Option.getD_some, ej] at this
        exact this
  intro x hx
  obtain ⟨i, hi, e⟩ := List.getElem_of_mem hx
  have := key i hi
  rw [List.getD_eq_getElem?_getD, List.getElem?_eq_getElem hi, Option.getD_some, e] at this
  exact this
end Go.Proofs.Ytngegkgmenfelaa
