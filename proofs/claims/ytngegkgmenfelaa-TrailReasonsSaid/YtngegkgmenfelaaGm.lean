/-
  PLAIN: the trail beside the document's.
-/
import Derived.Test.YtngegkgmenfelaaGk
import Derived.Test.YtngegkgmenfelaaRh
namespace Go.Proofs.Ytngegkgmenfelaa
open Go.RowKit Go.Lib

variable {n : Nat} {T : Tr} {R : Ref}

/-- The levels are alike. -/
structure RelD (n : Nat) (T : Tr) (R : Ref) : Prop where
  en : R.n = n
  L : SameL T R.L
  right : rightB (n : Int) R.L = true
  Dl : R.D.length = T.starts.length
  D : ∀ i, i < T.starts.length → R.D.getD i 0 = T.lits.getD (startOf T i) 0
  Kl : R.K.length = T.starts.length
  K : ∀ i, i < T.starts.length → (R.K.getD i []).length = n ∧ Three (R.K.getD i []) ∧ ∀ x, litA (R.K.getD i []) x = 1 ↔ x ∈ T.lits.take (startOf T i)
  Al : R.A.length = n
  A3 : Three R.A
/-- All is alike. -/
structure RelA (n : Nat) (T : Tr) (R : Ref) : Prop extends RelD n T R where
  A : ∀ x, litA R.A x = 1 ↔ x ∈ T.lits

theorem Good.startIn (h : Good n T) {i : Nat} (hi : i < T.starts.length) : startOf T i < T.lits.length ∧ T.starts.getD i 0 = ((startOf T i : Nat) : Int) := by
  have := h.stIn i hi
  unfold startOf
  omega
theorem Good.startUp (h : Good n T) {i j : Nat} (hij : i < j) (hj : j < T.starts.length) : startOf T i < startOf T j := by
  have h1 := h.stUp i j hij hj
  have h2 := h.startIn (i := i) (by omega)
  have h3 := h.startIn hj
  omega

theorem RelD.goodR (h : RelD n T R) (hg : Good n T) : GoodR R :=
  ⟨by rw [h.en]; exact h.right, by rw [h.Al, h.en], h.A3, by rw [h.en]; exact hg.ok.n2, by rw [h.Kl, h.Dl]⟩
theorem RelA.val (h : RelA n T R) (hg : Good n T) (x : Int) : litA R.A x = valOf T x := by
  have a := h.A x
  have b := h.A (-x)
  rw [litA_neg] at b
  have a' := hg.lit x
  have b' := hg.lit (-x)
  rw [valOf_neg] at b'
  rw [a'] at a
  rw [b'] at b
  have a3 := litA_three h.A3 x
  have b3 := valOf_three hg.ok.small x
  rcases a3 with e | e | e <;> rcases b3 with e' | e' | e' <;> rw [e, e'] at a b ⊢ <;> simp at a b
theorem RelA.given (h : RelA n T R) (x : Int) : x ∈ givenTo R.A R.A.length ↔ x ∈ T.lits := (givenTo_mem h.A3 x).trans (h.A x)

/-- Where the trail has grown, or its last part is other. -/
theorem RelD.grow {T' : Tr} {R' : Ref} (h : RelD n T R) (hg : Good n T) (hL : SameL T' R.L) (hs : T'.starts = T.starts) (hm : ∃ more, T'.lits = T.lits ++ more) (e1 : R'.n = R.n) (e2 : R'.L = R.L) (e3 : R'.D = R.D) (e4 : R'.K = R.K) (e5 : R'.A.length = n) (e6 : Three R'.A) : RelD n T' R' := by
  obtain ⟨more, em⟩ := hm
  have hst : ∀ i, startOf T' i = startOf T i := fun i => by unfold startOf; rw [hs]
  refine ⟨e1.trans h.en, by rw [e2]; exact hL, by rw [e2]; exact h.right, by rw [e3, hs]; exact h.Dl, fun i hi => ?_, by rw [e4, hs]; exact h.Kl, fun i hi => ?_, e5, e6⟩
  · rw [hs] at hi
    rw [e3, h.D i hi, hst, em]
    simp only [List.getD_eq_getElem?_getD]
    rw [List.getElem?_append_left (hg.startIn hi).1]
  · rw [hs] at hi
    rw [e4, hst, em, List.take_append_of_le_length (Nat.le_of_lt (hg.startIn hi).1)]
    exact h.K i hi

/-- Follow: both tell the same. -/
theorem RelA.follow (h : RelA n T R) (hg : Good n T) : ((followT T).1.2 = true ↔ ¬ Bad n R.L (givenTo R.A R.A.length)) ∧
    ((followT T).1.2 = true → ∀ A', Told n R.L (givenTo R.A R.A.length) A' → RelA n (followT T).2 (knownM R A')) ∧ RelD n (followT T).2 R := by
  have S := hg.followSpec h.L
  have hc : ∀ x, (fun y => y ∈ givenTo R.A R.A.length) x ↔ (fun y => y ∈ T.lits) x := h.given
  have sub : ∀ x ∈ T.lits, Der R.L (fun y => y ∈ givenTo R.A R.A.length) x := fun x hx => .base ((h.given x).2 hx)
  obtain ⟨more, em⟩ := S.more
  refine ⟨⟨fun hy => ?_, fun hn => ?_⟩, fun hy A' ht => ?_, h.toRelD.grow hg S.same S.starts S.more rfl rfl rfl rfl h.Al h.A3⟩
  · exact units_end S.good S.same (S.yes hy).2 (units_sub sub S) (fun x hx => by rw [em]; exact List.mem_append_left _ ((h.given x).1 hx))
  · refine S.free.2 fun hcf => hn (.inr (.inr ((Conflict.congr hc).2 hcf)))
  · refine ⟨h.toRelD.grow hg S.same S.starts S.more rfl rfl rfl rfl ht.len ht.three, fun x => ?_⟩
    rw [S.iff hy x]
    exact (ht.iff x).trans (Der.congr hc x)

/-- Decide: both tell the same. -/
theorem RelA.decE (h : RelA n T R) (hg : Good n T) (x : Int) : Ytngegkgmenfelaa.decE T x = if okLit x n then (if litA R.A x = 0 then 0 else 7) else 1 := by
  unfold Ytngegkgmenfelaa.decE
  have e : isVar T x = okLit x n := by unfold isVar okLit; rw [hg.ok.fl]
  rw [e, h.val hg x]
  by_cases h1 : okLit x n = true
  · rw [if_pos h1, if_pos h1]
    by_cases h0 : (factOf T x).1 = 0
    · rw [if_pos h0, if_pos (fact_val h0)]
    · rw [if_neg h0, if_neg (fun h1 => h0 (val_fact h1))]
  · rw [if_neg h1, if_neg h1]
theorem RelA.decide (h : RelA n T R) (hg : Good n T) {x : Int} (h0 : Ytngegkgmenfelaa.decE T x = 0) : RelA n (decS T x) (decideM R x) := by
  obtain ⟨l1, l2⟩ := decS_lits h0
  obtain ⟨v1, v2⟩ := decE_zero.1 h0
  have hok : okLit x n = true := by unfold isVar at v1; rw [hg.ok.fl] at v1; exact v1
  have hv : litA R.A x = 0 := by rw [h.val hg]; exact fact_val v2
  have hokA : okLit x R.A.length = true := by rw [h.Al]; exact hok
  have st1 : ∀ i, i < T.starts.length → startOf (decS T x) i = startOf T i := fun i hi => by
    unfold startOf; rw [l2]; simp only [List.getD_eq_getElem?_getD]; rw [List.getElem?_append_left hi]
  have st2 : startOf (decS T x) T.starts.length = T.lits.length := by
    unfold startOf; rw [l2]; simp [List.getD_eq_getElem?_getD]
  have hlen : (decS T x).starts.length = T.starts.length + 1 := by rw [l2]; simp
  have gA : ∀ {α : Type} (xs : List α) (d y : α), (xs ++ [y]).getD xs.length d = y := fun xs d y => by simp [List.getD_eq_getElem?_getD]
  have gB : ∀ {α : Type} (xs : List α) (d y : α) (i : Nat), i < xs.length → (xs ++ [y]).getD i d = xs.getD i d := fun xs d y i hi => by
    simp only [List.getD_eq_getElem?_getD]; rw [List.getElem?_append_left hi]
  refine ⟨⟨h.en, h.L.decS x, h.right, ?_, fun i hi => ?_, ?_, fun i hi => ?_, ?_, setA_three h.A3 x⟩, fun y => ?_⟩
  · show (R.D ++ [x]).length = _; rw [List.length_append, h.Dl, hlen]; rfl
  · show (R.D ++ [x]).getD i 0 = _
    rw [hlen] at hi
    by_cases e : i < T.starts.length
    · rw [gB _ _ _ _ (by rw [h.Dl]; exact e), st1 i e, l1, gB _ _ _ _ (hg.startIn e).1]
      exact h.D i e
    · have ei : i = T.starts.length := by omega
      rw [ei, st2, l1, gA, ← h.Dl, gA]
  · show (R.K ++ [R.A]).length = _; rw [List.length_append, h.Kl, hlen]; rfl
  · show ((R.K ++ [R.A]).getD i []).length = n ∧ Three ((R.K ++ [R.A]).getD i []) ∧ ∀ x_1, litA ((R.K ++ [R.A]).getD i []) x_1 = 1 ↔ x_1 ∈ (decS T x).lits.take (startOf (decS T x) i)
    rw [hlen] at hi
    by_cases e : i < T.starts.length
    · rw [gB _ _ _ _ (by rw [h.Kl]; exact e), st1 i e, l1, List.take_append_of_le_length (Nat.le_of_lt (hg.startIn e).1)]
      exact h.K i e
    · have ei : i = T.starts.length := by omega
      rw [ei, st2, l1, ← h.Kl, gA, List.take_left]
      exact ⟨h.Al, h.A3, h.A⟩
  · show (setA R.A x).length = n; rw [setA_len]; exact h.Al
  · show litA (setA R.A x) y = 1 ↔ _
    rw [litA_set hokA, l1, List.mem_append]
    by_cases e1 : y = x
    · rw [if_pos e1]; exact ⟨fun _ => .inr (by simp [e1]), fun _ => rfl⟩
    · rw [if_neg e1]
      by_cases e2 : y = -x
      · rw [if_pos e2]
        refine ⟨fun h => by omega, fun hy => ?_⟩
        rcases hy with hy | hy
        · have := (h.A y).2 hy
          rw [e2, litA_neg] at this; omega
        · exact absurd (List.mem_singleton.1 hy) e1
      · rw [if_neg e2, h.A y]
        exact ⟨fun h => .inl h, fun hy => hy.elim id fun hy => absurd (List.mem_singleton.1 hy) e1⟩

/-- Back, below the level. -/
theorem RelD.back (h : RelD n T R) (hg : Good n T) {lv : Nat} (hlv : lv < T.starts.length) : RelA n (backT T lv) (backM R lv) := by
  have hst : ∀ i, i < lv → startOf (backT T lv) i = startOf T i := fun i hi => by
    unfold startOf
    show ((T.starts.take lv).getD i 0).toNat = _
    simp only [List.getD_eq_getElem?_getD]
    rw [List.getElem?_take, if_pos hi]
  have hlen : (backT T lv).starts.length = lv := by show (T.starts.take lv).length = lv; rw [List.length_take]; omega
  have tk : ∀ {α : Type} (xs : List α) (d : α) (i : Nat), i < lv → (xs.take lv).getD i d = xs.getD i d := fun xs d i hi => by
    simp only [List.getD_eq_getElem?_getD]; rw [List.getElem?_take, if_pos hi]
  have hK := h.K lv hlv
  refine ⟨⟨h.en, h.L, h.right, ?_, fun i hi => ?_, ?_, fun i hi => ?_, hK.1, hK.2.1⟩, hK.2.2⟩
  · show (R.D.take lv).length = _; rw [List.length_take, h.Dl, hlen]; omega
  · rw [hlen] at hi
    show (R.D.take lv).getD i 0 = (T.lits.take (startOf T lv)).getD (startOf (backT T lv) i) 0
    rw [tk _ _ _ hi, h.D i (by omega), hst i hi]
    simp only [List.getD_eq_getElem?_getD]
    rw [List.getElem?_take, if_pos (hg.startUp hi hlv)]
  · show (R.K.take lv).length = _; rw [List.length_take, h.Kl, hlen]; omega
  · rw [hlen] at hi
    show ((R.K.take lv).getD i []).length = n ∧ Three ((R.K.take lv).getD i []) ∧ ∀ x, litA ((R.K.take lv).getD i []) x = 1 ↔ x ∈ (T.lits.take (startOf T lv)).take (startOf (backT T lv) i)
    rw [tk _ _ _ hi, hst i hi, List.take_take, Nat.min_eq_left (Nat.le_of_lt (hg.startUp hi hlv))]
    exact h.K i (by omega)

/-- Add. -/
theorem rightB_snoc {n : Int} {L : List (List Int)} {c : List Int} (h : rightB n L = true) (hc : rightB n [c] = true) (hl : L.length + 1 ≤ 400000) : rightB n (L ++ [c]) = true := by
  unfold rightB at *
  simp only [Bool.and_eq_true, decide_eq_true_eq, Bool.not_eq_true', List.any_append, Bool.or_eq_false_iff] at *
  exact ⟨⟨h.1.1, by simp; omega⟩, h.2, hc.2⟩
theorem RelA.add (h : RelA n T R) (hg : Good n T) {c : List Int} (hc : rightB (n : Int) [c] = true) (hl : R.L.length + 1 ≤ 300000) : Good n (putT T c) ∧ RelA n (putT T c) (addM R c) := by
  obtain ⟨_, hb⟩ := rightB_one hc
  have P := hg.put c (badC_false hb) (by rw [h.L.1]; exact hl)
  have hst : ∀ i, startOf (putT T c) i = startOf T i := fun i => by unfold startOf; rw [P.starts]
  refine ⟨P.good, ⟨h.en, ⟨?_, fun m hm x => ?_⟩, rightB_snoc h.right hc (by omega), by rw [P.starts]; exact h.Dl, fun i hi => ?_, by rw [P.starts]; exact h.Kl, fun i hi => ?_, h.Al, h.A3⟩, fun x => by rw [P.lits]; exact h.A x⟩
  · show _ = (R.L ++ [c]).length; rw [P.ll, h.L.1, List.length_append]; rfl
  · show x ∈ cl (putT T c) m ↔ x ∈ (R.L ++ [c]).getD m []
    have hm' : m < (R.L ++ [c]).length := hm
    rw [List.length_append] at hm'
    by_cases e : m < R.L.length
    · rw [P.old m (by rw [h.L.1]; exact e)]
      simp only [List.getD_eq_getElem?_getD]
      rw [List.getElem?_append_left e]
      have := h.L.2 m e x
      rw [List.getD_eq_getElem?_getD] at this
      exact this
    · have em : m = T.L.length := by rw [h.L.1]; simp at hm'; omega
      rw [em]
      have e2 : (R.L ++ [c]).getD T.L.length [] = c := by rw [h.L.1]; simp [List.getD_eq_getElem?_getD]
      rw [e2]
      exact P.new x
  · rw [P.starts] at hi; rw [hst, P.lits]; exact h.D i hi
  · rw [P.starts] at hi; rw [hst, P.lits]; exact h.K i hi

/-- New. -/
theorem new_relA {L : List (List Int)} (hr : rightB (n : Int) L = true) (hL : L.length ≤ 300000) : RelA n (putAll (emptyT n) L) (newR n L) := by
  obtain ⟨g, l, e1, e2⟩ := new_facts hr hL
  refine ⟨⟨rfl, l, hr, by rw [e2]; rfl, fun i hi => ?_, by rw [e2]; rfl, fun i hi => ?_, by simp [newR], fun a ha => .inr (.inl (List.eq_of_mem_replicate ha))⟩, fun x => ?_⟩
  · rw [e2] at hi; exact absurd hi (Nat.not_lt_zero _)
  · rw [e2] at hi; exact absurd hi (Nat.not_lt_zero _)
  · rw [e1]
    refine ⟨fun hx => ?_, fun hx => by cases hx⟩
    exfalso
    have := (UnA.start n L []).sound x hx
    have key : ∀ y, litA (List.replicate n 0) y ≠ 1 := fun y hy => by
      have h2 : (List.replicate n (0 : Int)).getD (y.natAbs - 1) 0 = 0 := by
        rw [List.getD_eq_getElem?_getD, List.getElem?_replicate]; split <;> rfl
      unfold litA at hy
      rw [h2] at hy
      split at hy
      · split at hy <;> omega
      · omega
    exact key x hx
end Go.Proofs.Ytngegkgmenfelaa
