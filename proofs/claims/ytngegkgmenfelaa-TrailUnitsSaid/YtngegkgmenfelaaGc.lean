/-
  PLAIN: look keeps Good; what it tells.
-/
import Derived.Test.YtngegkgmenfelaaGb
namespace Go.Proofs.Ytngegkgmenfelaa
open Go.RowKit Go.Lib
variable {n : Nat} {T : Tr}

/-- A clause's second watch moves from x to another literal; x's row is kept ++ k :: rest. -/
theorem Good.other {x : Int} {j k i : Nat} {kept rest : List Int} (h : Good n (setW T j (kept ++ (k : Int) :: rest))) (hj : sideN x = j) (hjw : j < T.W.length) (hx : valOf T x = -1) (hk : k < T.L.length) (hl : Long (cl T k)) (hc1 : (cl T k).getD 1 0 = x) (hc0 : valOf T ((cl T k).getD 0 0) ≠ 1)
    (h2 : 2 ≤ i) (hi : i < (cl T k).length) (hg : goodI T (cl T k) i = true) : Good n (setW (otherT T k i) j (kept ++ rest)) ∧ SameCl T (otherT T k i) := by
  subst hj
  have hs : SameCl T (otherT T k i) := SameCl.sw T k 1 i hk (by omega) hi (by omega)
  have hcm : ∀ z ∈ cl T k, 1 ≤ z.natAbs ∧ z.natAbs ≤ n := (h.ok.clause k).2
  have hg1 : 0 ≤ valOf T ((cl T k).getD i 0) ∧ (cl T k).getD i 0 ≠ (cl T k).getD 0 0 := by
    unfold goodI at hg
    rw [Bool.and_eq_true, decide_eq_true_eq, bne_iff_ne] at hg
    exact hg
  have m0 : 1 ≤ ((cl T k).getD 0 0).natAbs := (hcm _ (mem_getD (by omega))).1
  have mi : 1 ≤ ((cl T k).getD i 0).natAbs := (hcm _ (mem_getD hi)).1
  have m1 : 1 ≤ x.natAbs := by rw [← hc1]; exact (hcm _ (mem_getD (by have := hl.1; omega))).1
  have n0x : (cl T k).getD 0 0 ≠ x := by rw [← hc1]; exact hl.2
  have nix : (cl T k).getD i 0 ≠ x := fun e => by rw [e, hx] at hg1; omega
  obtain ⟨s, hsd⟩ : ∃ s, sideN ((cl T k).getD i 0) = s := ⟨_, rfl⟩
  have sj : s ≠ sideN x := fun e => nix (side_inj (by omega) (by omega) (hsd.trans e))
  have s0j : sideN ((cl T k).getD 0 0) ≠ sideN x := fun e => n0x (side_inj (by omega) (by omega) e)
  have s0s : sideN ((cl T k).getD 0 0) ≠ s := fun e => hg1.2 (side_inj (by omega) (by omega) (e.trans hsd.symm)).symm
  have hsl : s < T.W.length := by
    rw [← hsd]
    have := h.ok.wl
    rw [show (setW T (sideN x) (kept ++ (k : Int) :: rest)).W.length = T.W.length from by show (T.W.set _ _).length = _; rw [List.length_set]] at this
    rw [this]; exact side_lt (hcm _ (mem_getD hi))
  -- the clauses
  have e0 : ∀ m, (cl (otherT T k i) m).getD 0 0 = (cl T m).getD 0 0 := fun m => by
    rw [show cl (otherT T k i) m = cl (swT T k 1 i) m from rfl, cl_sw _ _ _ _ _ hk]
    by_cases e : m = k
    · subst e; rw [if_pos rfl, getD_set_ne _ _ _ (by omega), getD_set_ne _ _ _ (by omega)]
    · rw [if_neg e]
  have e1 : ∀ m, (cl (otherT T k i) m).getD 1 0 = if m = k then (cl T k).getD i 0 else (cl T m).getD 1 0 := fun m => by
    rw [show cl (otherT T k i) m = cl (swT T k 1 i) m from rfl, cl_sw _ _ _ _ _ hk]
    by_cases e : m = k
    · subst e; rw [if_pos rfl, if_pos rfl, getD_set_ne _ _ _ (by omega), getD_set_eq _ _ _ (by omega)]
    · rw [if_neg e, if_neg e]
  have el : ∀ m, (cl (otherT T k i) m).length = (cl T m).length := fun m => sw_len T k 1 i m
  have lg : ∀ m, Long (cl (otherT T k i) m) ↔ Long (cl T m) := fun m => by
    unfold Long
    rw [el, e0, e1]
    by_cases e : m = k
    · subst e; rw [if_pos rfl]; exact ⟨fun _ => hl, fun h => ⟨h.1, Ne.symm hg1.2⟩⟩
    · rw [if_neg e]
  have ak : ∀ m, Alike (cl (otherT T k i) m) ↔ Alike (cl T m) := fun m => ⟨alike_iff fun z => (hs.2 m z).symm, alike_iff fun z => hs.2 m z⟩
  -- the rows
  have rA : ∀ p, (setW T (sideN x) (kept ++ (k : Int) :: rest)).W.getD p [] = if p = sideN x then kept ++ (k : Int) :: rest else T.W.getD p [] := fun p => by
    by_cases e : p = sideN x
    · rw [if_pos e, e]; exact setW_get _ _ _ hjw
    · rw [if_neg e]; exact getD_set_ne _ _ _ (Ne.symm e)
  have r2 : ∀ p, (setW (otherT T k i) (sideN x) (kept ++ rest)).W.getD p [] = if p = sideN x then kept ++ rest else if p = s then T.W.getD p [] ++ [(k : Int)] else T.W.getD p [] := fun p => by
    have hl2 : (push T.W (sideN ((T.L.getD k []).getD i 0)) k).length = T.W.length := by unfold push; rw [List.length_set]
    by_cases e : p = sideN x
    · rw [if_pos e, e]; exact setW_get _ _ _ (by show _ < (push T.W _ k).length; rw [hl2]; exact hjw)
    · rw [if_neg e]
      show ((push T.W (sideN ((cl T k).getD i 0)) k).set _ _).getD p [] = _
      rw [getD_set_ne _ _ _ (Ne.symm e), hsd]
      unfold push
      by_cases e' : p = s
      · rw [if_pos e', e', getD_set_eq _ _ _ hsl]
      · rw [if_neg e', getD_set_ne _ _ _ (Ne.symm e')]
  have ndj := h.wNd (sideN x)
  rw [rA, if_pos rfl] at ndj
  have knot : (k : Int) ∉ kept ++ rest := fun hh => by
    rw [List.nodup_append] at ndj
    obtain ⟨_, b, c⟩ := ndj
    rw [List.nodup_cons] at b
    rcases List.mem_append.1 hh with hh | hh
    · exact c _ hh _ (List.mem_cons_self ..) rfl
    · exact b.1 hh
  have kns : (k : Int) ∉ T.W.getD s [] := fun hh => by
    obtain ⟨m, e, hm, _, ho⟩ := h.wIn s (k : Int) (by rw [rA, if_neg sj]; exact hh)
    obtain rfl : k = m := by omega
    rcases ho with ho | ho
    · exact s0s ho.symm
    · rw [show (cl (setW T (sideN x) (kept ++ (k : Int) :: rest)) k).getD 1 0 = x from hc1] at ho; exact sj ho
  refine ⟨{
    ok := ((h.ok.sw k 1 i (by show 1 < (cl T k).length; omega) hi).push s k).setW (sideN x) _ |> fun o => by
      have : setW (pushT (swT (setW T (sideN x) (kept ++ (k : Int) :: rest)) k 1 i) s k) (sideN x) (kept ++ rest) = setW (otherT T k i) (sideN x) (kept ++ rest) := by
        have e := push_set T.W (sideN x) s k (kept ++ (k : Int) :: rest) sj
        show Tr.mk _ ((push (T.W.set (sideN x) (kept ++ (k : Int) :: rest)) s k).set (sideN x) (kept ++ rest)) _ _ _ _ _ = Tr.mk _ ((push T.W (sideN ((T.L.getD k []).getD i 0)) k).set (sideN x) (kept ++ rest)) _ _ _ _ _
        rw [e, List.set_set, show sideN ((T.L.getD k []).getD i 0) = s from hsd]
        rfl
      rw [← this]; exact o
    part := fun m hm => by rw [show (setW (otherT T k i) (sideN x) (kept ++ rest)).L.length = (otherT T k i).L.length from rfl, hs.1] at hm; rw [show cl (setW (otherT T k i) (sideN x) (kept ++ rest)) m = cl (otherT T k i) m from rfl, ak, lg]; exact h.part m hm
    wIn := fun p q hq => ?_, wOf := fun m hm hL => ?_, wNd := fun p => ?_
    shIn := fun q hq => by
      obtain ⟨m, rfl, hm, hA⟩ := h.shIn q hq
      exact ⟨m, rfl, by show m < (otherT T k i).L.length; rw [hs.1]; exact hm, (ak m).2 hA⟩
    shOf := fun m hm hL => by
      have hm' : m < T.L.length := by rw [← hs.1]; exact hm
      exact h.shOf m hm' (fun hh => hL ((lg m).2 hh))
    shl := by show T.short.length ≤ (otherT T k i).L.length; rw [hs.1]; exact h.shl
    lit := h.lit, nd := h.nd, nxl := h.nxl, vis := fun p hp m hm hL => ?_, stUp := h.stUp, stIn := h.stIn, lev := h.lev
    rs := fun a ha => by
      rcases h.rs a ha with h1 | ⟨h1, m, h2, h3, h4, h5⟩
      · exact .inl h1
      · exact .inr ⟨h1, m, by show m < (otherT T k i).L.length; rw [hs.1]; exact h2, h3, (hs.2 m _).2 h4, fun y hy => h5 y ((hs.2 m y).1 hy)⟩
    unk := h.unk }, hs⟩
  · rw [r2] at hq
    have fin : ∀ m : Nat, m < T.L.length → Long (cl T m) → (p = sideN ((cl (otherT T k i) m).getD 0 0) ∨ p = sideN ((cl (otherT T k i) m).getD 1 0)) → ∃ m' : Nat, ((m : Nat) : Int) = (m' : Nat) ∧ m' < (otherT T k i).L.length ∧ Long (cl (otherT T k i) m') ∧ (p = sideN ((cl (otherT T k i) m').getD 0 0) ∨ p = sideN ((cl (otherT T k i) m').getD 1 0)) := fun m a b c => ⟨m, rfl, by rw [hs.1]; exact a, (lg m).2 b, c⟩
    by_cases ep : p = sideN x
    · rw [if_pos ep] at hq
      obtain ⟨m, rfl, hm, hL, ho⟩ := h.wIn p q (by rw [rA, if_pos ep, List.mem_append, List.mem_cons]; rcases List.mem_append.1 hq with hq | hq; exact .inl hq; exact .inr (.inr hq))
      have hmk : m ≠ k := fun e => knot (by rw [← e]; exact hq)
      refine fin m hm hL ?_
      rw [e0, e1, if_neg hmk]; exact ho
    · rw [if_neg ep] at hq
      by_cases es : p = s
      · rw [if_pos es, List.mem_append, List.mem_singleton] at hq
        rcases hq with hq | rfl
        · obtain ⟨m, rfl, hm, hL, ho⟩ := h.wIn p q (by rw [rA, if_neg ep]; exact hq)
          have hmk : m ≠ k := fun e => kns (by rw [← e, ← es]; exact hq)
          refine fin m hm hL ?_
          rw [e0, e1, if_neg hmk]; exact ho
        · refine fin k hk hl (.inr ?_)
          rw [e1, if_pos rfl, hsd]; exact es
      · rw [if_neg es] at hq
        obtain ⟨m, rfl, hm, hL, ho⟩ := h.wIn p q (by rw [rA, if_neg ep]; exact hq)
        refine fin m hm hL ?_
        rw [e0, e1]
        by_cases hmk : m = k
        · subst hmk
          rcases ho with ho | ho
          · exact .inl ho
          · rw [show (cl (setW T (sideN x) (kept ++ (m : Int) :: rest)) m).getD 1 0 = x from hc1] at ho
            exact absurd ho ep
        · rw [if_neg hmk]; exact ho
  · have hm' : m < T.L.length := by rw [← hs.1]; exact hm
    have hL' := (lg m).1 hL
    obtain ⟨a, b⟩ := h.wOf m hm' hL'
    show ((m : Nat) : Int) ∈ _ ∧ ((m : Nat) : Int) ∈ _
    rw [show cl (setW (otherT T k i) (sideN x) (kept ++ rest)) m = cl (otherT T k i) m from rfl, e0, e1, r2, r2]
    rw [show cl (setW T (sideN x) (kept ++ (k : Int) :: rest)) m = cl T m from rfl] at a b
    rw [rA] at a b
    have keep2 : m ≠ k → ∀ z, ((m : Nat) : Int) ∈ (if sideN z = sideN x then kept ++ (k : Int) :: rest else T.W.getD (sideN z) []) → ((m : Nat) : Int) ∈ (if sideN z = sideN x then kept ++ rest else if sideN z = s then T.W.getD (sideN z) [] ++ [(k : Int)] else T.W.getD (sideN z) []) := fun hmk z hz => by
      by_cases ez : sideN z = sideN x
      · rw [if_pos ez] at hz ⊢
        rw [List.mem_append, List.mem_cons] at hz
        rw [List.mem_append]
        rcases hz with hz | hz | hz
        · exact .inl hz
        · exact absurd (by omega) hmk
        · exact .inr hz
      · rw [if_neg ez] at hz ⊢
        split
        · exact List.mem_append_left _ hz
        · exact hz
    by_cases hmk : m = k
    · subst hmk
      rw [if_pos rfl, hsd, if_neg s0j, if_neg s0s, if_neg sj, if_pos rfl]
      rw [if_neg s0j] at a
      exact ⟨a, List.mem_append_right _ (List.mem_singleton.2 rfl)⟩
    · rw [if_neg hmk]
      exact ⟨keep2 hmk _ a, keep2 hmk _ b⟩
  · rw [r2]
    by_cases ep : p = sideN x
    · rw [if_pos ep]
      rw [List.nodup_append] at ndj ⊢
      obtain ⟨a, b, c⟩ := ndj
      rw [List.nodup_cons] at b
      exact ⟨a, b.2, fun u hu v hv => c u hu v (List.mem_cons_of_mem _ hv)⟩
    · rw [if_neg ep]
      have := h.wNd p
      rw [rA, if_neg ep] at this
      split
      · rename_i es
        rw [List.nodup_append]
        refine ⟨this, by simp, fun u hu v hv => ?_⟩
        rw [List.mem_singleton] at hv
        subst hv
        exact fun e => kns (by rw [← es, ← e]; exact hu)
      · exact this
  · have hm' : m < T.L.length := by rw [← hs.1]; exact hm
    obtain ⟨a, b⟩ := h.vis p hp m hm' ((lg m).1 hL)
    show ((cl (otherT T k i) m).getD 0 0 = -(T.lits.getD p 0) → valOf T ((cl (otherT T k i) m).getD 1 0) = 1) ∧ ((cl (otherT T k i) m).getD 1 0 = -(T.lits.getD p 0) → valOf T ((cl (otherT T k i) m).getD 0 0) = 1)
    rw [e0, e1]
    by_cases hmk : m = k
    · subst hmk
      rw [if_pos rfl]
      have a' : (cl T m).getD 0 0 = -(T.lits.getD p 0) → valOf T ((cl T m).getD 1 0) = 1 := a
      rw [hc1, hx] at a'
      refine ⟨fun e => absurd (a' e) (by omega), fun e => ?_⟩
      have hpl : valOf T (T.lits.getD p 0) = 1 := (h.lit _).1 (mem_getD (Nat.lt_of_lt_of_le hp h.nxl))
      rw [e, valOf_neg, hpl] at hg1
      omega
    · rw [if_neg hmk]; exact ⟨a, b⟩
end Go.Proofs.Ytngegkgmenfelaa
