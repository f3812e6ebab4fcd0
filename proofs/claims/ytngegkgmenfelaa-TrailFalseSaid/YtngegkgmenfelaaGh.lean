/-
  PLAIN: Back keeps Good.
-/
import Derived.Test.YtngegkgmenfelaaGg
namespace Go.Proofs.Ytngegkgmenfelaa
open Go.RowKit Go.Lib
variable {n : Nat} {T : Tr}

theorem clearF_get (d : Int × Int × Int) : ∀ (xs : List Int) (F : List (Int × Int × Int)) (i : Nat), i < F.length → (clearF F xs).getD i d = if ∃ x ∈ xs, x.natAbs - 1 = i then (0, -1, -1) else F.getD i d
  | [], F, i, _ => by rw [if_neg (by simp)]; rfl
  | x :: xs, F, i, hi => by
    show (clearF (F.set (x.natAbs - 1) (0, -1, -1)) xs).getD i d = _
    rw [clearF_get d xs _ i (by rw [List.length_set]; exact hi)]
    by_cases h : ∃ z ∈ xs, z.natAbs - 1 = i
    · obtain ⟨z, hz, e⟩ := h
      rw [if_pos ⟨z, hz, e⟩, if_pos ⟨z, List.mem_cons_of_mem _ hz, e⟩]
    · rw [if_neg h]
      by_cases e : x.natAbs - 1 = i
      · rw [if_pos ⟨x, List.mem_cons_self .., e⟩, e, getD_set_eq _ _ _ hi]
      · rw [getD_set_ne _ _ _ e, if_neg]
        rintro ⟨z, hz, ez⟩
        rcases List.mem_cons.1 hz with rfl | hz
        · exact e ez
        · exact h ⟨z, hz, ez⟩

theorem factOf_back (h : Good n T) (lv : Nat) (x : Int) : factOf (backT T lv) x = if x ∈ T.lits.drop (startOf T lv) ∨ -x ∈ T.lits.drop (startOf T lv) then (0, -1, -1) else factOf T x := by
  have fl : (backT T lv).F.length = T.F.length := clearF_len _ _
  by_cases hv : 1 ≤ x.natAbs ∧ x.natAbs ≤ T.F.length
  · rw [factOf_in (by rw [fl]; exact hv), factOf_in hv]
    show (clearF T.F _).getD _ _ = _
    rw [clearF_get _ _ _ _ (by omega)]
    have hm : ∀ z ∈ T.lits.drop (startOf T lv), 1 ≤ z.natAbs := fun z hz => (h.litVar (List.mem_of_mem_drop hz)).1
    by_cases e : x ∈ T.lits.drop (startOf T lv) ∨ -x ∈ T.lits.drop (startOf T lv)
    · rw [if_pos e, if_pos]
      rcases e with e | e
      · exact ⟨x, e, rfl⟩
      · exact ⟨-x, e, by rw [Int.natAbs_neg]⟩
    · rw [if_neg e, if_neg]
      rintro ⟨z, hz, ez⟩
      have := hm z hz
      have : z = x ∨ z = -x := by omega
      rcases this with rfl | rfl
      · exact e (.inl hz)
      · exact e (.inr hz)
  · rw [factOf_out (by rw [fl]; exact hv), factOf_out hv]; simp
theorem valOf_back (h : Good n T) (lv : Nat) (x : Int) : valOf (backT T lv) x = if x ∈ T.lits.drop (startOf T lv) ∨ -x ∈ T.lits.drop (startOf T lv) then 0 else valOf T x := by
  unfold valOf
  rw [factOf_back h lv x]
  by_cases e : x ∈ T.lits.drop (startOf T lv) ∨ -x ∈ T.lits.drop (startOf T lv)
  · rw [if_pos e, if_pos e]; split <;> rfl
  · rw [if_neg e, if_neg e]

theorem Good.back (h : Good n T) (lv : Nat) (hlv : lv < T.starts.length) : Good n (backT T lv) := by
  have hs := h.stIn lv hlv
  obtain ⟨s, es⟩ : ∃ s : Nat, T.starts.getD lv 0 = (s : Nat) := ⟨(T.starts.getD lv 0).toNat, by omega⟩
  have hso : startOf T lv = s := by unfold startOf; rw [es]; rfl
  have hsl : s < T.lits.length := by omega
  have vb := valOf_back h lv
  have fb := factOf_back h lv
  rw [hso] at vb fb
  have tl : (T.lits.take s).length = s := by rw [List.length_take]; omega
  have nd := h.nd
  rw [← List.take_append_drop s T.lits, List.nodup_append] at nd
  have keepT : ∀ x ∈ T.lits.take s, ¬ (x ∈ T.lits.drop s ∨ -x ∈ T.lits.drop s) := fun x hx hh => by
    rcases hh with hh | hh
    · exact nd.2.2 x hx x hh rfl
    · have h1 := (h.lit x).1 (List.mem_of_mem_take hx)
      have h2 := (h.lit (-x)).1 (List.mem_of_mem_drop hh)
      rw [valOf_neg] at h2; omega
  have gl : ∀ i, i < s → (T.lits.take s).getD i 0 = T.lits.getD i 0 := fun i hi => by
    rw [List.getD_eq_getElem?_getD, List.getElem?_take_of_lt hi, ← List.getD_eq_getElem?_getD]
  have gm : ∀ i, i < s → T.lits.getD i 0 ∈ T.lits.take s := fun i hi => by rw [← gl i hi]; exact mem_getD (by rw [tl]; exact hi)
  have sl : (T.starts.take lv).length = lv := by rw [List.length_take]; omega
  have sg : ∀ a, a < lv → (T.starts.take lv).getD a 0 = T.starts.getD a 0 := fun a ha => by
    rw [List.getD_eq_getElem?_getD, List.getElem?_take_of_lt ha, ← List.getD_eq_getElem?_getD]
  have sd : ∀ z ∈ T.starts.drop lv, (s : Int) ≤ z := fun z hz => by
    obtain ⟨a, ha, rfl⟩ := List.getElem_of_mem hz
    rw [List.length_drop] at ha
    rw [List.getElem_drop]
    have e : T.starts[lv + a] = T.starts.getD (lv + a) 0 := by rw [List.getD_eq_getElem?_getD, List.getElem?_eq_getElem (by omega), Option.getD_some]
    rw [e]
    by_cases a0 : a = 0
    · subst a0; rw [Nat.add_zero, es]; omega
    · have := h.stUp lv (lv + a) (by omega) (by omega); omega
  have stE : (backT T lv).starts = T.starts.take lv := rfl
  have liE : (backT T lv).lits = T.lits.take s := by show T.lits.take (startOf T lv) = _; rw [hso]
  refine {
    ok := ⟨by show (clearF _ _).length = _; rw [clearF_len]; exact h.ok.fl, h.ok.n2, h.ok.wl, fun x => ?_, h.ok.cl, h.ok.ll⟩
    part := h.part, wIn := h.wIn, wOf := h.wOf, wNd := h.wNd, shIn := h.shIn, shOf := h.shOf, shl := h.shl
    lit := fun x => ?_, nd := by rw [liE]; exact nd.1, nxl := Nat.zero_le _, vis := fun p hp => absurd hp (by show ¬ p < 0; omega), stUp := fun a b hab hb => ?_, stIn := fun a ha => ?_, lev := fun i hi => ?_, rs := fun i hi => ?_, unk := fun x hx => ?_ }
  · rw [fb]
    split
    · simp
    · exact h.ok.small x
  · rw [liE, vb]
    by_cases e : x ∈ T.lits.drop s ∨ -x ∈ T.lits.drop s
    · rw [if_pos e]
      exact ⟨fun hx => absurd e (keepT x hx), fun hh => absurd hh (by omega)⟩
    · rw [if_neg e, ← h.lit]
      refine ⟨List.mem_of_mem_take, fun hx => ?_⟩
      rw [← List.take_append_drop s T.lits] at hx
      rcases List.mem_append.1 hx with hx | hx
      · exact hx
      · exact absurd (.inl hx) e
  · rw [stE, sl] at hb
    rw [stE, sg a (by omega), sg b hb]; exact h.stUp a b hab (by omega)
  · rw [stE, sl] at ha
    rw [stE, liE, tl, sg a ha]
    have h1 := h.stIn a (by omega)
    have h2 := h.stUp a lv ha hlv
    omega
  · rw [liE, tl] at hi
    rw [liE, gl i hi, fb, if_neg (keepT _ (gm i hi)), h.lev i (by omega), stE]
    congr 1
    conv => lhs; rw [← List.take_append_drop lv T.starts]
    rw [List.countP_append]
    have : List.countP (fun z => decide (z ≤ ((i : Nat) : Int))) (T.starts.drop lv) = 0 := by
      rw [List.countP_eq_zero]; intro z hz; have := sd z hz; simp; omega
    rw [this, Nat.add_zero]
  · rw [liE, tl] at hi
    have et : (T.lits.take s).take i = T.lits.take i := by rw [List.take_take, Nat.min_eq_left (by omega)]
    rw [liE, gl i hi, fb, if_neg (keepT _ (gm i hi)), stE, et]
    have iff : ((i : Nat) : Int) ∈ T.starts.take lv ↔ ((i : Nat) : Int) ∈ T.starts := by
      refine ⟨List.mem_of_mem_take, fun hh => ?_⟩
      rw [← List.take_append_drop lv T.starts] at hh
      rcases List.mem_append.1 hh with hh | hh
      · exact hh
      · have := sd _ hh; omega
    rw [iff]
    exact h.rs i (by omega)
  · rw [vb] at hx
    rw [fb]
    split
    · rfl
    · rename_i e
      rw [if_neg e] at hx
      exact h.unk x hx
end Go.Proofs.Ytngegkgmenfelaa
