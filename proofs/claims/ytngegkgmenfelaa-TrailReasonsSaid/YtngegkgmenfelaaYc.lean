/-
  Both trails side by side: each act's contract in one.
-/
import Derived.Test.YtngegkgmenfelaaYb
namespace Go.Proofs.Ytngegkgmenfelaa
open Go.RowKit Go.Lib
attribute [local go_sem ↓] Go.wp_at_zero Go.wp_at_succ

/-- Both trails in memory. -/
structure Both (W w : World) (M S : Nat → Prop) (b p : Nat) (T : Tr) (R : Ref) : Prop where
  t : TrailAt w (fun k => M k ∨ S k) b T
  r : RefAt w M S p R
  o : ∀ k, Old W k → S k
  be : Below W.heap.size W w

variable {W w w' : World} {M S : Nat → Prop} {b p n : Nat} {T T' : Tr} {R R' : Ref}

theorem Both.keepOld (h : Both W w M S b p T R) (hk : Keep (fun k => M k ∨ S k) w w') : Below W.heap.size W w' := old_keep h.be (hk.mono fun k hk => .inr (h.o k hk))
/-- A call of the trail's. -/
theorem Both.tcall (h : Both W w M S b p T R) (hk : Keep (fun k => M k ∨ S k) w w') (ht : TrailAt w' (fun k => M k ∨ S k) b T') : Both W w' M S b p T' R :=
  ⟨ht, h.r.keep hk, h.o, h.keepOld hk⟩
theorem Both.below (h : Both W w M S b p T R) (hb : Below w.heap.size w w') : Both W w' M S b p T R :=
  ⟨h.t.below hb (Nat.le_refl _), h.r.below hb, h.o, h.be.trans (hb.mono h.be.size)⟩
/-- A call of the document's. -/
theorem Both.mcall (h : Both W w M S b p T R) (hp : RefPost w M S p R' w') : ∃ M' S' : Nat → Prop, Both W w' M' S' b p T R' ∧ (∀ k, S k → S' k) ∧ Keep S w w' := by
  obtain ⟨M', S', h1, h2, h3, h4, h5, _⟩ := hp.trail h.t
  have hk : Keep S w w' := by
    obtain ⟨_, _, _, hm, _⟩ := h.r
    exact hm.onlyKeep h3
  exact ⟨M', S', ⟨h2, h1, fun k hk => h5 k (h.o k hk), old_keep h.be (hk.mono h.o)⟩, h5, hk⟩
theorem Both.keepS (_ : Both W w M S b p T R) (hk : Keep (fun k => M k ∨ S k) w w') : Keep S w w' := hk.mono fun _ h => .inr h
/-- A new block that is read only. -/
theorem Both.moreS (h : Both W w M S b p T R) (o : Obj) : Both W (w.alloc o) M (fun k => S k ∨ k = w.heap.size) b p T R := by
  have hb : Below w.heap.size w (w.alloc o) := (Below.refl _ _).alloc (Nat.le_refl _) _
  have hsz : (w.alloc o).heap.size = w.heap.size + 1 := by simp
  have hr := h.r.below hb
  have hth : ∀ k, M k ∨ S k → k < w.heap.size := h.r.there
  obtain ⟨val, ct, vA, hm, ht⟩ := hr
  have hm' := hm.moreS (S' := fun k => S k ∨ k = w.heap.size) (fun k hk => hk.imp id fun e => ⟨fun hM => by have := hth k (.inl hM); omega, by omega⟩)
  refine ⟨(h.t.more hb).only (Only.refl (fun _ => False) _) (fun _ h => h.elim) (fun k hk => ?_) (fun k hk => ?_), ⟨val, ct, vA, hm', ht.grow fun k h => .inl h⟩, fun k hk => .inl (h.o k hk), h.be.trans (hb.mono h.be.size)⟩
  · rcases hk with hk | hk | hk
    · exact .inl (.inl (.inl hk))
    · exact .inl (.inl (.inr hk))
    · exact .inl (.inr ⟨by omega, by omega⟩)
  · rcases hk with hk | hk | hk
    · have := hth k (.inl hk); omega
    · have := hth k (.inr hk); omega
    · omega

/-- Back, whatever the level. -/
def backE (len : Nat) (lv : Int) : Int := if lv < 0 ∨ (len : Int) < lv then 1 else 0
def backZ (T : Tr) (lv : Int) : Tr := if 0 ≤ lv ∧ lv < (T.starts.length : Int) then backT T lv.toNat else T
def backMZ (R : Ref) (lv : Int) : Ref := if 0 ≤ lv ∧ lv < (R.D.length : Int) then backM R lv.toNat else R
theorem Back_all (h : Both W w M S b p T R) (hg : Good n T) (lv : Int) :
    Calls Try.prog 14 #[.pointer (some ⟨b, 0, none⟩), .int .i64 lv] w fun e w' => e = .returned (.int .i64 (backE T.starts.length lv)) ∧ Keep S w w' ∧ Both W w' M S b p (backZ T lv) R := by
  have h1 := hg.litsLen
  have h2 := hg.ok.n2
  have h3 := hg.startsLen
  unfold backE backZ
  by_cases hb : lv < 0 ∨ (T.starts.length : Int) < lv
  · rw [if_pos hb, if_neg (by omega)]
    refine (Back_arg h.t lv (by omega) hb).mono ?_
    rintro e w' ⟨rfl, rfl⟩
    exact ⟨rfl, Keep.refl _ _, h⟩
  · rw [if_neg hb]
    obtain ⟨k, rfl⟩ : ∃ k : Nat, lv = (k : Nat) := ⟨lv.toNat, by omega⟩
    by_cases hl : k < T.starts.length
    · rw [if_pos (by omega), Int.toNat_natCast]
      refine (Back_ok h.t hg k hl).mono ?_
      rintro e w' ⟨rfl, hk, ht⟩
      exact ⟨rfl, h.keepS hk, h.tcall hk ht⟩
    · rw [if_neg (by omega)]
      obtain rfl : k = T.starts.length := by omega
      refine (Back_same h.t (by omega)).mono ?_
      rintro e w' ⟨rfl, rfl⟩
      exact ⟨rfl, Keep.refl _ _, h⟩
/-- The document's call, and what stays. -/
def MPost (W w : World) (S : Nat → Prop) (b p : Nat) (T : Tr) (R' : Ref) (w' : World) : Prop := ∃ M' S' : Nat → Prop, Both W w' M' S' b p T R' ∧ (∀ k, S k → S' k) ∧ Keep S w w'
theorem BackM_all (h : Both W w M S b p T R) (hg : GoodR R) (lv : Int) :
    Calls Try.prog 40 #[.pointer (some ⟨p, 0, none⟩), .int .i64 lv] w fun e w' => e = .returned (.int .i64 (backE R.D.length lv)) ∧ MPost W w S b p T (backMZ R lv) w' := by
  unfold backE backMZ
  by_cases hb : lv < 0 ∨ (R.D.length : Int) < lv
  · rw [if_pos hb, if_neg (by omega)]
    refine (BackM_arg h.r lv hb).mono ?_
    rintro e w' ⟨rfl, rfl⟩
    exact ⟨rfl, M, S, h, fun _ h => h, Keep.refl _ _⟩
  · rw [if_neg hb]
    obtain ⟨k, rfl⟩ : ∃ k : Nat, lv = (k : Nat) := ⟨lv.toNat, by omega⟩
    by_cases hl : k < R.D.length
    · rw [if_pos (by omega), Int.toNat_natCast]
      refine (BackM_ok h.r hg.lenK k hl).mono ?_
      rintro e w' ⟨rfl, hp⟩
      exact ⟨rfl, h.mcall hp⟩
    · rw [if_neg (by omega)]
      obtain rfl : k = R.D.length := by omega
      refine (BackM_same h.r).mono ?_
      rintro e w' ⟨rfl, rfl⟩
      exact ⟨rfl, M, S, h, fun _ h => h, Keep.refl _ _⟩
theorem Good.backZ (hg : Good n T) (lv : Int) : Good n (Ytngegkgmenfelaa.backZ T lv) := by
  unfold Ytngegkgmenfelaa.backZ
  split
  · exact hg.back _ (by omega)
  · exact hg
theorem RelA.backZ (h : RelA n T R) (hg : Good n T) (lv : Int) : RelA n (Ytngegkgmenfelaa.backZ T lv) (backMZ R lv) ∧ backE T.starts.length lv = backE R.D.length lv := by
  unfold Ytngegkgmenfelaa.backZ backMZ
  rw [h.Dl]
  refine ⟨?_, rfl⟩
  by_cases hl : 0 ≤ lv ∧ lv < (T.starts.length : Int)
  · rw [if_pos hl, if_pos hl]; exact h.toRelD.back hg (by omega)
  · rw [if_neg hl, if_neg hl]; exact h
theorem RelD.backZ (h : RelD n T R) (hg : Good n T) (k : Nat) (hk : k < T.starts.length) : RelA n (Ytngegkgmenfelaa.backZ T k) (backMZ R k) ∧ backE T.starts.length k = backE R.D.length k := by
  unfold Ytngegkgmenfelaa.backZ backMZ
  rw [h.Dl, if_pos (by omega), if_pos (by omega), Int.toNat_natCast]
  exact ⟨h.back hg hk, rfl⟩
theorem backMZ_L (R : Ref) (lv : Int) : (backMZ R lv).L = R.L := by unfold backMZ; split <;> rfl

/-- Decide. -/
def decME (R : Ref) (x : Int) : Int := if okLit x R.n then (if litA R.A x = 0 then 0 else 7) else 1
def decMS (R : Ref) (x : Int) : Ref := if decME R x = 0 then decideM R x else R
theorem DecideM_all (h : Both W w M S b p T R) (hg : GoodR R) (hd : R.D.length ≤ 900000) (x : Int) (hx : In64 x) :
    Calls Try.prog 42 #[.pointer (some ⟨p, 0, none⟩), .int .i64 x] w fun e w' => e = .returned (.int .i64 (decME R x)) ∧ MPost W w S b p T (decMS R x) w' := by
  unfold decMS decME
  cases hok : okLit x R.n with
  | false =>
    simp only [Bool.false_eq_true, if_false]
    refine (DecideM_arg h.r hg x hx hok).mono ?_
    rintro e w' ⟨rfl, rfl⟩
    exact ⟨rfl, M, S, by rw [if_neg (by decide)]; exact h, fun _ h => h, Keep.refl _ _⟩
  | true =>
    simp only [if_true]
    by_cases h0 : litA R.A x = 0
    · rw [if_pos h0]
      refine (DecideM_ok h.r hg hd x hx hok h0).mono ?_
      rintro e w' ⟨rfl, hp⟩
      exact ⟨rfl, by rw [if_pos rfl]; exact h.mcall hp⟩
    · rw [if_neg h0]
      refine (DecideM_there h.r hg x hx hok h0).mono ?_
      rintro e w' ⟨rfl, rfl⟩
      exact ⟨rfl, M, S, by rw [if_neg (by decide)]; exact h, fun _ h => h, Keep.refl _ _⟩
theorem Decide_all (h : Both W w M S b p T R) (hg : Good n T) (x : Int) (hx : In64 x) :
    Calls Try.prog 27 #[.pointer (some ⟨b, 0, none⟩), .int .i64 x] w fun e w' => e = .returned (.int .i64 (decE T x)) ∧ Keep S w w' ∧ Both W w' M S b p (decS T x) R := by
  refine (Decide_any h.t hg x hx).mono ?_
  rintro e w' ⟨rfl, hk, ht⟩
  exact ⟨rfl, h.keepS hk, h.tcall hk ht⟩
theorem RelA.decide' (h : RelA n T R) (hg : Good n T) (x : Int) : Ytngegkgmenfelaa.decE T x = decME R x ∧ RelA n (decS T x) (decMS R x) := by
  have e : Ytngegkgmenfelaa.decE T x = decME R x := by rw [h.decE hg]; unfold decME; rw [h.en]
  refine ⟨e, ?_⟩
  unfold decMS
  rw [← e]
  by_cases h0 : Ytngegkgmenfelaa.decE T x = 0
  · rw [if_pos h0]; exact h.decide hg h0
  · rw [if_neg h0, decS_no h0]; exact h
theorem decMS_L (R : Ref) (x : Int) : (decMS R x).L = R.L := by unfold decMS; split <;> rfl

/-- Add. -/
def addE (o : Bool) : Int := if o then 0 else 1
def addS (T : Tr) (c : List Int) (o : Bool) : Tr := if o then putT T c else T
def addMS (R : Ref) (c : List Int) (o : Bool) : Ref := if o then addM R c else R
theorem Add_all (h : Both W w M S b p T R) (hg : Good n T) {s : Value} {c : List Int} (hr : Reads w s c) (hx : ∀ x ∈ c, In64 x) :
    Calls Try.prog 33 #[.pointer (some ⟨b, 0, none⟩), s] w fun e w' => e = .returned (.int .i64 (addE (rightB n [c]))) ∧ Keep S w w' ∧ Both W w' M S b p (addS T c (rightB n [c])) R := by
  refine (Add_any h.t hg hr hx).mono ?_
  rintro e w' ⟨hk, hcase⟩
  rcases hcase with ⟨ho, rfl, ht⟩ | ⟨ho, rfl, ht⟩
  · rw [ho]; exact ⟨rfl, h.keepS hk, h.tcall hk ht⟩
  · rw [ho]; exact ⟨rfl, h.keepS hk, h.tcall hk ht⟩
theorem AddM_all (h : Both W w M S b p T R) {s : Value} {c : List Int} (hr : Stays S w fun w2 => Reads w2 s c) (hx : ∀ x ∈ c, In64 x) (hl : c.length ≤ 1000000) (hL : R.L.length ≤ 900000) :
    Calls Try.prog 41 #[.pointer (some ⟨p, 0, none⟩), s] w fun e w' => e = .returned (.int .i64 (addE (rightB R.n [c]))) ∧ MPost W w S b p T (addMS R c (rightB R.n [c])) w' := by
  refine (AddM_any h.r hr hx hl hL).mono ?_
  rintro e w' hcase
  rcases hcase with ⟨ho, rfl, hp⟩ | ⟨ho, rfl, hp⟩
  · rw [ho]; exact ⟨rfl, h.mcall hp⟩
  · rw [ho]; exact ⟨rfl, h.mcall hp⟩
theorem RelA.add' (h : RelA n T R) (hg : Good n T) {c : List Int} (hl : R.L.length + 1 ≤ 300000) : Good n (addS T c (rightB n [c])) ∧ RelA n (addS T c (rightB n [c])) (addMS R c (rightB R.n [c])) := by
  rw [h.en]
  unfold addS addMS
  cases ho : rightB (n : Int) [c] with
  | false => exact ⟨hg, h⟩
  | true => exact h.add hg ho hl
theorem addMS_L (R : Ref) (c : List Int) (o : Bool) : (addMS R c o).L.length ≤ R.L.length + 1 := by unfold addMS; split; (show (R.L ++ [c]).length ≤ _; simp); omega

/-- Follow. -/
theorem Follow_all (h : Both W w M S b p T R) (hg : Good n T) :
    Calls Try.prog 28 #[.pointer (some ⟨b, 0, none⟩)] w fun e w' => e = .returned (.tuple #[.int .i64 (followT T).1.1, .bool (followT T).1.2]) ∧ Keep S w w' ∧ Both W w' M S b p (followT T).2 R := by
  refine (Follow_any h.t hg).mono ?_
  rintro e w' ⟨rfl, hk, ht⟩
  exact ⟨rfl, h.keepS hk, h.tcall hk ht⟩
theorem FollowM_all (h : Both W w M S b p T R) (hg : GoodR R) :
    Calls Try.prog 39 #[.pointer (some ⟨p, 0, none⟩)] w fun e w' => (e = .returned (.bool false) ∧ Bad R.n R.L (givenTo R.A R.A.length) ∧ MPost W w S b p T R w') ∨ ∃ A', e = .returned (.bool true) ∧ Told R.n R.L (givenTo R.A R.A.length) A' ∧ MPost W w S b p T (knownM R A') w' := by
  refine (FollowM_any h.r hg).mono ?_
  rintro e w' hcase
  rcases hcase with ⟨rfl, hb, hp⟩ | ⟨A', rfl, ht, hp⟩
  · exact .inl ⟨rfl, hb, h.mcall hp⟩
  · exact .inr ⟨A', rfl, ht, h.mcall hp⟩
end Go.Proofs.Ytngegkgmenfelaa
