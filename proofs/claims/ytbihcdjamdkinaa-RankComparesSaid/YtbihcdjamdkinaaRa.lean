/-
  A Rank, told of its activities and of those that are in: New, Bump, Take, Put, Has, Of, Scaled, Len.
-/
import Derived.Test.YtbihcdjamdkinaaWl
namespace Go.Proofs.Ytbihcdjamdkinaa
open Go.RowKit Go.Lib

/-- A Rank at block b, of n variables: A: their activities (0: none's); I: which are in; sc: how often all were halved. None of it lies in the blocks of B. -/
structure RankAt (w : World) (B : Nat → Prop) (b n : Nat) (A : List Int) (I : Nat → Bool) (sc : Int) : Prop where
  ex : ∃ lv pv av L P, QAt w B b lv pv av L P A sc ∧ HInv n L P A I
  bd : ∀ j, 0 ≤ A.getD j 0 ∧ A.getD j 0 ≤ 1125899906842624
  hn : n ≤ 20000
  hsc : 0 ≤ sc

theorem RankAt.len {w : World} {B : Nat → Prop} {b n : Nat} {A : List Int} {I : Nat → Bool} {sc : Int} (h : RankAt w B b n A I sc) : A.length = n + 1 := by
  obtain ⟨_, _, _, _, _, _, hI⟩ := h.ex
  exact hI.inv.lenA
theorem RankAt.below {w w' : World} {B : Nat → Prop} {b n : Nat} {A : List Int} {I : Nat → Bool} {sc : Int} (h : RankAt w B b n A I sc) (hb : Below w.heap.size w w') : RankAt w' B b n A I sc := by
  obtain ⟨lv, pv, av, L, P, hq, hI⟩ := h.ex
  exact { h with ex := ⟨lv, pv, av, L, P, hq.below hb (Nat.le_refl _), hI⟩ }
theorem RankAt.there {w : World} {B : Nat → Prop} {b n : Nat} {A : List Int} {I : Nat → Bool} {sc : Int} (h : RankAt w B b n A I sc) : There B w := by
  obtain ⟨lv, pv, av, L, P, hq, hI⟩ := h.ex
  exact hq.lt
theorem RankAt.at {w : World} {B : Nat → Prop} {b n : Nat} {A : List Int} {I : Nat → Bool} {sc : Int} (h : RankAt w B b n A I sc) : b < w.heap.size := by
  obtain ⟨lv, pv, av, L, P, hq, hI⟩ := h.ex
  exact lt_of_block hq.box

theorem OwnI.kept {w w' : World} {v : Value} {es : List Int} (h : OwnI w 0 v es) (hk : ∀ k, v.ownBlock = some k → w'.heap[k]? = w.heap[k]?) : OwnI w' 0 v es := by
  obtain ⟨h1, h2⟩ := h
  refine ⟨h1, ?_⟩
  rcases h2 with h2 | ⟨g, cap, cur, hv, hg, hh, r⟩
  · exact .inl h2
  · exact .inr ⟨g, cap, cur, hv, hg, by rw [hk g (by rw [hv]; rfl)]; exact hh, r⟩

/-- All that lies outside B is kept; B may be another then. -/
theorem QAt.kept {w w' : World} {B B' : Nat → Prop} {b : Nat} {lv pv av : Value} {L P A : List Int} {sc : Int} (h : QAt w B b lv pv av L P A sc) (hk : ∀ k, k < w.heap.size → ¬ B k → w'.heap[k]? = w.heap[k]?) (hB : ∀ k, k < w.heap.size → B' k → B k) (ht : There B' w') : QAt w' B' b lv pv av L P A sc := by
  have hb := lt_of_block h.box
  have ol : ∀ k, lv.ownBlock = some k → k < w.heap.size := fun k e => (h.l.lt k e).2
  have op : ∀ k, pv.ownBlock = some k → k < w.heap.size := fun k e => (h.p.lt k e).2
  have oa : ∀ k, av.ownBlock = some k → k < w.heap.size := fun k e => (h.a.lt k e).2
  exact
    { h with
      box := by rw [hk b hb h.base]; exact h.box
      l := h.l.kept fun k e => hk k (ol k e) (h.nl k e)
      p := h.p.kept fun k e => hk k (op k e) (h.np k e)
      a := h.a.kept fun k e => hk k (oa k e) (h.na k e)
      base := fun e => h.base (hB b hb e)
      nl := fun k e e' => h.nl k e (hB k (ol k e) e')
      np := fun k e e' => h.np k e (hB k (op k e) e')
      na := fun k e e' => h.na k e (hB k (oa k e) e')
      lt := ht }
theorem RankAt.kept {w w' : World} {B B' : Nat → Prop} {b n : Nat} {A : List Int} {I : Nat → Bool} {sc : Int} (h : RankAt w B b n A I sc) (hk : ∀ k, k < w.heap.size → ¬ B k → w'.heap[k]? = w.heap[k]?) (hB : ∀ k, k < w.heap.size → B' k → B k) (ht : There B' w') : RankAt w' B' b n A I sc := by
  obtain ⟨lv, pv, av, L, P, hq, hI⟩ := h.ex
  exact { h with ex := ⟨lv, pv, av, L, P, hq.kept hk hB ht, hI⟩ }

/-! ### what Bump does -/
def over (A : List Int) (v : Nat) (y : Int) : Bool := decide (1125899906842624 < A.getD v 0 + y)
def bumpA (A : List Int) (v : Nat) (y : Int) : List Int := if over A v y then halfTo (A.set v (A.getD v 0 + y)) A.length else A.set v (A.getD v 0 + y)
def bumpS (A : List Int) (v : Nat) (y sc : Int) : Int := if over A v y then sc + 1 else sc

theorem bump_len (A : List Int) (v : Nat) (y : Int) : (bumpA A v y).length = A.length := by
  unfold bumpA; split
  · rw [halfTo_len, List.length_set]
  · rw [List.length_set]
theorem bump_bd {A : List Int} {v : Nat} {y : Int} (h : ∀ j, 0 ≤ A.getD j 0 ∧ A.getD j 0 ≤ 1125899906842624) (hv : v < A.length) (hy : 0 ≤ y ∧ y ≤ 1099511627776) (j : Nat) : 0 ≤ (bumpA A v y).getD j 0 ∧ (bumpA A v y).getD j 0 ≤ 1125899906842624 := by
  have hs : ∀ j, 0 ≤ (A.set v (A.getD v 0 + y)).getD j 0 ∧ (A.set v (A.getD v 0 + y)).getD j 0 ≤ 1126999418470400 := fun j => by
    have := h v
    by_cases e : v = j
    · subst e; rw [getD_set_eq hv]; omega
    · rw [getD_set_ne e]; have := h j; omega
  unfold bumpA over
  split
  · rename_i ho
    by_cases hj : j < A.length
    · rw [halfTo_lt _ _ _ hj (by rw [List.length_set]; exact hj)]
      have := hs j; omega
    · have : (halfTo (A.set v (A.getD v 0 + y)) A.length).getD j 0 = 0 := by
        rw [List.getD_eq_getElem?_getD, List.getElem?_eq_none (by rw [halfTo_len, List.length_set]; omega)]; rfl
      rw [this]; omega
  · rename_i ho
    have ho' := of_decide_eq_false (Bool.eq_false_iff.2 ho)
    by_cases e : v = j
    · subst e; rw [getD_set_eq hv]; have := h v; omega
    · rw [getD_set_ne e]; have := h j; omega

section
variable {w : World} {B : Nat → Prop} {b n : Nat} {A : List Int} {I : Nat → Bool} {sc : Int}

theorem Bump_err (h : RankAt w B b n A I sc) (v y : Int) (hv : v < 1 ∨ (n : Int) < v ∨ y < 0 ∨ 1099511627776 < y) : Calls Try.prog 19 #[.pointer (some ⟨b, 0, none⟩), .int .i64 v, .int .i64 y] w fun e w' => e = .returned (.int .i64 1) ∧ w' = w := by
  obtain ⟨lv, pv, av, L, P, hq, hI⟩ := h.ex
  have hl := hI.inv.lenA
  by_cases h1 : v < 1 ∨ (n : Int) < v
  · exact Bump_no hq v y (by omega)
  · obtain ⟨u, rfl⟩ := Int.eq_ofNat_of_zero_le (show 0 ≤ v by omega)
    exact Bump_bad hq u y (by omega) (by omega) (by omega)

theorem Bump_ok (h : RankAt w B b n A I sc) (v : Nat) (y : Int) (h1 : 1 ≤ v) (h2 : v ≤ n) (hy : 0 ≤ y ∧ y ≤ 1099511627776) (hs : sc ≤ 1000000) :
    Calls Try.prog 19 #[.pointer (some ⟨b, 0, none⟩), .int .i64 v, .int .i64 y] w fun e w' => e = .returned (.int .i64 0) ∧ Keep B w w' ∧ RankAt w' B b n (bumpA A v y) I (bumpS A v y sc) := by
  obtain ⟨lv, pv, av, L, P, hq, hI⟩ := h.ex
  have hl := hI.inv.lenA
  have hbd := fun j => bump_bd h.bd (v := v) (by omega) hy j
  have hll : L.length ≤ 20000 := by rw [hI.len]; exact Nat.le_trans (cnt_le _ _) h.hn
  have hA1 : (A.set v (A.getD v 0 + y)).length = n + 1 := by rw [List.length_set]; exact hl
  cases ho : over A v y with
  | false =>
    have ho' := of_decide_eq_false ho
    have eA : bumpA A v y = A.set v (A.getD v 0 + y) := by unfold bumpA; rw [ho]; rfl
    have eS : bumpS A v y sc = sc := by unfold bumpS; rw [ho]; rfl
    rw [eA] at hbd ⊢
    rw [eS]
    have hB := hI.bump h1 h2 hy.1 rfl
    refine (Bump_low hq hI.inv v y h1 h2 hy h.hn hll (h.bd v) (hI.inv.act hA1) (maxTo_le n fun j _ => ?_) (hI.lt h1 h2)).mono ?_
    · exact (hbd j).2
    · rintro e w' ⟨he, hk, hq'⟩
      exact ⟨he, hk, ⟨_, _, _, _, _, hq', hB⟩, hbd, h.hn, h.hsc⟩
  | true =>
    have ho' := of_decide_eq_true ho
    have eA : bumpA A v y = halfTo (A.set v (A.getD v 0 + y)) (n + 1) := by unfold bumpA; rw [ho, hl]; rfl
    have eS : bumpS A v y sc = sc + 1 := by unfold bumpS; rw [ho]; rfl
    rw [eA] at hbd ⊢
    rw [eS]
    have hA2 : (halfTo (A.set v (A.getD v 0 + y)) (n + 1)).length = n + 1 := by rw [halfTo_len]; exact hA1
    have hS := hI.settle hA2 (f := 30000) (by omega)
    obtain ⟨U, hU⟩ : ∃ U, setF (halfTo (A.set v (A.getD v 0 + y)) (n + 1)) 30000 L.length L P = U := ⟨_, rfl⟩
    rw [hU] at hS
    have hlen : U.1.length = L.length := by rw [hS.len, hI.len]
    have hT : HInv n (if 0 ≤ U.2.getD v 0 then upF (halfTo (A.set v (A.getD v 0 + y)) (n + 1)) ((U.2.getD v 0).toNat + 1) (U.2.getD v 0).toNat U.1 U.2 else U).1
        (if 0 ≤ U.2.getD v 0 then upF (halfTo (A.set v (A.getD v 0 + y)) (n + 1)) ((U.2.getD v 0).toNat + 1) (U.2.getD v 0).toNat U.1 U.2 else U).2 (halfTo (A.set v (A.getD v 0 + y)) (n + 1)) I := by
      split
      · have := hS.lt h1 h2
        exact hS.upSame (by omega)
      · exact hS
    refine (Bump_high hq hI.inv v y h1 h2 hy h.hn hll h.bd ho' ⟨h.hsc, hs⟩ hU hS.inv (hS.lt h1 h2) hlen rfl).mono ?_
    rintro e w' ⟨he, hk, hq'⟩
    exact ⟨he, hk, ⟨_, _, _, _, _, hq', hT⟩, hbd, h.hn, by have := h.hsc; omega⟩

theorem New_no (n : Int) (w : World) (hn : n < 0 ∨ 20000 < n) : Calls Try.prog 16 #[.int .i64 n] w fun e w' => e = .returned (.tuple #[.pointer none, .int .i64 1]) ∧ w' = w := New_bad n w hn

/-- A new one's activities; all are in. -/
def newA (n : Nat) : List Int := List.replicate (n + 1) 0
def allI : Nat → Bool := fun _ => true
theorem newA_getD (n j : Nat) : (newA n).getD j 0 = 0 := by
  unfold newA
  rw [List.getD_eq_getElem?_getD]
  by_cases h : j < n + 1
  · simp [h]
  · rw [List.getElem?_eq_none (by simp; omega)]; rfl

theorem New_ok (n : Nat) (w : World) (hn : n ≤ 20000) (B : Nat → Prop) (hB : There B w) : Calls Try.prog 16 #[.int .i64 n] w fun e w' => ∃ b, e = .returned (.tuple #[.pointer (some ⟨b, 0, none⟩), .int .i64 0]) ∧ Keep B w w' ∧ w.heap.size ≤ b ∧ RankAt w' B b n (newA n) allI 0 := by
  refine (New_good n w hn B hB).mono ?_
  rintro e w' ⟨b, lv, pv, av, L, P, he, hk, hb, hq, hI⟩
  have all : ∀ v, 1 ≤ v → v ≤ n → upToI n v = true := fun v _ h => by unfold upToI; simpa using h
  refine ⟨b, he, hk, hb, ⟨lv, pv, av, L, P, hq, ⟨hI.inv, hI.heap, fun v a c => ?_, fun v a c hv => by simp [allI] at hv, ?_⟩⟩, fun j => ?_, hn, Int.le_refl _⟩
  · rw [← hI.mem v a c, all v a c]; rfl
  · rw [hI.len, cnt_all all]; exact (cnt_all (I := allI) (fun _ _ _ => rfl)).symm
  · rw [newA_getD]; omega

/-! ### the first -/
def topF (A : List Int) (I : Nat → Bool) : Nat → Nat
  | 0 => 0
  | k + 1 => if I (k + 1) = true ∧ (topF A I k = 0 ∨ A.getD (topF A I k) 0 < A.getD (k + 1) 0) then k + 1 else topF A I k
/-- The one of those that are in that is ahead of all. -/
structure Best (n : Nat) (A : List Int) (I : Nat → Bool) (v : Nat) : Prop where
  lo : 1 ≤ v
  hi : v ≤ n
  is : I v = true
  le : ∀ u, 1 ≤ u → u ≤ n → I u = true → ahd A u v = false
theorem Best.one {n : Nat} {A : List Int} {I : Nat → Bool} {u v : Nat} (h : Best n A I u) (k : Best n A I v) : u = v := by
  have a := h.le v k.lo k.hi k.is
  have b := k.le u h.lo h.hi h.is
  rw [ahd_no] at a b; omega
theorem topF_best (A : List Int) (I : Nat → Bool) : ∀ n, (topF A I n = 0 ∧ ∀ v, 1 ≤ v → v ≤ n → I v = false) ∨ (topF A I n ≠ 0 ∧ Best n A I (topF A I n))
  | 0 => .inl ⟨rfl, fun v h1 h2 => by omega⟩
  | k + 1 => by
    rcases topF_best A I k with ⟨e, hno⟩ | ⟨e, hb⟩
    · cases hi : I (k + 1) with
      | true =>
        right
        unfold topF
        rw [e, if_pos ⟨hi, .inl rfl⟩]
        refine ⟨by omega, by omega, Nat.le_refl _, hi, fun u a b hu => ?_⟩
        by_cases eu : u = k + 1
        · subst eu; rw [ahd_no]; omega
        · rw [hno u a (by omega)] at hu; cases hu
      | false =>
        left
        unfold topF
        rw [if_neg (fun h => by rw [hi] at h; cases h.1)]
        refine ⟨e, fun v a b => ?_⟩
        by_cases eu : v = k + 1
        · subst eu; exact hi
        · exact hno v a (by omega)
    · right
      have hle := hb.le
      by_cases hc : I (k + 1) = true ∧ (topF A I k = 0 ∨ A.getD (topF A I k) 0 < A.getD (k + 1) 0)
      · unfold topF
        rw [if_pos hc]
        refine ⟨by omega, by omega, Nat.le_refl _, hc.1, fun u a b hu => ?_⟩
        have hlt : A.getD (topF A I k) 0 < A.getD (k + 1) 0 := by rcases hc.2 with h | h; exact absurd h e; exact h
        by_cases eu : u = k + 1
        · subst eu; rw [ahd_no]; omega
        · have := hle u a (by omega) hu
          rw [ahd_no] at this ⊢; omega
      · unfold topF
        rw [if_neg hc]
        refine ⟨e, hb.lo, by have := hb.hi; omega, hb.is, fun u a b hu => ?_⟩
        by_cases eu : u = k + 1
        · subst eu
          have : ¬ A.getD (topF A I k) 0 < A.getD (k + 1) 0 := fun h => hc ⟨hu, .inr h⟩
          have := hb.hi
          rw [ahd_no]; omega
        · exact hle u a (by omega) hu

set_option maxRecDepth 100000 in
set_option maxHeartbeats 1000000 in
theorem Take_none (h : RankAt w B b n A I sc) (h0 : topF A I n = 0) : Calls Try.prog 20 #[.pointer (some ⟨b, 0, none⟩)] w fun e w' => e = .returned (.tuple #[.int .i64 0, .bool false]) ∧ w' = w := by
  obtain ⟨lv, pv, av, L, P, hq, hI⟩ := h.ex
  have hl : L.length = 0 := by
    rw [hI.len]
    rcases topF_best A I n with ⟨_, hno⟩ | ⟨e, _⟩
    · cases hc : cnt I n with
      | zero => rfl
      | succ k =>
        have hp : 0 < L.length := by rw [hI.len, hc]; omega
        obtain ⟨_, b1, b2, _⟩ := hI.inv.var hp
        have := (hI.mem _ b1 b2).2 ⟨0, hp, rfl⟩
        rw [hno _ b1 b2] at this; cases this
    · exact absurd h0 e
  obtain ⟨la, lc, rfl⟩ := hq.l.form
  have b0 := hq.c0
  rw [hl] at b0
  clear hq hI hl h h0
  go_enter Try.func20, Try.ntmps20
  go_wp2_with fail
  go_ret2
  exact ⟨rfl, rfl⟩

set_option maxRecDepth 100000 in
set_option maxHeartbeats 1000000 in
theorem Take_some (h : RankAt w B b n A I sc) (h0 : topF A I n ≠ 0) : Calls Try.prog 20 #[.pointer (some ⟨b, 0, none⟩)] w fun e w' => e = .returned (.tuple #[.int .i64 (topF A I n : Nat), .bool true]) ∧ Keep B w w' ∧ RankAt w' B b n A (upd I (topF A I n) false) sc := by
  obtain ⟨lv, pv, av, L, P, hq, hI⟩ := h.ex
  have hb : Best n A I (topF A I n) := by
    rcases topF_best A I n with ⟨e, _⟩ | ⟨_, hb⟩
    · exact absurd e h0
    · exact hb
  have hp : 0 < L.length := by
    obtain ⟨i, hi, _⟩ := hI.in_ hb.lo hb.hi hb.is
    omega
  obtain ⟨_, b1, b2, _⟩ := hI.inv.var hp
  have e0 : at_ L 0 = topF A I n := Best.one ⟨b1, b2, (hI.mem _ b1 b2).2 ⟨0, hp, rfl⟩, hI.top⟩ hb
  have hll : L.length ≤ 20000 := by rw [hI.len]; exact Nat.le_trans (cnt_le _ _) h.hn
  have HT := hI.take hp (f := 30000) (by omega)
  have T := Lib.hid (take_any hq hI.inv hp (by omega) 30000 (by omega))
  rw [e0] at T HT
  have HH := Lib.hid HT
  have HR := Lib.hid h
  obtain ⟨la, lc, rfl⟩ := hq.l.form
  have b0 := hq.c0
  obtain ⟨ll, hlen⟩ : ∃ ll, L.length = ll := ⟨_, rfl⟩
  rw [hlen] at b0 hp
  have hne : ((ll : Int) == 0) = false := by simp; omega
  generalize topF A I n = t at *
  clear hq hI hll HT hb e0 h h0 b1 b2 hlen
  go_enter Try.func20, Try.ntmps20
  go_wp2_with (go_at_call 41; refine T.out.mono ?_; rintro e w' ⟨rfl, hk, lv', hq⟩; have HK := Lib.hid hk; have HQ := Lib.hid hq; clear hk hq)
  go_ret2
  exact ⟨rfl, HK.out, ⟨⟨_, _, _, _, _, HQ.out, HH.out⟩, HR.out.bd, HR.out.hn, HR.out.hsc⟩⟩

/-- Is v a variable that is in? -/
def hasV (n : Nat) (I : Nat → Bool) (v : Int) : Bool := decide (1 ≤ v ∧ v ≤ n) && I v.toNat
def ofV (n : Nat) (A : List Int) (v : Int) : Int := if 1 ≤ v ∧ v ≤ n then A.getD v.toNat 0 else 0

theorem rHas (h : RankAt w B b n A I sc) (v : Int) : Calls Try.prog 27 #[.pointer (some ⟨b, 0, none⟩), .int .i64 v] w fun e w' => e = .returned (.bool (hasV n I v)) ∧ w' = w := by
  obtain ⟨lv, pv, av, L, P, hq, hI⟩ := h.ex
  have hl := hI.inv.lenA
  by_cases hv : 1 ≤ v ∧ v ≤ n
  · obtain ⟨u, rfl⟩ := Int.eq_ofNat_of_zero_le (show 0 ≤ v by omega)
    have e : hasV n I (u : Int) = decide (0 ≤ P.getD u 0) := by
      unfold hasV
      rw [hI.has (by omega) (by omega), decide_eq_true hv]; rfl
    rw [e]
    exact Has_yes hq u (by omega) (by omega) (by rw [hI.inv.lenP]; omega)
  · have e : hasV n I v = false := by unfold hasV; rw [decide_eq_false hv]; rfl
    rw [e]
    exact Has_no hq v (by omega)

theorem rOf (h : RankAt w B b n A I sc) (v : Int) : Calls Try.prog 17 #[.pointer (some ⟨b, 0, none⟩), .int .i64 v] w fun e w' => e = .returned (.int .i64 (ofV n A v)) ∧ w' = w := by
  obtain ⟨lv, pv, av, L, P, hq, hI⟩ := h.ex
  have hl := hI.inv.lenA
  by_cases hv : 1 ≤ v ∧ v ≤ n
  · obtain ⟨u, rfl⟩ := Int.eq_ofNat_of_zero_le (show 0 ≤ v by omega)
    rw [show ofV n A (u : Int) = A.getD u 0 from if_pos hv]
    exact Of_yes hq u (by omega) (by omega)
  · rw [show ofV n A v = 0 from if_neg hv]
    exact Of_no hq v (by omega)

theorem rScaled (h : RankAt w B b n A I sc) : Calls Try.prog 18 #[.pointer (some ⟨b, 0, none⟩)] w fun e w' => e = .returned (.int .i64 sc) ∧ w' = w := by
  obtain ⟨lv, pv, av, L, P, hq, hI⟩ := h.ex
  exact Scaled_any hq

theorem rLen (h : RankAt w B b n A I sc) : Calls Try.prog 22 #[.pointer (some ⟨b, 0, none⟩)] w fun e w' => e = .returned (.int .i64 (cnt I n : Nat)) ∧ w' = w := by
  obtain ⟨lv, pv, av, L, P, hq, hI⟩ := h.ex
  rw [← hI.len]
  exact Len_any hq

theorem Put_no (h : RankAt w B b n A I sc) (v : Int) (hv : v < 1 ∨ (n : Int) < v) : Calls Try.prog 21 #[.pointer (some ⟨b, 0, none⟩), .int .i64 v] w fun e w' => e = .returned (.int .i64 1) ∧ w' = w := by
  obtain ⟨lv, pv, av, L, P, hq, hI⟩ := h.ex
  have hl := hI.inv.lenA
  have C := Lib.hid (is_no hq v (by omega))
  clear hq hI h hv hl
  go_enter Try.func21, Try.ntmps21
  go_wp2_with (go_at_call 37; refine C.out.mono ?_; rintro e w' ⟨rfl, rfl⟩)
  go_ret
  exact ⟨rfl, rfl⟩

theorem Put_there (h : RankAt w B b n A I sc) (v : Nat) (h1 : 1 ≤ v) (h2 : v ≤ n) (hv : I v = true) : Calls Try.prog 21 #[.pointer (some ⟨b, 0, none⟩), .int .i64 v] w fun e w' => e = .returned (.int .i64 7) ∧ w' = w := by
  have H := Lib.hid (rHas h v)
  rw [show hasV n I (v : Int) = true from by unfold hasV; rw [decide_eq_true (by omega), Int.toNat_natCast, hv]; rfl] at H
  obtain ⟨lv, pv, av, L, P, hq, hI⟩ := h.ex
  have hl := hI.inv.lenA
  have C := Lib.hid (is_yes hq v h1 (by omega))
  clear hq hI h hl hv
  go_enter Try.func21, Try.ntmps21
  go_wp2_with (first
    | (go_at_call 37; refine C.out.mono ?_; rintro e w' ⟨rfl, rfl⟩)
    | (go_at_call 27; refine H.out.mono ?_; rintro e w' ⟨rfl, rfl⟩))
  go_ret
  exact ⟨rfl, rfl⟩

theorem Put_ok (h : RankAt w B b n A I sc) (v : Nat) (h1 : 1 ≤ v) (h2 : v ≤ n) (hv : I v = false) : Calls Try.prog 21 #[.pointer (some ⟨b, 0, none⟩), .int .i64 v] w fun e w' => e = .returned (.int .i64 0) ∧ Keep B w w' ∧ RankAt w' B b n A (upd I v true) sc := by
  have H := Lib.hid (rHas h v)
  rw [show hasV n I (v : Int) = false from by unfold hasV; rw [Int.toNat_natCast, hv, Bool.and_false]] at H
  obtain ⟨lv, pv, av, L, P, hq, hI⟩ := h.ex
  have hl := hI.inv.lenA
  have hll : L.length ≤ 20000 := by rw [hI.len]; exact Nat.le_trans (cnt_le _ _) h.hn
  have C := Lib.hid (is_yes hq v h1 (by omega))
  have HN := Lib.hid (hI.put h1 h2 hv)
  have T := Lib.hid (put_any hq v (by rw [hI.inv.lenP]; omega) (by omega) (hI.inv.push h1 h2 (hI.not h1 h2 hv)))
  have HR := Lib.hid h
  clear hq hI h hl hv hll
  go_enter Try.func21, Try.ntmps21
  go_wp2_with (first
    | (go_at_call 37; refine C.out.mono ?_; rintro e w' ⟨rfl, rfl⟩)
    | (go_at_call 27; refine H.out.mono ?_; rintro e w' ⟨rfl, rfl⟩)
    | (go_at_call 36; refine T.out.mono ?_; rintro e w' ⟨rfl, hk, lv', hq⟩; have HK := Lib.hid hk; have HQ := Lib.hid hq; clear hk hq))
  go_ret
  exact ⟨rfl, HK.out, ⟨⟨_, _, _, _, _, HQ.out, HN.out⟩, HR.out.bd, HR.out.hn, HR.out.hsc⟩⟩
end
end Go.Proofs.Ytbihcdjamdkinaa
