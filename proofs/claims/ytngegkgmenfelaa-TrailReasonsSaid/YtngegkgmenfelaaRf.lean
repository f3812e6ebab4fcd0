/-
  The document's trail: Follow.
-/
import Derived.Test.YtngegkgmenfelaaRe
namespace Go.Proofs.Ytngegkgmenfelaa
open Go.RowKit Go.Lib
attribute [local go_sem ↓] Go.wp_at_zero Go.wp_at_succ

set_option maxRecDepth 100000 in
set_option maxHeartbeats 4000000 in
theorem follow_units {w : World} {p n lq lc : Nat} {la : Option Addr} {RP : Value → Value → World → Prop} (u1 u2 u3 u4 u5 u6 u7 u8 u9 u10 u11 u12 u13 u14 u15 u16 u17 u18 u19 u20 u21 u22 u23 u24 : Value) (Q : Exit → Act → World → Prop) (hp : p < w.heap.size) (HC : Hid (∀ w', Below w.heap.size w w' → w'.cell? ⟨p, 0, none⟩ = some (.int .i64 (n : Nat)) ∧ w'.cell? ⟨p, 1, none⟩ = some (.slice la lq lc)))
    (HG : Hid (∀ w', Below w.heap.size w w' → Calls Try.prog 62 #[.pointer (some ⟨p, 0, none⟩)] w' fun e w1 => ∃ ga gl gc, e = .returned (.slice ga gl gc) ∧ Below w.heap.size w w1 ∧
      Hid (∀ w3, Below w1.heap.size w1 w3 → Calls Try.prog 61 #[.int .i64 (n : Nat), .slice la lq lc, .slice ga gl gc] w3 fun e w2 => ∃ va vl vc ok, e = .returned (.tuple #[.slice va vl vc, .bool ok]) ∧ Hid (RP (.slice va vl vc) (.bool ok) w2) ∧ Below w.heap.size w w2)))
    (hQ : ∀ (v3 v4 v5 v6 v7 v8 v9 v10 v11 v12 v13 v14 v15 v16 v17 v18 : Value) (w' : World), RP v3 v4 w' → Q .normal ⟨#[.pointer (some ⟨p, 0, none⟩), u1, u2, v3, v4, v5, v6, v7, v8, v9, v10, v11, v12, v13, v14, v15, v16, v17, v18, u19, u20, u21, u22, u23, u24], []⟩ w') :
    (Code.region 1 #[{ dst := some 6, op := Op.move (Operand.tmp 0), type := 38, pos := "ref.go:85", after := #[], guard := none }, { dst := some 7, op := Op.nilCheck (Operand.tmp 6), type := 0, pos := "ref.go:85", after := #[{ on := 0, ground := Ground.data }], guard := none }, { dst := some 8, op := Op.fieldAddr 48 (Operand.tmp 7) 0, type := 0, pos := "ref.go:85", after := #[{ on := 1, ground := Ground.data }], guard := none }, { dst := some 9, op := Op.load 3 (Operand.tmp 8), type := 3, pos := "ref.go:85", after := #[{ on := 2, ground := Ground.data }], guard := none }, { dst := some 10, op := Op.move (Operand.tmp 0), type := 38, pos := "ref.go:85", after := #[], guard := none }, { dst := some 11, op := Op.nilCheck (Operand.tmp 10), type := 0, pos := "ref.go:85", after := #[{ on := 4, ground := Ground.data }], guard := none }, { dst := some 12, op := Op.fieldAddr 48 (Operand.tmp 11) 1, type := 0, pos := "ref.go:85", after := #[{ on := 5, ground := Ground.data }], guard := none }, { dst := some 13, op := Op.load 22 (Operand.tmp 12), type := 22, pos := "ref.go:85", after := #[{ on := 6, ground := Ground.data }], guard := none }, { dst := some 14, op := Op.move (Operand.tmp 0), type := 38, pos := "ref.go:85", after := #[], guard := none }, { dst := some 15, op := Op.call { callee := Callee.value (Operand.func 62), args := #[Operand.tmp 14], argTypes := #[38] }, type := 23, pos := "ref.go:85", after := #[{ on := 8, ground := Ground.data }], guard := none }, { dst := some 16, op := Op.call { callee := Callee.value (Operand.func 61), args := #[Operand.tmp 9, Operand.tmp 13, Operand.tmp 15], argTypes := #[3, 22, 23] }, type := 57, pos := "ref.go:85", after := #[{ on := 3, ground := Ground.data }, { on := 7, ground := Ground.data }, { on := 9, ground := Ground.data }, { on := 9, ground := Ground.chain }], guard := none }, { dst := some 5, op := Op.move (Operand.tmp 16), type := 57, pos := "ref.go:85", after := #[{ on := 10, ground := Ground.data }], guard := none }, { dst := some 17, op := Op.extract (Operand.tmp 5) 0, type := 23, pos := "ref.go:85", after := #[{ on := 11, ground := Ground.data }], guard := none }, { dst := some 18, op := Op.extract (Operand.tmp 5) 1, type := 4, pos := "ref.go:85", after := #[{ on := 11, ground := Ground.data }, { on := 14, ground := Ground.gcOnly Departure.lateStores }], guard := none }, { dst := some 3, op := Op.assign (Operand.tmp 17), type := 23, pos := "ref.go:85", after := #[{ on := 12, ground := Ground.data }, { on := 10, ground := Ground.chain }, { on := 0, ground := Ground.phase }, { on := 1, ground := Ground.phase }, { on := 2, ground := Ground.phase }, { on := 3, ground := Ground.phase }, { on := 4, ground := Ground.phase }, { on := 5, ground := Ground.phase }, { on := 6, ground := Ground.phase }, { on := 7, ground := Ground.phase }, { on := 8, ground := Ground.phase }, { on := 9, ground := Ground.phase }, { on := 10, ground := Ground.phase }, { on := 11, ground := Ground.phase }, { on := 12, ground := Ground.phase }, { on := 13, ground := Ground.textOnly Departure.lateStores }], guard := none }, { dst := some 4, op := Op.assign (Operand.tmp 18), type := 4, pos := "ref.go:85", after := #[{ on := 13, ground := Ground.data }, { on := 14, ground := Ground.chain }, { on := 0, ground := Ground.phase }, { on := 1, ground := Ground.phase }, { on := 2, ground := Ground.phase }, { on := 3, ground := Ground.phase }, { on := 4, ground := Ground.phase }, { on := 5, ground := Ground.phase }, { on := 6, ground := Ground.phase }, { on := 7, ground := Ground.phase }, { on := 8, ground := Ground.phase }, { on := 9, ground := Ground.phase }, { on := 10, ground := Ground.phase }, { on := 11, ground := Ground.phase }, { on := 12, ground := Ground.phase }, { on := 13, ground := Ground.phase }, { on := 14, ground := Ground.phase }], guard := none }] true).wp Try.prog Q ⟨#[.pointer (some ⟨p, 0, none⟩), u1, u2, u3, u4, u5, u6, u7, u8, u9, u10, u11, u12, u13, u14, u15, u16, u17, u18, u19, u20, u21, u22, u23, u24], []⟩ w := by
  refine wp_region_noPanic ?_
  refine wp_region_held_drew (S := (fun w' => w'.cell? ⟨p, 0, none⟩ = some (.int .i64 (n : Nat)) ∧ w'.cell? ⟨p, 1, none⟩ = some (.slice la lq lc))) (by kernel_rfl) ?_ (fun hHeld => ?_)
  · (try dsimp only)
    first | (with_reducible exact HC.out _ ((Below.refl _ _).drew)) | (with_reducible exact HC.out _ (Below.refl _ _)) | (with_reducible exact HC.out _ b1) | (with_reducible exact HC.out _ b2)
  refine wpAnyH_take (i := 0) (v := ?_) rfl (by kernel_rfl) (by kernel_rfl) (by kernel_rfl) (fun _ _ _ h => h) (Or.inl ⟨by kernel_rfl, ?_⟩) (by assumption) ?_
  rotate_left
  · intro w hSw
    (try dsimp only at hSw)
    go_simp
    (try with_reducible rfl)
  (try simp only [Act.put, List.getElem_toArray, List.getElem_cons_zero, List.getElem_cons_succ, List.setIfInBounds_toArray, List.set_cons_zero, List.set_cons_succ])
  refine wpAnyH_take (i := 1) (v := ?_) rfl (by kernel_rfl) (by kernel_rfl) (by kernel_rfl) (fun _ _ _ h => h) (Or.inl ⟨by kernel_rfl, ?_⟩) (by assumption) ?_
  rotate_left
  · intro w hSw
    (try dsimp only at hSw)
    go_simp
    (try with_reducible rfl)
  (try simp only [Act.put, List.getElem_toArray, List.getElem_cons_zero, List.getElem_cons_succ, List.setIfInBounds_toArray, List.set_cons_zero, List.set_cons_succ])
  refine wpAnyH_take (i := 2) (v := ?_) rfl (by kernel_rfl) (by kernel_rfl) (by kernel_rfl) (fun _ _ _ h => h) (Or.inl ⟨by kernel_rfl, ?_⟩) (by assumption) ?_
  rotate_left
  · intro w hSw
    (try dsimp only at hSw)
    go_simp
    (try with_reducible rfl)
  (try simp only [Act.put, List.getElem_toArray, List.getElem_cons_zero, List.getElem_cons_succ, List.setIfInBounds_toArray, List.set_cons_zero, List.set_cons_succ])
  refine wpAnyH_take (i := 3) (v := ?_) rfl (by kernel_rfl) (by kernel_rfl) (by kernel_rfl) (fun _ _ _ h => h) (Or.inl ⟨by kernel_rfl, ?_⟩) (by assumption) ?_
  rotate_left
  · intro w hSw
    (try dsimp only at hSw)
    go_simp
    (try with_reducible rfl)
  (try simp only [Act.put, List.getElem_toArray, List.getElem_cons_zero, List.getElem_cons_succ, List.setIfInBounds_toArray, List.set_cons_zero, List.set_cons_succ])
  refine wpAnyH_take (i := 4) (v := ?_) rfl (by kernel_rfl) (by kernel_rfl) (by kernel_rfl) (fun _ _ _ h => h) (Or.inl ⟨by kernel_rfl, ?_⟩) (by assumption) ?_
  rotate_left
  · intro w hSw
    (try dsimp only at hSw)
    go_simp
    (try with_reducible rfl)
  (try simp only [Act.put, List.getElem_toArray, List.getElem_cons_zero, List.getElem_cons_succ, List.setIfInBounds_toArray, List.set_cons_zero, List.set_cons_succ])
  refine wpAnyH_take (i := 5) (v := ?_) rfl (by kernel_rfl) (by kernel_rfl) (by kernel_rfl) (fun _ _ _ h => h) (Or.inl ⟨by kernel_rfl, ?_⟩) (by assumption) ?_
  rotate_left
  · intro w hSw
    (try dsimp only at hSw)
    go_simp
    (try with_reducible rfl)
  (try simp only [Act.put, List.getElem_toArray, List.getElem_cons_zero, List.getElem_cons_succ, List.setIfInBounds_toArray, List.set_cons_zero, List.set_cons_succ])
  refine wpAnyH_take (i := 6) (v := ?_) rfl (by kernel_rfl) (by kernel_rfl) (by kernel_rfl) (fun _ _ _ h => h) (Or.inl ⟨by kernel_rfl, ?_⟩) (by assumption) ?_
  rotate_left
  · intro w hSw
    (try dsimp only at hSw)
    go_simp
    (try with_reducible rfl)
  (try simp only [Act.put, List.getElem_toArray, List.getElem_cons_zero, List.getElem_cons_succ, List.setIfInBounds_toArray, List.set_cons_zero, List.set_cons_succ])
  refine wpAnyH_take (i := 7) (v := ?_) rfl (by kernel_rfl) (by kernel_rfl) (by kernel_rfl) (fun _ _ _ h => h) (Or.inl ⟨by kernel_rfl, ?_⟩) (by assumption) ?_
  rotate_left
  · intro w hSw
    (try dsimp only at hSw)
    go_simp
    (try with_reducible rfl)
  (try simp only [Act.put, List.getElem_toArray, List.getElem_cons_zero, List.getElem_cons_succ, List.setIfInBounds_toArray, List.set_cons_zero, List.set_cons_succ])
  refine wpAnyH_take (i := 8) (v := ?_) rfl (by kernel_rfl) (by kernel_rfl) (by kernel_rfl) (fun _ _ _ h => h) (Or.inl ⟨by kernel_rfl, ?_⟩) (by assumption) ?_
  rotate_left
  · intro w hSw
    (try dsimp only at hSw)
    go_simp
    (try with_reducible rfl)
  (try simp only [Act.put, List.getElem_toArray, List.getElem_cons_zero, List.getElem_cons_succ, List.setIfInBounds_toArray, List.set_cons_zero, List.set_cons_succ])
  refine wpAnyH_ready (rs := [9]) (by kernel_rfl) (by simp) ?_
  refine AllReadyH.cons rfl (fun K hK => ?_) ?_
  rotate_left
  exact AllReadyH.nil
  · go_simp
    go_at_call 62
    refine (HG.out _ ((Below.refl _ _).drew)).mono ?_
    rintro e w1 ⟨ga, gl, gc, rfl, b1, HU⟩
    (try go_wp2_with fail)
    refine hK.out _ _ ?_ (fun hHeld => ?_)
    · (try dsimp only)
      first | (with_reducible exact HC.out _ ((Below.refl _ _).drew)) | (with_reducible exact HC.out _ (Below.refl _ _)) | (with_reducible exact HC.out _ b1) | (with_reducible exact HC.out _ b2)
    clear hK K
    (try simp only [Act.put, List.getElem_toArray, List.getElem_cons_zero, List.getElem_cons_succ, List.setIfInBounds_toArray, List.set_cons_zero, List.set_cons_succ])
    refine wpAnyH_ready (rs := [10]) (by kernel_rfl) (by simp) ?_
    refine AllReadyH.cons rfl (fun K hK => ?_) ?_
    rotate_left
    exact AllReadyH.nil
    · go_simp
      go_at_call 61
      refine (HU.out _ (Below.refl _ _)).mono ?_
      rintro e w2 ⟨va, vl, vc, ok, rfl, HRP, b2⟩
      (try go_wp2_with fail)
      refine hK.out _ _ ?_ (fun hHeld => ?_)
      · (try dsimp only)
        first | (with_reducible exact HC.out _ ((Below.refl _ _).drew)) | (with_reducible exact HC.out _ (Below.refl _ _)) | (with_reducible exact HC.out _ b1) | (with_reducible exact HC.out _ b2)
      clear hK K
      (try simp only [Act.put, List.getElem_toArray, List.getElem_cons_zero, List.getElem_cons_succ, List.setIfInBounds_toArray, List.set_cons_zero, List.set_cons_succ])
      refine wpAnyH_take (i := 11) (v := ?_) rfl (by kernel_rfl) (by kernel_rfl) (by kernel_rfl) (fun _ _ _ h => h) (Or.inl ⟨by kernel_rfl, ?_⟩) (by assumption) ?_
      rotate_left
      · intro w hSw
        (try dsimp only at hSw)
        go_simp
        (try with_reducible rfl)
      (try simp only [Act.put, List.getElem_toArray, List.getElem_cons_zero, List.getElem_cons_succ, List.setIfInBounds_toArray, List.set_cons_zero, List.set_cons_succ])
      refine wpAnyH_take (i := 12) (v := ?_) rfl (by kernel_rfl) (by kernel_rfl) (by kernel_rfl) (fun _ _ _ h => h) (Or.inl ⟨by kernel_rfl, ?_⟩) (by assumption) ?_
      rotate_left
      · intro w hSw
        (try dsimp only at hSw)
        go_simp
        (try with_reducible rfl)
      (try simp only [Act.put, List.getElem_toArray, List.getElem_cons_zero, List.getElem_cons_succ, List.setIfInBounds_toArray, List.set_cons_zero, List.set_cons_succ])
      refine wpAnyH_take (i := 13) (v := ?_) rfl (by kernel_rfl) (by kernel_rfl) (by kernel_rfl) (fun _ _ _ h => h) (Or.inl ⟨by kernel_rfl, ?_⟩) (by assumption) ?_
      rotate_left
      · intro w hSw
        (try dsimp only at hSw)
        go_simp
        (try with_reducible rfl)
      (try simp only [Act.put, List.getElem_toArray, List.getElem_cons_zero, List.getElem_cons_succ, List.setIfInBounds_toArray, List.set_cons_zero, List.set_cons_succ])
      refine wpAnyH_take (i := 14) (v := ?_) rfl (by kernel_rfl) (by kernel_rfl) (by kernel_rfl) (fun _ _ _ h => h) (Or.inl ⟨by kernel_rfl, ?_⟩) (by assumption) ?_
      rotate_left
      · intro w hSw
        (try dsimp only at hSw)
        go_simp
        (try with_reducible rfl)
      (try simp only [Act.put, List.getElem_toArray, List.getElem_cons_zero, List.getElem_cons_succ, List.setIfInBounds_toArray, List.set_cons_zero, List.set_cons_succ])
      refine wpAnyH_take (i := 15) (v := ?_) rfl (by kernel_rfl) (by kernel_rfl) (by kernel_rfl) (fun _ _ _ h => h) (Or.inl ⟨by kernel_rfl, ?_⟩) (by assumption) ?_
      rotate_left
      · intro w hSw
        (try dsimp only at hSw)
        go_simp
        (try with_reducible rfl)
      (try simp only [Act.put, List.getElem_toArray, List.getElem_cons_zero, List.getElem_cons_succ, List.setIfInBounds_toArray, List.set_cons_zero, List.set_cons_succ])
      refine wpAnyH_done (by kernel_rfl) ?_ _
      refine NoPanic.normal ?_
      exact hQ _ _ _ _ _ _ _ _ _ _ _ _ _ _ _ _ _ HRP.out


variable {w w' : World} {M S : Nat → Prop} {p : Nat} {R : Ref}

/-- The document's trail as it goes. -/
structure GoodR (R : Ref) : Prop where
  right : rightB (R.n : Int) R.L = true
  lenA : R.A.length = R.n
  three : Three R.A
  n2 : R.n ≤ 20000
  lenK : R.K.length = R.D.length
theorem GoodR.in64 (h : GoodR R) : In64L R.L := fun c hc x hx => by
  obtain ⟨h1, _, h2⟩ := rightB_all h.right
  have := (h2 c hc).2 x hx
  unfold In64; omega

theorem RefAt.clauses (h : RefAt w M S p R) : ∃ la lc, w.cell? ⟨p, 1, none⟩ = some (.slice la R.L.length lc) ∧ ReadsL w (.slice la R.L.length lc) R.L := by
  obtain ⟨val, ct, vA, hm, ht⟩ := h
  have hr := hm.row .L
  obtain ⟨a, c, e, _⟩ := hr.form
  rw [ht.Ll] at e
  refine ⟨a, c, (hm.bcell 1).trans (by rw [← e]; rfl), ?_⟩
  by_cases h0 : 0 < R.L.length
  · obtain ⟨g, c', e', _, _, hg, hc, _⟩ := hr.at (by rw [ht.Ll]; exact h0)
    rw [ht.Ll] at e'
    rw [e'] at e
    injection e with e1 _ e3
    subst e1 e3
    refine .inr ⟨g, 0, c', fun j => (ct .L).getD j undef, rfl, hg, fun j hj => ⟨?_, (ht.L j hj).now⟩⟩
    rw [Nat.zero_add]
    refine hc j _ ?_
    show _ = some ((ct .L).getD j undef)
    rw [List.getD_eq_getElem?_getD, List.getElem?_eq_getElem (by rw [ht.Ll]; exact hj), Option.getD_some]
  · exact .inl ⟨⟨_, _, by rw [show R.L.length = 0 from by omega]⟩, List.length_eq_zero_iff.1 (by omega)⟩

def knownM (R : Ref) (A : List Int) : Ref := { R with A := A }
theorem RefAt.setKnown {v : Value} {A' : List Int} (h : RefAt w M S p R) (hb : Below w.heap.size w w') (hr : Row w' 3 1 v (ints A')) (hf : Fresh w v) :
    w'.frozen? ⟨p, 4, none⟩ = false ∧ (∃ x, w'.cell? ⟨p, 4, none⟩ = some x) ∧ RefPost w M S p (knownM R A') (w'.setCell ⟨p, 4, none⟩ v) := by
  obtain ⟨val, ct, vA, hm, ht⟩ := h
  have hm' := hm.below hb
  have m4 := hm'.setBox 4 v
  have hS : ∀ k, v.ownBlock = some k → ¬ M k ∧ k < (w'.setCell ⟨p, 4, none⟩ v).heap.size := fun k hk => by
    refine ⟨fun hM => ?_, ?_⟩
    · have := hm.tM k hM
      have := hf k hk; omega
    · have := hr.lt k hk; simpa [World.setCell] using this
  have m5 := m4.moreS (S' := fun k => S k ∨ v.ownBlock = some k) (fun k hk => hk.imp id fun hk => hS k hk)
  have o4 := hm'.onlyBox 4 v
  have hoA := (Only.ofBelow (M := M) hb).trans o4 fun i hi => .inl hi
  have hk := hm.onlyKeep hoA
  have hne : ∀ k, v.ownBlock = some k → k ≠ p := fun k hv e => by
    have := hf k hv; have := hm.size; omega
  refine ⟨hm'.bfr 4, ⟨vA, hm'.bcell 4⟩, M, fun k => S k ∨ v.ownBlock = some k, ⟨val, ct, v, ?_, ?_⟩, hoA, fun k h => h, fun k h => .inl h, fun k hk => ?_⟩
  · have e : boxR (knownM R A').n val v = (boxR R.n val vA).setIfInBounds 4 v := by simp [boxR, knownM]
    rw [e]; exact m5
  · have ht2 := (ht.step hk).grow (S' := fun k => S k ∨ v.ownBlock = some k) fun k h => .inl h
    refine ⟨ht2.Ll, ht2.L, ht2.D, ht2.Kl, ht2.K, fun w2 hk2 => ?_⟩
    have hr2 : Row (w'.setCell ⟨p, 4, none⟩ v) 3 1 v (ints A') := hr.kept fun k hv => heap_setCell_other w' ⟨p, 4, none⟩ k v (hne k hv)
    exact Row.reads (hr2.kept fun k hv => hk2.block k (.inr hv))
  · rcases hk with hk | hk | hk
    · exact .inl (.inl hk)
    · exact .inl (.inr hk)
    · exact .inr (hf k hk)

/-- What Units told. -/
def FolRes (w : World) (R : Ref) (v3 v4 : Value) (w' : World) : Prop :=
  Below w.heap.size w w' ∧ ((Bad R.n R.L (givenTo R.A R.A.length) ∧ v4 = .bool false) ∨ ∃ A', v4 = .bool true ∧ Told R.n R.L (givenTo R.A R.A.length) A' ∧ Row w' 3 1 v3 (ints A') ∧ Fresh w v3 ∧ ∃ a l c, v3 = .slice a l c)
/-- What Follow leaves. -/
def FollowM (w : World) (M S : Nat → Prop) (p : Nat) (R : Ref) (e : Ending) (w' : World) : Prop :=
  (e = .returned (.bool false) ∧ Bad R.n R.L (givenTo R.A R.A.length) ∧ RefPost w M S p R w') ∨ ∃ A', e = .returned (.bool true) ∧ Told R.n R.L (givenTo R.A R.A.length) A' ∧ RefPost w M S p (knownM R A') w'

theorem given_in64 (h : GoodR R) : ∀ x ∈ givenTo R.A R.A.length, In64 x := fun x hx => by
  have h1 := (givenTo_mem h.three x).1 hx
  have h2 := (okLit_iff _ _).1 (litA_ok (A := R.A) (x := x) (by omega))
  have h3 := h.n2
  have h4 := h.lenA
  unfold In64; omega

set_option maxRecDepth 1000000 in
set_option maxHeartbeats 4000000 in
theorem FollowM_any (h : RefAt w M S p R) (hg : GoodR R) : Calls Try.prog 39 #[.pointer (some ⟨p, 0, none⟩)] w (FollowM w M S p R) := by
  have hp := h.sizeP
  obtain ⟨la, lc, c1, hL⟩ := h.clauses
  have c0 := h.nAt
  obtain ⟨lq, hlq⟩ : ∃ q, R.L.length = q := ⟨_, rfl⟩
  rw [hlq] at c1 hL
  have HC : Hid (∀ w', Below w.heap.size w w' → w'.cell? ⟨p, 0, none⟩ = some (.int .i64 (R.n : Nat)) ∧ w'.cell? ⟨p, 1, none⟩ = some (.slice la lq lc)) := Lib.hid fun w' hb =>
    ⟨(hb.cell (p := ⟨p, 0, none⟩) hp).trans c0, (hb.cell (p := ⟨p, 1, none⟩) hp).trans c1⟩
  have HG : Hid (∀ w', Below w.heap.size w w' → Calls Try.prog 62 #[.pointer (some ⟨p, 0, none⟩)] w' fun e w1 => ∃ ga gl gc, e = .returned (.slice ga gl gc) ∧ Below w.heap.size w w1 ∧
      Hid (∀ w3, Below w1.heap.size w1 w3 → Calls Try.prog 61 #[.int .i64 (R.n : Nat), .slice la lq lc, .slice ga gl gc] w3 fun e w2 => ∃ va vl vc ok, e = .returned (.tuple #[.slice va vl vc, .bool ok]) ∧ Hid (FolRes w R (.slice va vl vc) (.bool ok) w2) ∧ Below w.heap.size w w2)) := Lib.hid fun w' hb => by
    refine (given_any (h.below hb) hg.three (by rw [hg.lenA]; exact hg.n2)).mono ?_
    rintro e w1 ⟨v, rfl, hr, hf, hb1⟩
    obtain ⟨ga, gc, rfl⟩ := hr.reads.form
    have hbw1 := hb.trans (hb1.mono hb.size)
    refine ⟨_, _, _, rfl, hbw1, Lib.hid fun w3 hb3 => ?_⟩
    have hbw3 := hbw1.trans (hb3.mono hbw1.size)
    have hgl := givenTo_len R.A R.A.length
    have h20 := hg.n2
    refine (UnitsR_ok R.n (hL.below hbw3 (Nat.le_refl _)) (hr.reads.below hb3 (Nat.le_refl _)) hg.in64 (given_in64 hg) hg.right (by rw [hg.lenA] at hgl ⊢; omega)).mono ?_
    rintro e w2 ⟨hb2, hcase⟩
    have hbw2 := hbw3.trans (hb2.mono hbw3.size)
    rcases hcase with ⟨hbad, rfl⟩ | ⟨A, t, htold, rfl, hrow, hfr⟩
    · exact ⟨none, 0, 0, false, rfl, Lib.hid ⟨hbw2, .inl ⟨hbad, rfl⟩⟩, hbw2⟩
    · obtain ⟨ta, tc, rfl⟩ := hrow.reads.form
      exact ⟨_, _, _, true, rfl, Lib.hid ⟨hbw2, .inr ⟨A, rfl, htold, hrow, fun k hk => Nat.le_trans hbw3.size (hfr k hk), _, _, _, rfl⟩⟩, hbw2⟩
  have H := Lib.hid h
  generalize R.n = n at HC HG
  clear h hg c0 c1 hL hlq
  go_enter Try.func39, Try.ntmps39
  go_wp2_with fail
  refine follow_units _ _ _ _ _ _ _ _ _ _ _ _ _ _ _ _ _ _ _ _ _ _ _ _ _ hp HC HG ?_
  intro v3 v4 v5 v6 v7 v8 v9 v10 v11 v12 v13 v14 v15 v16 v17 v18 w1 hres
  obtain ⟨hb, hcase⟩ := hres
  have HB := Lib.hid hb
  rcases hcase with ⟨hbad, rfl⟩ | ⟨A', rfl, htold, hrow, hfr, a3, l3, c3, rfl⟩
  · have HBAD := Lib.hid hbad
    clear hb hbad HC HG
    go_wp2_with fail
    go_ret
    exact .inl ⟨rfl, HBAD.out, (H.out.below HB.out).post HB.out⟩
  · obtain ⟨f4, ⟨x4, c4⟩, hpost⟩ := H.out.setKnown hb hrow hfr
    have HP := Lib.hid hpost
    have HT := Lib.hid htold
    have hp1 : p < w1.heap.size := by have := hb.size; omega
    clear hb hrow hfr htold hpost HC HG
    go_wp2_with fail
    go_ret
    exact .inr ⟨A', rfl, HT.out, HP.out⟩
end Go.Proofs.Ytngegkgmenfelaa
