/-
  A Rank and the document's one beside each other; an act of both.
-/
import Derived.Test.YtbihcdjamdkinaaRt
import Derived.Deep.RegionHeld3
import Derived.Deep.DrawnRows
import Derived.Deep.QuietTactic
import Derived.BigQuiet
namespace Go.Proofs.Ytbihcdjamdkinaa
open Go.RowKit Go.Lib
attribute [local go_sem ↓] Go.wp_at_zero Go.wp_at_succ

/-- Both; all below s is as it was in w1; the blocks of X are apart from both. -/
structure PM (w1 w : World) (X : Nat → Prop) (s b n m ga gi : Nat) (A : List Int) (I : Nat → Bool) (sc : Int) (A2 : List Int) (I2 : Nat → Bool) (sc2 : Int) : Prop where
  ex : ∃ B : Nat → Prop, RankAt w B b n A I sc ∧ (∀ k, k < s → B k) ∧ (∀ k, X k → B k) ∧ B m ∧ B ga ∧ B gi
  ref : RefAt w m ga gi n A2 I2 sc2
  keep : Below s w1 w
  lo : s ≤ w.heap.size
  mlo : s ≤ m ∧ s ≤ ga ∧ s ≤ gi
  xm : ∀ k, X k → NotRef m ga gi k

section
variable {w1 w : World} {X : Nat → Prop} {s b n m ga gi : Nat} {A A2 : List Int} {I I2 : Nat → Bool} {sc sc2 : Int}

theorem PM.below {w' : World} (h : PM w1 w X s b n m ga gi A I sc A2 I2 sc2) (hb : Below w.heap.size w w') : PM w1 w' X s b n m ga gi A I sc A2 I2 sc2 := by
  obtain ⟨B, hr, h1, h2, h3⟩ := h.ex
  exact { h with ex := ⟨B, hr.below hb, h1, h2, h3⟩, ref := h.ref.below hb, keep := h.keep.trans (hb.mono h.lo), lo := Nat.le_trans h.lo hb.size }
theorem PM.drew (h : PM w1 w X s b n m ga gi A I sc A2 I2 sc2) : PM w1 w.drew X s b n m ga gi A I sc A2 I2 sc2 := h.below (Below.refl _ _).drew
/-- A new block that is to stay. -/
theorem PM.box (h : PM w1 w X s b n m ga gi A I sc A2 I2 sc2) (o : Obj) : PM w1 (w.alloc o) (fun k => X k ∨ k = w.heap.size) s b n m ga gi A I sc A2 I2 sc2 := by
  obtain ⟨B, hr, h1, h2, h3, h4, h5⟩ := h.ex
  have hb : Below w.heap.size w (w.alloc o) := (Below.refl _ _).alloc (Nat.le_refl _) o
  obtain ⟨r1, r2, r3⟩ := h.ref.at
  refine ⟨⟨fun k => B k ∨ k = w.heap.size, hr.kept (fun k hk _ => hb.block k hk) (fun k hk hB => ?_) (fun k hB => ?_), fun k hk => .inl (h1 k hk), fun k hk => hk.imp (h2 k) id, .inl h3, .inl h4, .inl h5⟩, h.ref.below hb, h.keep.trans (hb.mono h.lo), by have := h.lo; simp; omega, h.mlo, fun k hk => ?_⟩
  · rcases hB with hB | hB
    · exact hB
    · omega
  · rcases hB with hB | hB
    · exact Nat.lt_of_lt_of_le (hr.there k hB) hb.size
    · subst hB; simp
  · rcases hk with hk | hk
    · exact h.xm k hk
    · subst hk; exact ⟨by omega, by omega, by omega⟩
/-- What was to stay may go. -/
theorem PM.less {Y : Nat → Prop} (h : PM w1 w X s b n m ga gi A I sc A2 I2 sc2) (hY : ∀ k, Y k → X k) : PM w1 w Y s b n m ga gi A I sc A2 I2 sc2 := by
  obtain ⟨B, hr, h1, h2, h3⟩ := h.ex
  exact { h with ex := ⟨B, hr, h1, fun k hk => h2 k (hY k hk), h3⟩, xm := fun k hk => h.xm k (hY k hk) }
/-- An act of the Rank. -/
theorem PM.act {f : FuncId} {args : Array Value} {P : Ending → Prop} {A' : List Int} {I' : Nat → Bool} {sc' : Int} (h : PM w1 w X s b n m ga gi A I sc A2 I2 sc2)
    (hc : ∀ B, RankAt w B b n A I sc → Calls Try.prog f args w fun e w' => P e ∧ Keep B w w' ∧ RankAt w' B b n A' I' sc') :
    Calls Try.prog f args w fun e w' => P e ∧ Keep X w w' ∧ PM w1 w' X s b n m ga gi A' I' sc' A2 I2 sc2 := by
  obtain ⟨B, hr, h1, h2, h3, h4, h5⟩ := h.ex
  refine (hc B hr).mono ?_
  rintro e w' ⟨he, hk, hr'⟩
  exact ⟨he, hk.mono h2, ⟨B, hr', h1, h2, h3, h4, h5⟩, h.ref.kept (fun k hk' => by rcases hk' with rfl | rfl | rfl; exact hk.block _ h3; exact hk.block _ h4; exact hk.block _ h5), h.keep.trans (hk.toBelow h1), Nat.le_trans h.lo hk.size, h.mlo, h.xm⟩
/-- An act of the document's one. -/
theorem PM.actR {f : FuncId} {args : Array Value} {P : Ending → Prop} {A' : List Int} {I' : Nat → Bool} {sc' : Int} (h : PM w1 w X s b n m ga gi A I sc A2 I2 sc2)
    (hc : RefAt w m ga gi n A2 I2 sc2 → Calls Try.prog f args w fun e w' => P e ∧ Keep (NotRef m ga gi) w w' ∧ RefAt w' m ga gi n A' I' sc') :
    Calls Try.prog f args w fun e w' => P e ∧ Keep X w w' ∧ PM w1 w' X s b n m ga gi A I sc A' I' sc' := by
  obtain ⟨B, hr, h1, h2, h3, h4, h5⟩ := h.ex
  refine (hc h.ref).mono ?_
  rintro e w' ⟨he, hk, hr'⟩
  refine ⟨he, hk.mono h.xm, ⟨B, hr.kept (fun k _ hB => hk.block k ⟨fun e => hB (e ▸ h3), fun e => hB (e ▸ h4), fun e => hB (e ▸ h5)⟩) (fun _ _ h => h) (hr.there.keep hk), h1, h2, h3, h4, h5⟩, hr', h.keep.trans (hk.toBelow (fun k hk' => ?_)), Nat.le_trans h.lo hk.size, h.mlo, h.xm⟩
  obtain ⟨m1, m2, m3⟩ := h.mlo
  exact ⟨by omega, by omega, by omega⟩
theorem PM.ask {f : FuncId} {args : Array Value} {P : Ending → Prop} (h : PM w1 w X s b n m ga gi A I sc A2 I2 sc2)
    (hc : ∀ B, RankAt w B b n A I sc → Calls Try.prog f args w fun e w' => P e ∧ w' = w) : Calls Try.prog f args w fun e w' => P e ∧ w' = w := by
  obtain ⟨B, hr, _⟩ := h.ex
  exact hc B hr
end

/-- What an act leaves. -/
def dA (n : Nat) (A : List Int) (c : Act3) : List Int := if pk7 c.op = 4 ∨ pk7 c.op = 5 ∨ pk7 c.op = 6 then A else bA n A c.v c.by'
def dI (n : Nat) (A : List Int) (I : Nat → Bool) (c : Act3) : Nat → Bool := if pk7 c.op = 4 ∨ pk7 c.op = 5 then tI n A I else if pk7 c.op = 6 then pI n I c.v else I
def dS (n : Nat) (A : List Int) (c : Act3) (sc : Int) : Int := if pk7 c.op = 4 ∨ pk7 c.op = 5 ∨ pk7 c.op = 6 then sc else bS n A c.v c.by' sc

def Act3.val (c : Act3) : Value := .agg #[.int .i64 c.op, .int .i64 c.v, .int .i64 c.by']

set_option maxRecDepth 100000 in
set_option maxHeartbeats 4000000 in
theorem does_any {w1 w : World} {X : Nat → Prop} {s b n m ga gi : Nat} {A : List Int} {I : Nat → Bool} {sc : Int} (h : PM w1 w X s b n m ga gi A I sc A I sc) (c : Act3) (hc : c.ok) (hs : 0 ≤ sc ∧ sc ≤ 1000000) (hA : ∀ j, 0 ≤ A.getD j 0 ∧ A.getD j 0 ≤ 1125899906842624) :
    Calls Try.prog 24 #[.pointer (some ⟨b, 0, none⟩), .pointer (some ⟨m, 0, none⟩), c.val] w fun e w' => e = .returned (.bool true) ∧ PM w1 w' X s b n m ga gi (dA n A c) (dI n A I c) (dS n A c sc) (dA n A c) (dI n A I c) (dS n A c sc) := by
  have PK := Lib.hid (pick_any c.op hc.1)
  have H := Lib.hid (h.box (.cells #[.int .i64 c.op, .int .i64 c.v, .int .i64 c.by'] 40))
  have HX : Hid (∀ k, X k → X k ∨ k = w.heap.size) := Lib.hid (fun k hk => .inl hk)
  have HS := Lib.hid hs
  have HA := Lib.hid hA
  have hq : pk7 c.op = 4 ∨ pk7 c.op = 5 ∨ pk7 c.op = 6 ∨ (¬ (pk7 c.op = 4 ∨ pk7 c.op = 5 ∨ pk7 c.op = 6) ∧ (pk7 c.op == 4) = false ∧ (pk7 c.op == 5) = false ∧ (pk7 c.op == 6) = false) := by
    by_cases h4 : pk7 c.op = 4
    · exact .inl h4
    · by_cases h5 : pk7 c.op = 5
      · exact .inr (.inl h5)
      · by_cases h6 : pk7 c.op = 6
        · exact .inr (.inr (.inl h6))
        · exact .inr (.inr (.inr ⟨by omega, by simpa using h4, by simpa using h5, by simpa using h6⟩))
  have HQ := Lib.hid hq
  unfold dA dI dS Act3.val
  obtain ⟨o, x, y⟩ := c
  simp only at H PK HQ ⊢
  have hbx : (w.alloc (.cells #[.int .i64 o, .int .i64 x, .int .i64 y] 40)).drew.heap[w.heap.size]? = some (.cells #[.int .i64 o, .int .i64 x, .int .i64 y] 40 (0, 0)) := heap_alloc_new w _
  have px : ∀ W' : World, Keep (fun k => X k ∨ k = w.heap.size) (w.alloc (.cells #[.int .i64 o, .int .i64 x, .int .i64 y] 40)).drew W' → W'.cell? ⟨w.heap.size, 1, none⟩ = some (.int .i64 x) ∧ W'.cell? ⟨w.heap.size, 2, none⟩ = some (.int .i64 y) := fun W' hk => by
    have e := (hk.block w.heap.size (.inr rfl)).trans hbx
    constructor <;> simp [World.cell?, e]
  have PX := Lib.hid px
  have HD := Lib.hid H.out.drew
  clear px hbx
  clear h hc hs hA hq
  generalize pk7 o = q at *
  rcases HQ.out with rfl | rfl | rfl | ⟨qn, q4, q5, q6⟩
  · rw [if_pos (.inl rfl), if_pos (.inl rfl), if_pos (.inl rfl)]
    clear HQ
    go_enter Try.func24, Try.ntmps24
    go_wp2_with (first
      | (go_at_call 29; refine (PK.out _).mono ?_; rintro e w3 ⟨rfl, rfl⟩)
      | (go_at_call 20; refine (H.out.act (fun B hr => Take_all hr)).mono ?_; rintro e w3 ⟨rfl, _, p3⟩; have P3 := Lib.hid p3; clear p3)
      | (go_at_call 42; refine (P3.out.actR (fun hr => rrTake hr)).mono ?_; rintro e w4 ⟨rfl, _, p4⟩; have P4 := Lib.hid p4; clear p4))
    go_ret
    exact ⟨by simp, P4.out.less HX.out⟩
  · rw [if_pos (.inr (.inl rfl)), if_pos (.inr rfl), if_pos (.inr (.inl rfl))]
    clear HQ
    go_enter Try.func24, Try.ntmps24
    go_wp2_with (first
      | (go_at_call 29; refine (PK.out _).mono ?_; rintro e w3 ⟨rfl, rfl⟩)
      | (go_at_call 20; refine (H.out.act (fun B hr => Take_all hr)).mono ?_; rintro e w3 ⟨rfl, _, p3⟩; have P3 := Lib.hid p3; clear p3)
      | (go_at_call 42; refine (P3.out.actR (fun hr => rrTake hr)).mono ?_; rintro e w4 ⟨rfl, _, p4⟩; have P4 := Lib.hid p4; clear p4))
    go_ret
    exact ⟨by simp, P4.out.less HX.out⟩
  · rw [if_pos (.inr (.inr rfl)), if_neg (by omega), if_pos rfl, if_pos (.inr (.inr rfl))]
    clear HQ
    go_enter Try.func24, Try.ntmps24
    go_wp2_with (go_at_call 29; refine (PK.out _).mono ?_; rintro e w3 ⟨rfl, rfl⟩)
    have P1 := Lib.hid (HD.out.act (fun B hr => Put_all hr x))
    have start := PX.out _ (Keep.refl _ _)
    clear H HD
    go_region_held3 (fun w' => w'.cell? ⟨w.heap.size, 1, none⟩ = some (.int .i64 x) ∧ w'.cell? ⟨w.heap.size, 2, none⟩ = some (.int .i64 y)) (assumption) (first
      | (go_at_call 21; with_reducible refine Calls.mono P1.out ?_; rintro e w5 ⟨rfl, k5, p5⟩; have hS := PX.out _ k5; have P5 := Lib.hid p5; have K5 := Lib.hid k5; clear k5 p5)
      | (go_at_call 43; refine (P5.out.actR (fun hr => rrPut hr x)).mono ?_; rintro e w6 ⟨rfl, k6, p6⟩; have hS2 := PX.out _ (K5.out.trans k6); have P6 := Lib.hid p6; clear k6 p6))
    go_wp2_with fail
    go_ret
    exact ⟨rfl, P6.out.less HX.out⟩
  · rw [if_neg qn, if_neg (by omega), if_neg (by omega), if_neg qn]
    clear HQ qn
    go_enter Try.func24, Try.ntmps24
    go_wp2_with (go_at_call 29; refine (PK.out _).mono ?_; rintro e w3 ⟨rfl, rfl⟩)
    have P1 := Lib.hid (HD.out.act (fun B hr => Bump_all hr x y HS.out.2))
    have start := PX.out _ (Keep.refl _ _)
    clear H HD
    go_region_held3 (fun w' => w'.cell? ⟨w.heap.size, 1, none⟩ = some (.int .i64 x) ∧ w'.cell? ⟨w.heap.size, 2, none⟩ = some (.int .i64 y)) (assumption) (first
      | (go_at_call 19; with_reducible refine Calls.mono P1.out ?_; rintro e w5 ⟨rfl, k5, p5⟩; have hS := PX.out _ k5; have P5 := Lib.hid p5; have K5 := Lib.hid k5; clear k5 p5)
      | (go_at_call 44; refine (P5.out.actR (fun hr => rrBump hr x y HA.out HS.out)).mono ?_; rintro e w6 ⟨rfl, k6, p6⟩; have hS2 := PX.out _ (K5.out.trans k6); have P6 := Lib.hid p6; clear k6 p6))
    go_wp2_with fail
    go_ret
    exact ⟨rfl, P6.out.less HX.out⟩

theorem PM.bd {w1 w : World} {X : Nat → Prop} {s b n m ga gi : Nat} {A A2 : List Int} {I I2 : Nat → Bool} {sc sc2 : Int} (h : PM w1 w X s b n m ga gi A I sc A2 I2 sc2) : (∀ j, 0 ≤ A.getD j 0 ∧ A.getD j 0 ≤ 1125899906842624) ∧ 0 ≤ sc := by
  obtain ⟨B, hr, _⟩ := h.ex
  exact ⟨hr.bd, hr.hsc⟩
theorem PM.drewN {w1 w : World} {X : Nat → Prop} {s b n m ga gi : Nat} {A A2 : List Int} {I I2 : Nat → Bool} {sc sc2 : Int} (h : PM w1 w X s b n m ga gi A I sc A2 I2 sc2) (k : Nat) : PM w1 (w.drewN k) X s b n m ga gi A I sc A2 I2 sc2 := h.below (below_drewN (Below.refl _ _) k)
theorem dS_bd (n : Nat) (A : List Int) (c : Act3) (sc : Int) : sc ≤ dS n A c sc ∧ dS n A c sc ≤ sc + 1 := by
  unfold dS; split
  · omega
  · exact bS_bd _ _ _ _ _

set_option maxRecDepth 100000 in
set_option maxHeartbeats 4000000 in
theorem plays_core (n : Nat) (a : Option Addr) (len cap : Nat) (ac : List Act3) (v : Int) (w : World) (hn : n ≤ 200) (hl : len ≤ 100) (hA : IsActs w a len ac) :
    Calls Try.prog 7 #[.int .i64 n, .slice a len cap, .int .i64 v] w fun e w' => e = .returned (.bool true) ∧ Below w.heap.size w w' := by
  have HA := Lib.hid hA
  have d1 : decide ((200 : Int) < n) = false := by simp; omega
  have d2 : decide (100 < len) = false := by simp; omega
  have d2' : decide ((100 : Int) < len) = false := by simp; omega
  clear hA
  go_enter Try.func7, Try.ntmps7
  go_wp2_with (go_at_call 9; refine (shown_any _).mono ?_; rintro e w1 ⟨rfl, hb⟩; have B1 := Lib.hid hb; clear hb)
  have HA1 := Lib.hid (HA.out.below B1.out (Nat.le_refl _))
  have WS : Hid (w.heap.size ≤ w1.heap.size) := Lib.hid B1.out.size
  clear HA
  refine (New_ok n w1 (by omega) (fun k => k < w1.heap.size) (fun k h => h)).mono ?_
  rintro e w2 ⟨b, rfl, k2, _, r2⟩
  have K2 := Lib.hid k2
  have R2 := Lib.hid r2
  clear k2 r2
  go_wp2_with fail
  refine (rrNew_ok n w2 (by omega)).mono ?_
  rintro e w3 ⟨m, ga, gi, rfl, b3, m1, m2, m3, f3⟩
  obtain ⟨s, hs⟩ : ∃ s, w1.heap.size = s := ⟨_, rfl⟩
  have P0 : Hid (PM w1 w3 (fun _ => False) s b n m ga gi (newA n) allI 0 (newA n) allI 0) := Lib.hid (by
    subst hs
    have hsz := K2.out.size
    obtain ⟨q1, q2, q3⟩ := f3.at
    refine ⟨⟨fun k => k < w1.heap.size ∨ k = m ∨ k = ga ∨ k = gi, R2.out.kept (fun k hk _ => b3.block k hk) (fun k hk hB => by rcases hB with h | h | h | h <;> omega) (fun k hB => by rcases hB with h | h | h | h; have := b3.size; omega; all_goals omega), fun k hk => .inl hk, fun k hk => hk.elim, .inr (.inl rfl), .inr (.inr (.inl rfl)), .inr (.inr (.inr rfl))⟩, f3, (K2.out.toBelow (fun k h => h)).trans (b3.mono hsz), Nat.le_trans hsz b3.size, ⟨by omega, by omega, by omega⟩, fun k hk => hk.elim⟩)
  have HS := Lib.hid hs
  rw [hs] at WS
  clear b3 m1 m2 m3 f3 K2 R2 hs
  go_wp2_with fail
  clear d1 d2 d2'
  go_loopw [12] (fun vi wr => ∃ (k : Nat) (A : List Int) (I : Nat → Bool) (sc : Int), vi = .int .i64 k ∧ k ≤ len ∧ sc ≤ k ∧ Hid (PM w1 wr (fun _ => False) s b n m ga gi A I sc A I sc)) (fun vi _ => len - (intOf vi).toNat)
  case atStart => exact ⟨0, _, _, 0, rfl, Nat.zero_le _, Int.le_refl _, P0⟩
  case round =>
    obtain ⟨k, A, I, sc, rfl, hk, hsc, hP⟩ := hrel
    clear P0
    by_cases hlt : k < len
    · obtain ⟨ab, off, rfl, hab, hcell⟩ := HA1.out.2.1.resolve_left (by omega)
      obtain ⟨co, cv, cy⟩ := hcell k hlt
      have hok := HA1.out.2.2 k hlt
      rw [HS.out] at hab
      have hc : ∀ W, Below s w1 W → W.cell? ⟨ab, off + k * 3, none⟩ = some (.int .i64 (actAt ac k).op) ∧ W.cell? ⟨ab, off + k * 3 + 1, none⟩ = some (.int .i64 (actAt ac k).v) ∧ W.cell? ⟨ab, off + k * 3 + 2, none⟩ = some (.int .i64 (actAt ac k).by') := fun W hb =>
        ⟨(hb.cell (p := ⟨ab, _, none⟩) hab).trans co, (hb.cell (p := ⟨ab, _, none⟩) hab).trans cv, (hb.cell (p := ⟨ab, _, none⟩) hab).trans cy⟩
      have HC := Lib.hid hc
      obtain ⟨c0, c1, c2⟩ := hc wr hP.out.keep
      have hbd := hP.out.bd
      have DO := Lib.hid (does_any hP.out (actAt ac k) hok ⟨hbd.2, by omega⟩ hbd.1)
      have hds := dS_bd n A (actAt ac k) sc
      have HDS := Lib.hid hds
      unfold Act3.val at DO
      generalize dA n A (actAt ac k) = A' at *
      generalize dI n A I (actAt ac k) = I' at *
      generalize dS n A (actAt ac k) sc = sc' at *
      generalize (actAt ac k).op = o at *
      generalize (actAt ac k).v = x at *
      generalize (actAt ac k).by' = y at *
      clear hcell hok co cv cy hab hc hbd hds hP
      go_wp2_with (go_at_call 24; with_reducible refine Calls.mono DO.out ?_; rintro e w5 ⟨rfl, p5⟩; have P5 := Lib.hid p5; clear p5)
      clear c0 c1 c2 DO
      obtain ⟨_, c1, _⟩ := HC.out w5 P5.out.keep
      have t2 := P5.out.ref.c2
      have LA := Lib.hid (fun k => (P5.out.drewN k).ask (fun B hr => rLen hr))
      have LB := Lib.hid (fun k => rrLen (P5.out.drewN k).ref)
      have SCA := Lib.hid (fun k => (P5.out.drewN k).ask (fun B hr => rScaled hr))
      have OA := Lib.hid (fun k => (P5.out.drewN k).ask (fun B hr => rOf hr x))
      have OB := Lib.hid (fun k => rrOf (P5.out.drewN k).ref x)
      have HHA := Lib.hid (fun k => (P5.out.drewN k).ask (fun B hr => rHas hr x))
      have HHB := Lib.hid (fun k => rrHas (P5.out.drewN k).ref x)
      have b2 : (k : Int) < (len : Int) := by omega
      have e1 : ∀ z : Int, (z != z) = false := fun z => by simp
      generalize cnt I' n = cn at *
      generalize ofV n A' x = ox at *
      generalize hasV n I' x = hx at *
      go_wp2_with fail
      go_quiet ((first
        | (go_at_call 22; exact Calls.quiet_of_same (LA.out _))
        | (go_at_call 25; exact Calls.quiet_of_same (LB.out _))
        | (go_at_call 18; exact Calls.quiet_of_same (SCA.out _))
        | (go_at_call 17; exact Calls.quiet_of_same (OA.out _))
        | (go_at_call 26; exact Calls.quiet_of_same (OB.out _))
        | (go_at_call 27; exact Calls.quiet_of_same (HHA.out _))
        | (go_at_call 28; exact Calls.quiet_of_same (HHB.out _))))
      go_wp2_with fail
      go_roundw
      case rel => exact ⟨k + 1, A', I', sc', by go_num, by omega, by have := HDS.out; omega, Lib.hid (P5.out.drewN _)⟩
      case measure => simp [intOf]; omega
    · have hnl : decide ((k : Int) < len) = false := by simp; omega
      have e0 : IntKind.i64.wrap ((n : Int) + 1) = (n : Int) + 1 := by simp [IntKind.wrap, IntKind.signed, IntKind.bits]; omega
      clear HA1
      go_wp2_with fail
      clear hnl hlt
      go_loopw [14] (fun vi wr => ∃ (j : Nat), vi = .int .i64 j ∧ j ≤ n + 2 ∧ Hid (PM w1 wr (fun _ => False) s b n m ga gi A I sc A I sc)) (fun vi _ => n + 2 - (intOf vi).toNat)
      case atStart => exact ⟨0, rfl, by omega, hP⟩
      case round =>
        obtain ⟨j, rfl, hj, hQ⟩ := hrel
        clear hP
        have e1 : ∀ z : Int, (z != z) = false := fun z => by simp
        by_cases hlt : j < n + 2
        · have OA := Lib.hid (hQ.out.ask (fun B hr => rOf hr (j : Int)))
          have OB := Lib.hid (rrOf hQ.out.ref (j : Int))
          have HHA := Lib.hid (hQ.out.ask (fun B hr => rHas hr (j : Int)))
          have HHB := Lib.hid (rrHas hQ.out.ref (j : Int))
          have d1 : decide ((j : Int) ≤ (n : Int) + 1) = true := by simp; omega
          generalize ofV n A (j : Int) = ox at *
          generalize hasV n I (j : Int) = hx at *
          go_wp2_with (first
            | (go_at_call 17; with_reducible refine Calls.mono OA.out ?_; rintro e w5 ⟨rfl, rfl⟩)
            | (go_at_call 26; with_reducible refine Calls.mono OB.out ?_; rintro e w5 ⟨rfl, rfl⟩)
            | (go_at_call 27; with_reducible refine Calls.mono HHA.out ?_; rintro e w5 ⟨rfl, rfl⟩)
            | (go_at_call 28; with_reducible refine Calls.mono HHB.out ?_; rintro e w5 ⟨rfl, rfl⟩))
          go_roundw
          case rel => exact ⟨j + 1, by go_num, by omega, hQ⟩
          case measure => simp [intOf]; omega
        · have OA := Lib.hid (hQ.out.ask (fun B hr => rOf hr v))
          have OB := Lib.hid (rrOf hQ.out.ref v)
          have HHA := Lib.hid (hQ.out.ask (fun B hr => rHas hr v))
          have HHB := Lib.hid (rrHas hQ.out.ref v)
          have d1 : decide ((j : Int) ≤ (n : Int) + 1) = false := by simp; omega
          have e2 : ∀ z : Int, (z == z) = true := fun z => by simp
          have HF := Lib.hid (B1.out.trans (hQ.out.keep.mono WS.out))
          generalize ofV n A v = ox at *
          generalize hasV n I v = hx at *
          clear hQ
          go_wp2_with (first
            | (go_at_call 17; with_reducible refine Calls.mono OA.out ?_; rintro e w5 ⟨rfl, rfl⟩)
            | (go_at_call 26; with_reducible refine Calls.mono OB.out ?_; rintro e w5 ⟨rfl, rfl⟩)
            | (go_at_call 27; with_reducible refine Calls.mono HHA.out ?_; rintro e w5 ⟨rfl, rfl⟩)
            | (go_at_call 28; with_reducible refine Calls.mono HHB.out ?_; rintro e w5 ⟨rfl, rfl⟩))
          go_ret
          exact ⟨by simp, HF.out⟩

set_option maxRecDepth 100000 in
set_option maxHeartbeats 1000000 in
theorem plays_walk (n : Int) (a : Option Addr) (len cap : Nat) (ac : List Act3) (v : Int) (w : World) (_ : In64 n) (hA : IsActs w a len ac) (_ : len ≤ maxLen) (_ : In64 v) :
    Calls Try.prog 7 #[.int .i64 n, .slice a len cap, .int .i64 v] w fun e w' => e = .returned (.bool true) ∧ Below w.heap.size w w' := by
  by_cases h1 : 200 < n
  · have d1 : decide (200 < n) = true := by simpa using h1
    clear hA h1
    go_enter Try.func7, Try.ntmps7
    go_wp2_with (go_at_call 9; refine (shown_any _).mono ?_; rintro e w1 ⟨rfl, hb⟩; have B1 := Lib.hid hb; clear hb)
    go_ret
    exact ⟨rfl, B1.out⟩
  · have d1 : decide (200 < n) = false := by simpa using h1
    by_cases h2 : 100 < len
    · have d2 : decide (100 < len) = true := by simpa using h2
      have d2' : decide ((100 : Int) < len) = true := by simp; omega
      clear hA h1 h2
      go_enter Try.func7, Try.ntmps7
      go_wp2_with (go_at_call 9; refine (shown_any _).mono ?_; rintro e w1 ⟨rfl, hb⟩; have B1 := Lib.hid hb; clear hb)
      go_ret
      exact ⟨rfl, B1.out⟩
    · by_cases h0 : n < 0
      · have d2 : decide (100 < len) = false := by simpa using h2
        have d2' : decide ((100 : Int) < len) = false := by simp; omega
        have NN := Lib.hid (fun w => New_no n w (.inl h0))
        have NR := Lib.hid (fun w => rrNew_bad n w (.inl h0))
        clear hA h1 h2 h0
        go_enter Try.func7, Try.ntmps7
        go_wp2_with (first
          | (go_at_call 9; refine (shown_any _).mono ?_; rintro e w1 ⟨rfl, hb⟩; have B1 := Lib.hid hb; clear hb)
          | (go_at_call 16; refine (NN.out _).mono ?_; rintro e w2 ⟨rfl, rfl⟩)
          | (go_at_call 23; refine (NR.out _).mono ?_; rintro e w2 ⟨rfl, rfl⟩))
        go_ret
        exact ⟨rfl, B1.out⟩
      · obtain ⟨m, rfl⟩ := Int.eq_ofNat_of_zero_le (show 0 ≤ n by omega)
        exact plays_core m a len cap ac v w (by omega) (by omega) hA
end Go.Proofs.Ytbihcdjamdkinaa
