/-
  Best: sum's and the reference's.
-/
import Derived.Test.YtjdpocoahinbfaaDoorO
import Derived.Test.YtjdpocoahinbfaaDoorSh
import Derived.Test.YtjdpocoahinbfaaDoorRd
namespace Go.Proofs.YtjdpocoahinbfaaDoor
open Go.RowKit Go.Lib

def c0 : C5 := ⟨0, 0, 0, 0, 0⟩
def ccs (cs : List C5) (i : Nat) : C5 := cs.getD i c0
/-- The place of the least of the first k costs. -/
def bestTo (cs : List C5) : Nat → Int
  | 0 => -1
  | k + 1 => if bestTo cs k < 0 ∨ cmp5 (ccs cs k) (ccs cs (bestTo cs k).toNat) < 0 then k else bestTo cs k

theorem bestTo_bd (cs : List C5) : ∀ k, 0 < k → 0 ≤ bestTo cs k ∧ bestTo cs k < k
  | 0, h => by omega
  | k + 1, _ => by
    unfold bestTo
    split
    · omega
    · rename_i h
      rcases Nat.eq_zero_or_pos k with h0 | h0
      · subst h0; exfalso; apply h; left; simp [bestTo]
      · have := bestTo_bd cs k h0; omega

/-- A slice's elements, as a list of costs. -/
def IsCosts (w : World) (a : Option Addr) (len : Nat) (cs : List C5) : Prop :=
  cs.length = len ∧ (len = 0 ∨ ∃ b off, a = some ⟨b, off, none⟩ ∧ b < w.heap.size ∧ ∀ i, i < len →
    w.cell? ⟨b, off + i * 5, none⟩ = some (.int .i64 (ccs cs i).a0) ∧ w.cell? ⟨b, off + i * 5 + 1, none⟩ = some (.int .i64 (ccs cs i).a1) ∧ w.cell? ⟨b, off + i * 5 + 2, none⟩ = some (.int .i64 (ccs cs i).a2) ∧
    w.cell? ⟨b, off + i * 5 + 3, none⟩ = some (.int .i64 (ccs cs i).a3) ∧ w.cell? ⟨b, off + i * 5 + 4, none⟩ = some (.int .i64 (ccs cs i).a4))

theorem IsCosts.below {w w' : World} {a : Option Addr} {len : Nat} {cs : List C5} {B : Nat} (h : IsCosts w a len cs) (hb : Below B w w') (hB : w.heap.size ≤ B) : IsCosts w' a len cs := by
  obtain ⟨h1, h2⟩ := h
  refine ⟨h1, ?_⟩
  rcases h2 with h2 | ⟨b, off, e, hlt, hc⟩
  · exact .inl h2
  · have hbl : ∀ o : Nat, w'.cell? ⟨b, o, none⟩ = w.cell? ⟨b, o, none⟩ := fun o => hb.cell (p := ⟨b, o, none⟩) (by show b < B; omega)
    refine .inr ⟨b, off, e, by have := hb.size; omega, fun i hi => ?_⟩
    obtain ⟨q0, q1, q2, q3, q4⟩ := hc i hi
    exact ⟨(hbl _).trans q0, (hbl _).trans q1, (hbl _).trans q2, (hbl _).trans q3, (hbl _).trans q4⟩

set_option maxRecDepth 100000 in
set_option maxHeartbeats 4000000 in
theorem Best_any (a : Option Addr) (len cap : Nat) (cs : List C5) (w : World) (hl : len ≤ 1000000) (hi : IsCosts w a len cs) :
    Calls Tryd.prog 20 #[.slice a len cap] w fun e w' => e = .returned (.int .i64 (bestTo cs len)) ∧ Below w.heap.size w w' := by
  have HI := Lib.hid hi
  clear hi
  go_enter Tryd.func20, Tryd.ntmps20
  go_wp2
  go_loopw [3, 8] (fun bst i wr => ∃ k : Nat, k ≤ len ∧ i = .int .i64 k ∧ bst = .int .i64 (bestTo cs k) ∧ Below w.heap.size w wr) (fun _ i _ => len - (intOf i).toNat)
  case atStart => exact ⟨0, Nat.zero_le _, rfl, rfl, Below.refl _ _⟩
  case round =>
    obtain ⟨k, hk, rfl, rfl, hB⟩ := hrel
    by_cases hlt : k < len
    · obtain ⟨b, off, rfl, hb, hall⟩ : ∃ b off, a = some ⟨b, off, none⟩ ∧ b < wr.heap.size ∧ ∀ i, i < len → _ := by
        rcases (HI.out.below hB (Nat.le_refl _)).2 with h | h
        · omega
        · exact h
      obtain ⟨h0, h1, h2, h3, h4⟩ := hall k hlt
      have hstep : bestTo cs (k + 1) = if bestTo cs k < 0 ∨ cmp5 (ccs cs k) (ccs cs (bestTo cs k).toNat) < 0 then (k : Int) else bestTo cs k := rfl
      obtain ⟨c, hcc⟩ : ∃ c, ccs cs k = c := ⟨_, rfl⟩
      rw [hcc] at h0 h1 h2 h3 h4 hstep
      obtain ⟨a0, a1, a2, a3, a4⟩ := c
      dsimp only at h0 h1 h2 h3 h4
      have HALL := Lib.hid hall
      have HB := Lib.hid hB
      clear hall hcc hB
      rcases Nat.eq_zero_or_pos k with hk0 | hk0
      · have hb0 : bestTo cs k = -1 := by rw [hk0]; rfl
        rw [hb0] at hstep ⊢
        rw [if_pos (.inl (by omega))] at hstep
        have HS := Lib.hid hstep
        clear hb0 hk0 hstep
        go_wp2_with fail
        go_quiet (fail)
        go_wp2_with fail
        go_roundw
        case rel => exact ⟨k + 1, by omega, by go_num, by rw [HS.out], by repeat (first | exact HB.out | refine below_drewN ?_ _ | refine Below.drew ?_ | refine Below.alloc ?_ (by first | exact HB.out.size | (simp; have := HB.out.size; omega)) _)⟩
        case measure => simp [intOf]; omega
      · obtain ⟨b1, b2⟩ := bestTo_bd cs k hk0
        obtain ⟨j, hj⟩ := Int.eq_ofNat_of_zero_le b1
        rw [hj] at b1 b2 hstep ⊢
        obtain ⟨g0, g1, g2, g3, g4⟩ := HALL.out j (by omega)
        rw [Int.toNat_natCast] at hstep
        obtain ⟨c', hc'⟩ : ∃ c, ccs cs j = c := ⟨_, rfl⟩
        rw [hc'] at g0 g1 g2 g3 g4 hstep
        obtain ⟨d0, d1, d2, d3, d4⟩ := c'
        dsimp only at g0 g1 g2 g3 g4
        have hcon := fun w => Compare_any ⟨a0, a1, a2, a3, a4⟩ ⟨d0, d1, d2, d3, d4⟩ w
        obtain ⟨r, hr⟩ : ∃ r, cmp5 ⟨a0, a1, a2, a3, a4⟩ ⟨d0, d1, d2, d3, d4⟩ = r := ⟨_, rfl⟩
        rw [hr] at hstep hcon
        have HC := Lib.hid hcon
        have HS := Lib.hid hstep
        clear hj hc' HALL hcon hstep hr
        have hd : decide ((j : Int) < 0) = false := by simp
        have hj2 : j < len := by omega
        go_wp2_with fail
        obtain ⟨W, hW⟩ : ∃ W, W = wr.alloc (.cells #[.int .i64 a0, .int .i64 a1, .int .i64 a2, .int .i64 a3, .int .i64 a4] 32) := ⟨_, rfl⟩
        have q0 : W.cell? ⟨wr.heap.size, 0, none⟩ = some (.int .i64 a0) := by rw [hW]; simp [go_sem]
        have q1 : W.cell? ⟨wr.heap.size, 1, none⟩ = some (.int .i64 a1) := by rw [hW]; simp [go_sem]
        have q2 : W.cell? ⟨wr.heap.size, 2, none⟩ = some (.int .i64 a2) := by rw [hW]; simp [go_sem]
        have q3 : W.cell? ⟨wr.heap.size, 3, none⟩ = some (.int .i64 a3) := by rw [hW]; simp [go_sem]
        have q4 : W.cell? ⟨wr.heap.size, 4, none⟩ = some (.int .i64 a4) := by rw [hW]; simp [go_sem]
        have g0' : W.cell? ⟨b, off + j * 5, none⟩ = some (.int .i64 d0) := by rw [hW, World.cell?_alloc_past _ _ _ hb]; exact g0
        have g1' : W.cell? ⟨b, off + j * 5 + 1, none⟩ = some (.int .i64 d1) := by rw [hW, World.cell?_alloc_past _ _ _ hb]; exact g1
        have g2' : W.cell? ⟨b, off + j * 5 + 2, none⟩ = some (.int .i64 d2) := by rw [hW, World.cell?_alloc_past _ _ _ hb]; exact g2
        have g3' : W.cell? ⟨b, off + j * 5 + 3, none⟩ = some (.int .i64 d3) := by rw [hW, World.cell?_alloc_past _ _ _ hb]; exact g3
        have g4' : W.cell? ⟨b, off + j * 5 + 4, none⟩ = some (.int .i64 d4) := by rw [hW, World.cell?_alloc_past _ _ _ hb]; exact g4
        have HBW : Hid (Below w.heap.size w W) := by rw [hW]; exact HB.out.alloc HB.out.size _
        rw [← hW]
        clear hW g0 g1 g2 g3 g4 h0 h1 h2 h3 h4
        go_still_tail 8, (by kernel_rfl)
        change wpList _ _ _ _ _ W.drew
        have HBD := Lib.hid (HBW.out.drew)
        generalize W.drew = W2 at *
        by_cases hneg : r < 0
        · have HS' : Hid (bestTo cs (k + 1) = k) := by have h := HS.out; rw [if_pos (.inr hneg)] at h; exact h
          have hnd : decide (r < 0) = true := by simpa using hneg
          clear HS hneg
          go_wp2_with (go_at_call 19; refine (HC.out _).mono ?_; rintro e w' ⟨rfl, hb'⟩; have HBE := Lib.hid (HBD.out.trans (hb'.mono HBD.out.size)); clear hb')
          go_roundw
          case rel => exact ⟨k + 1, by omega, by go_num, by rw [HS'.out], HBE.out⟩
          case measure => simp [intOf]; omega
        · have HS' : Hid (bestTo cs (k + 1) = j) := by have h := HS.out; rw [if_neg (by intro h; rcases h with h | h <;> omega)] at h; exact h
          have hnd : decide (r < 0) = false := by simpa using hneg
          clear HS hneg
          go_wp2_with (go_at_call 19; refine (HC.out _).mono ?_; rintro e w' ⟨rfl, hb'⟩; have HBE := Lib.hid (HBD.out.trans (hb'.mono HBD.out.size)); clear hb')
          go_roundw
          case rel => exact ⟨k + 1, by omega, by go_num, by rw [HS'.out], HBE.out⟩
          case measure => simp [intOf]; omega
    · have hkl : k = len := by omega
      subst hkl
      have HB := Lib.hid hB
      clear hB
      go_wp2_with fail
      go_ret
      exact ⟨rfl, HB.out⟩

set_option maxRecDepth 100000 in
set_option maxHeartbeats 4000000 in
theorem rbest_any (a : Option Addr) (len cap : Nat) (cs : List C5) (w : World) (hl : len ≤ 1000000) (hi : IsCosts w a len cs) :
    Calls Tryd.prog 24 #[.slice a len cap] w fun e w' => e = .returned (.int .i64 (bestTo cs len)) ∧ Below w.heap.size w w' := by
  have HI := Lib.hid hi
  clear hi
  go_enter Tryd.func24, Tryd.ntmps24
  go_wp2
  go_loopw [3, 4] (fun bst i wr => ∃ k : Nat, k ≤ len ∧ i = .int .i64 k ∧ bst = .int .i64 (bestTo cs k) ∧ Below w.heap.size w wr) (fun _ i _ => len - (intOf i).toNat)
  case atStart => exact ⟨0, Nat.zero_le _, rfl, rfl, Below.refl _ _⟩
  case round =>
    obtain ⟨k, hk, rfl, rfl, hB⟩ := hrel
    by_cases hlt : k < len
    · obtain ⟨b, off, rfl, hb, hall⟩ : ∃ b off, a = some ⟨b, off, none⟩ ∧ b < wr.heap.size ∧ ∀ i, i < len → _ := by
        rcases (HI.out.below hB (Nat.le_refl _)).2 with h | h
        · omega
        · exact h
      obtain ⟨h0, h1, h2, h3, h4⟩ := hall k hlt
      have hstep : bestTo cs (k + 1) = if bestTo cs k < 0 ∨ cmp5 (ccs cs k) (ccs cs (bestTo cs k).toNat) < 0 then (k : Int) else bestTo cs k := rfl
      obtain ⟨c, hcc⟩ : ∃ c, ccs cs k = c := ⟨_, rfl⟩
      rw [hcc] at h0 h1 h2 h3 h4 hstep
      obtain ⟨a0, a1, a2, a3, a4⟩ := c
      dsimp only at h0 h1 h2 h3 h4
      have HALL := Lib.hid hall
      have HB := Lib.hid hB
      clear hall hcc hB
      rcases Nat.eq_zero_or_pos k with hk0 | hk0
      · have hb0 : bestTo cs k = -1 := by rw [hk0]; rfl
        rw [hb0] at hstep ⊢
        rw [if_pos (.inl (by omega))] at hstep
        have HS := Lib.hid hstep
        clear hb0 hk0 hstep
        go_wp2_with fail
        go_quiet (fail)
        go_wp2_with fail
        go_roundw
        case rel => exact ⟨k + 1, by omega, by go_num, by rw [HS.out], by repeat (first | exact HB.out | refine below_drewN ?_ _ | refine Below.drew ?_ | refine Below.alloc ?_ (by first | exact HB.out.size | (simp; have := HB.out.size; omega)) _)⟩
        case measure => simp [intOf]; omega
      · obtain ⟨b1, b2⟩ := bestTo_bd cs k hk0
        obtain ⟨j, hj⟩ := Int.eq_ofNat_of_zero_le b1
        rw [hj] at b1 b2 hstep ⊢
        obtain ⟨g0, g1, g2, g3, g4⟩ := HALL.out j (by omega)
        rw [Int.toNat_natCast] at hstep
        obtain ⟨c', hc'⟩ : ∃ c, ccs cs j = c := ⟨_, rfl⟩
        rw [hc'] at g0 g1 g2 g3 g4 hstep
        obtain ⟨d0, d1, d2, d3, d4⟩ := c'
        dsimp only at g0 g1 g2 g3 g4
        have hcon := fun w => rcompare_any ⟨a0, a1, a2, a3, a4⟩ ⟨d0, d1, d2, d3, d4⟩ w
        obtain ⟨r, hr⟩ : ∃ r, cmp5 ⟨a0, a1, a2, a3, a4⟩ ⟨d0, d1, d2, d3, d4⟩ = r := ⟨_, rfl⟩
        rw [hr] at hstep hcon
        have HC := Lib.hid hcon
        have HS := Lib.hid hstep
        clear hj hc' HALL hcon hstep hr
        have hd : decide ((j : Int) < 0) = false := by simp
        have hj2 : j < len := by omega
        go_wp2_with fail
        obtain ⟨W, hW⟩ : ∃ W, W = wr := ⟨_, rfl⟩
        subst hW
        have HBW := HB
        go_still_tail 11, (by kernel_rfl)
        change wpList _ _ _ _ _ W.drew
        have HBD := Lib.hid (HBW.out.drew)
        generalize W.drew = W2 at *
        by_cases hneg : r < 0
        · have HS' : Hid (bestTo cs (k + 1) = k) := by have h := HS.out; rw [if_pos (.inr hneg)] at h; exact h
          have hnd : decide (r < 0) = true := by simpa using hneg
          clear HS hneg
          go_wp2_with (go_at_call 23; refine (HC.out _).mono ?_; rintro e w' ⟨rfl, hb'⟩; have HBE := Lib.hid (HBD.out.trans (hb'.mono HBD.out.size)); clear hb')
          go_roundw
          case rel => exact ⟨k + 1, by omega, by go_num, by rw [HS'.out], HBE.out⟩
          case measure => simp [intOf]; omega
        · have HS' : Hid (bestTo cs (k + 1) = j) := by have h := HS.out; rw [if_neg (by intro h; rcases h with h | h <;> omega)] at h; exact h
          have hnd : decide (r < 0) = false := by simpa using hneg
          clear HS hneg
          go_wp2_with (go_at_call 23; refine (HC.out _).mono ?_; rintro e w' ⟨rfl, hb'⟩; have HBE := Lib.hid (HBD.out.trans (hb'.mono HBD.out.size)); clear hb')
          go_roundw
          case rel => exact ⟨k + 1, by omega, by go_num, by rw [HS'.out], HBE.out⟩
          case measure => simp [intOf]; omega
    · have hkl : k = len := by omega
      subst hkl
      have HB := Lib.hid hB
      clear hB
      go_wp2_with fail
      go_ret
      exact ⟨rfl, HB.out⟩

end Go.Proofs.YtjdpocoahinbfaaDoor
