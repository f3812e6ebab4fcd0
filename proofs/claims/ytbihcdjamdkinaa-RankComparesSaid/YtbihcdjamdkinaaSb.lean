/-
  slices.insertionSortCmpFunc, at the closure of Order.
-/
import Derived.Test.YtbihcdjamdkinaaSa
import Derived.BigRegion
import Derived.Deep.LoopGhost
namespace Go.Proofs.Ytbihcdjamdkinaa
open Go.RowKit Go.Lib
attribute [local go_sem ↓] Go.wp_at_zero Go.wp_at_succ

/-- Must the place x stand ahead of y? -/
def ltX (xs : List Int) (x y : Int) : Bool := decide (fcmpAt xs y.toNat x.toNat < 0)
def swE (es : List Int) (i k : Nat) : List Int := (es.set i (es.getD k 0)).set k (es.getD i 0)
theorem swE_len (es : List Int) (i k : Nat) : (swE es i k).length = es.length := by simp [swE]

/-- All are places of the list. -/
def InL (len : Nat) (es : List Int) : Prop := ∀ j, j < es.length → 0 ≤ es.getD j 0 ∧ es.getD j 0 < len
theorem getD_swE {es : List Int} {i k : Nat} (hi : i < es.length) (hk : k < es.length) (j : Nat) : (swE es i k).getD j 0 = if j = k then es.getD i 0 else if j = i then es.getD k 0 else es.getD j 0 := by
  unfold swE
  by_cases h1 : j = k
  · subst h1; rw [getD_set_eq (by simpa using hk), if_pos rfl]
  · rw [if_neg h1, getD_set_ne (fun e => h1 e.symm)]
    by_cases h2 : j = i
    · subst h2; rw [getD_set_eq hi, if_pos rfl]
    · rw [if_neg h2, getD_set_ne (fun e => h2 e.symm)]
theorem InL.swap {len : Nat} {es : List Int} (h : InL len es) {i k : Nat} (hi : i < es.length) (hk : k < es.length) : InL len (swE es i k) := fun j hj => by
  rw [swE_len] at hj
  rw [getD_swE hi hk]
  split
  · exact h i hi
  · split
    · exact h k hk
    · exact h j hj

/-- What the sort finds and leaves: the row at block g; the closure's cells lie elsewhere; all else is kept. -/
structure SAt (w0 w : World) (g c : Nat) (n : Nat) (bx : Nat) (a : Option Addr) (len cap : Nat) (xs es : List Int) : Prop where
  row : OwnI w 0 (.slice (some ⟨g, 0, none⟩) n c) es
  hn : es.length = n
  keep : Keep (fun k => k < w0.heap.size ∧ k ≠ g) w0 w
  hbx : w0.cell? ⟨bx, 0, none⟩ = some (.slice a len cap)
  bxl : bx < w0.heap.size
  ne : bx ≠ g
  hxs : IsU w0 a len xs
  ni : NotIn a g
  inl : InL len es

section
variable {w0 w : World} {g c n bx : Nat} {a : Option Addr} {len cap : Nat} {xs es : List Int}

theorem SAt.drewN (h : SAt w0 w g c n bx a len cap xs es) (k : Nat) : SAt w0 (w.drewN k) g c n bx a len cap xs es := { h with row := h.row, keep := h.keep.drewN k }
theorem SAt.drew (h : SAt w0 w g c n bx a len cap xs es) : SAt w0 w.drew g c n bx a len cap xs es := { h with row := h.row, keep := h.keep.drew }
theorem SAt.cl (h : SAt w0 w g c n bx a len cap xs es) (x y : Int) (hx : 0 ≤ x ∧ x < len) (hy : 0 ≤ y ∧ y < len) :
    Calls Try.prog 31 #[.int .i64 x, .int .i64 y, .pointer (some ⟨bx, 0, none⟩)] w fun e w' => e = .returned (.int .i64 (fcmpAt xs y.toNat x.toNat)) ∧ ∃ n, w' = w.drewN n := by
  obtain ⟨i, rfl⟩ := Int.eq_ofNat_of_zero_le hx.1
  obtain ⟨k, rfl⟩ := Int.eq_ofNat_of_zero_le hy.1
  exact cl_any w bx a len cap xs ((h.keep.cell (p := ⟨bx, 0, none⟩) ⟨h.bxl, h.ne⟩).trans h.hbx) (h.hxs.keep h.ni h.keep) i k (by omega) (by omega)
theorem SAt.cells (h : SAt w0 w g c n bx a len cap xs es) (j : Nat) (hj : j < n) : w.cell? ⟨g, j, none⟩ = some (.int .i64 (es.getD j 0)) ∧ w.frozen? ⟨g, j, none⟩ = false := by
  obtain ⟨g', c', e, _, _, _, _, hc, hf⟩ := h.row.at (by have := h.hn; omega)
  injection e with e1 _ _
  injection e1 with e1
  injection e1 with e1 _ _
  subst e1
  exact ⟨hc j (by have := h.hn; omega), hf j⟩
theorem SAt.store (h : SAt w0 w g c n bx a len cap xs es) (j : Nat) (z : Int) (hz : 0 ≤ z ∧ z < len) : SAt w0 (w.setCell ⟨g, j, none⟩ (.int .i64 z)) g c n bx a len cap xs (es.set j z) :=
  { h with
    row := h.row.store j z
    hn := by rw [List.length_set]; exact h.hn
    keep := h.keep.setCell (by simp) _
    inl := fun k hk => by
      rw [List.length_set] at hk
      by_cases e : j = k
      · subst e; rw [getD_set_eq hk]; exact hz
      · rw [getD_set_ne e]; exact h.inl k hk }
theorem SAt.swap (h : SAt w0 w g c n bx a len cap xs es) (i k : Nat) (hi : i < n) (hk : k < n) : SAt w0 (((w.setCell ⟨g, i, none⟩ (.int .i64 (es.getD k 0))).setCell ⟨g, k, none⟩ (.int .i64 (es.getD i 0))).drew) g c n bx a len cap xs (swE es i k) :=
  ((h.store i _ (h.inl k (by have := h.hn; omega))).store k _ (h.inl i (by have := h.hn; omega))).drew
end

/-- What the inner loop does. -/
def insIn (xs : List Int) (a : Nat) : Nat → List Int → List Int
  | 0, es => es
  | j + 1, es => if a < j + 1 ∧ ltX xs (es.getD (j + 1) 0) (es.getD j 0) = true then insIn xs a j (swE es (j + 1) j) else es
def insOut (xs : List Int) (a : Nat) : Nat → Nat → List Int → List Int
  | 0, _, es => es
  | k + 1, i, es => insOut xs a k (i + 1) (insIn xs a i es)

set_option maxRecDepth 100000 in
set_option maxHeartbeats 2000000 in
theorem insertion_any {w0 w : World} {g c n bx : Nat} {a : Option Addr} {len cap : Nat} {xs es : List Int} (h : SAt w0 w g c n bx a len cap xs es) (lo hi : Nat) (hlo : lo ≤ hi) (hhi : hi ≤ n) (hn : n ≤ 1000000) :
    Calls Try.prog 52 #[.slice (some ⟨g, 0, none⟩) n c, .int .i64 lo, .int .i64 hi, .func (.func 31) #[] #[.pointer (some ⟨bx, 0, none⟩)]] w fun e w' => e = .returned (.tuple #[]) ∧ SAt w0 w' g c n bx a len cap xs (insOut xs lo (hi - (lo + 1)) (lo + 1) es) := by
  obtain ⟨T, hT⟩ : ∃ T, insOut xs lo (hi - (lo + 1)) (lo + 1) es = T := ⟨_, rfl⟩
  rw [hT]
  have HT := Lib.hid hT
  have H := Lib.hid h
  clear hT h
  go_enter Try.func52, Try.ntmps52
  go_wp2_with fail
  go_loopg [8] (hi - lo) (fun g1 vi wr => ∃ (i : Nat) (ek : List Int), vi = .int .i64 i ∧ lo < i ∧ i ≤ hi + 1 ∧ hi + 1 - i ≤ g1 + 1 ∧ Hid (SAt w0 wr g c n bx a len cap xs ek) ∧ Hid (insOut xs lo (hi - i) i ek = T))
  case atStart => exact ⟨lo + 1, es, by go_num, by omega, by omega, by omega, H, HT⟩
  case round =>
    obtain ⟨i, ek, rfl, hai, hib, hg1, HK, HO⟩ := hrel
    clear H HT
    by_cases hlt : i < hi
    · have HO' : Hid (insOut xs lo (hi - (i + 1)) (i + 1) (insIn xs lo i ek) = T) := by
        have := HO.out
        rw [show hi - i = (hi - (i + 1)) + 1 from by omega] at this
        exact this
      obtain ⟨U, hU⟩ : ∃ U, insIn xs lo i ek = U := ⟨_, rfl⟩
      rw [hU] at HO'
      have HU := Lib.hid hU
      clear hU HO
      go_wp2_with fail
      go_loopg [9] i (fun g2 vj wr2 => ∃ (j : Nat) (ej : List Int), vj = .int .i64 j ∧ j ≤ i ∧ j ≤ g2 ∧ Hid (SAt w0 wr2 g c n bx a len cap xs ej) ∧ Hid (insIn xs lo j ej = U))
      case atStart => exact ⟨i, ek, rfl, Nat.le_refl _, Nat.le_refl _, HK, HU⟩
      case round =>
        obtain ⟨j, ej, rfl, hji, hg2, HJ, HI⟩ := hrel
        clear HK HU
        by_cases hja : lo < j
        · obtain ⟨jp, rfl⟩ : ∃ jp, j = jp + 1 := ⟨j - 1, by omega⟩
          have hx := HJ.out.cells (jp + 1) (by omega)
          have hy := HJ.out.cells jp (by omega)
          have ix := HJ.out.inl (jp + 1) (by rw [HJ.out.hn]; omega)
          have iy := HJ.out.inl jp (by rw [HJ.out.hn]; omega)
          have C := Lib.hid (fun k => (HJ.out.drewN k).cl (ej.getD (jp + 1) 0) (ej.getD jp 0) ix iy)
          have SW := Lib.hid (fun w' (h : SAt w0 w' g c n bx a len cap xs ej) => h.swap (jp + 1) jp (by omega) (by omega))
          have CS := Lib.hid (fun w' (h : SAt w0 w' g c n bx a len cap xs ej) => (h.store (jp + 1) (ej.getD jp 0) iy).cells jp (by omega))
          obtain ⟨cx, fx⟩ := hx
          obtain ⟨cy, fy⟩ := hy
          cases hlv : ltX xs (ej.getD (jp + 1) 0) (ej.getD jp 0) with
          | true =>
            have HN : Hid (insIn xs lo jp (swE ej (jp + 1) jp) = U) := by
              have := HI.out
              unfold insIn at this
              rw [if_pos ⟨hja, hlv⟩] at this
              exact this
            unfold ltX at hlv
            generalize ej.getD (jp + 1) 0 = x at *
            generalize ej.getD jp 0 = y at *
            generalize fcmpAt xs y.toNat x.toNat = q at *
            clear HI ix iy
            have hjaz : decide ((lo : Int) < (jp : Int) + 1) = true := by simp; omega
            have b1 : (jp : Int) + 1 < (n : Int) := by omega
            have b2 : (jp : Int) < (n : Int) := by omega
            have b3 : (0 : Int) ≤ (jp : Int) + 1 := by omega
            have b4 : ((jp : Int) + 1).toNat = jp + 1 := by omega
            have hw1 : IntKind.i64.wrap ((jp : Int) + 1 - 1) = (jp : Int) := by simp [IntKind.wrap, IntKind.signed, IntKind.bits]; omega
            go_wp2_with fail
            go_quiet ((go_at_call 31; exact Calls.quiet_of (C.out _)))
            go_wp2_with fail
            have HJ2 := Lib.hid (HJ.out.drewN nq)
            have cx2 : (wr.drewN nq).cell? ⟨g, jp + 1, none⟩ = some (.int .i64 x) := cx
            have cy2 : (wr.drewN nq).cell? ⟨g, jp, none⟩ = some (.int .i64 y) := cy
            have fx2 : (wr.drewN nq).frozen? ⟨g, jp + 1, none⟩ = false := fx
            have fy2 : (wr.drewN nq).frozen? ⟨g, jp, none⟩ = false := fy
            clear cx cy fx fy HJ C
            generalize wr.drewN nq = W2 at *
            obtain ⟨c3, f3⟩ := CS.out W2 HJ2.out
            have SW2 := Lib.hid (SW.out W2 HJ2.out)
            clear SW CS
            go_big_region
            clear cx2 cy2 fx2 fy2 c3 f3
            generalize ((W2.setCell ⟨g, jp + 1, none⟩ (.int .i64 y)).setCell ⟨g, jp, none⟩ (.int .i64 x)).drew = W3 at *
            go_wp2_with fail
            go_roundg jp
            case measure => omega
            case rel => exact ⟨jp, swE ej (jp + 1) jp, by first | rfl | go_num | (congr 1; omega), by omega, Nat.le_refl _, SW2, HN⟩
          | false =>
            have HN : Hid (insOut xs lo (hi - (i + 1)) (i + 1) ej = T) := by
              have := HI.out
              unfold insIn at this
              rw [if_neg (by rw [hlv]; simp)] at this
              rw [← this] at HO'
              exact HO'
            unfold ltX at hlv
            generalize ej.getD (jp + 1) 0 = x at *
            generalize ej.getD jp 0 = y at *
            generalize fcmpAt xs y.toNat x.toNat = q at *
            clear HI ix iy SW CS
            have hjaz : decide ((lo : Int) < (jp : Int) + 1) = true := by simp; omega
            have b1 : (jp : Int) + 1 < (n : Int) := by omega
            have b2 : (jp : Int) < (n : Int) := by omega
            have b3 : (0 : Int) ≤ (jp : Int) + 1 := by omega
            have b4 : ((jp : Int) + 1).toNat = jp + 1 := by omega
            have hw1 : IntKind.i64.wrap ((jp : Int) + 1 - 1) = (jp : Int) := by simp [IntKind.wrap, IntKind.signed, IntKind.bits]; omega
            go_wp2_with fail
            go_quiet ((go_at_call 31; exact Calls.quiet_of (C.out _)))
            go_wp2_with fail
            go_roundg (hi - (i + 1))
            case measure => omega
            case rel => exact ⟨i + 1, ej, by go_num, by omega, by omega, by omega, Lib.hid (HJ.out.drewN _), HN⟩
        · have HN : Hid (insOut xs lo (hi - (i + 1)) (i + 1) ej = T) := by
            have := HI.out
            cases j with
            | zero => unfold insIn at this; rw [← this] at HO'; exact HO'
            | succ j => unfold insIn at this; rw [if_neg (fun hh => hja hh.1)] at this; rw [← this] at HO'; exact HO'
          have hjaz : decide ((lo : Int) < (j : Int)) = false := by simp; omega
          clear HI
          go_wp2_with fail
          go_quiet (fail)
          go_wp2_with fail
          go_roundg (hi - (i + 1))
          case measure => omega
          case rel => exact ⟨i + 1, ej, by go_num, by omega, by omega, by omega, Lib.hid (HJ.out.drewN _), HN⟩
    · have HF : Hid (ek = T) := by
        have := HO.out
        rw [show hi - i = 0 from by omega] at this
        exact this
      go_wp2_with fail
      go_end0
      rw [← HF.out]
      exact ⟨rfl, HK.out⟩
end Go.Proofs.Ytbihcdjamdkinaa
