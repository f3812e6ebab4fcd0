/-
  SumDots: the walk.
-/
import Derived.Test.YtjdpocoahinbfaaDoorL3
import Derived.Test.YtjdpocoahinbfaaDoorO
import Derived.Test.YtjdpocoahinbfaaDoorP4
import Derived.WalkSpells
import Derived.Laws.AppendOwnNone
namespace Go.Proofs.YtjdpocoahinbfaaDoor
open Go.RowKit Go.Lib

/-- 'append(s, xs...)', xs an owned row too, nil or not. -/
theorem wpList_appAll {w : World} {ops : Array Oper} {rest : List Oper} {o : Oper} {a : Act} {Q : Exit → Act → World → Prop} (hgd : o.guard = none) (s x : Operand)
    (ho : o.op = .call { callee := .builtin .append, args := #[s, x], argTypes := #[27, 27] }) (B : Nat) (v : Value) (es : List Int) (hs : a.eval s = v) (hown : OwnI w B v es)
    (B2 : Nat) (u : Value) (xs : List Int) (hx : a.eval x = u) (hsrc : OwnI w B2 u xs) (hlen : es.length + xs.length ≤ 1000000) (hB : B ≤ w.heap.size)
    (h : ∀ v' w', OwnI w' B v' (es ++ xs) → Grew w w' v v' → wpList Tryd.prog ops Q rest (a.put o.dst v') w') : wpList Tryd.prog ops Q (o :: rest) a w := by
  obtain ⟨i0, hi0, hz0, hz1, hz2⟩ := info_parts info3
  have hcells := hsrc
  rcases hsrc.2 with ⟨rfl, h0⟩ | ⟨g, cap, cur, rfl, hBg, hg, hle, hcap, hsz, htk⟩
  · have hnil : xs = [] := List.eq_nil_of_length_eq_zero h0
    subst hnil
    refine wpList_append_own_none hgd s x 27 ho B 3 i0 1 Tryd.underlying27 hi0 v es.length _ hs hown hx ?_
    exact h v w (by simpa using hown) ⟨⟨rfl, rfl, rfl, Nat.le_refl _, fun _ _ _ => rfl⟩, .inl rfl⟩
  · refine wpList_append_own_at _ hgd s x 27 ho B 3 i0 (.int .i64 0) 1 8 Tryd.underlying27 hi0 hz0 hz1 hz2 rfl (by decide) v es.length _ hs hown ⟨g, 0, none⟩ xs.length cap (xs.map (Value.int .i64)) hx (by simp) ?_ ?_ ?_ ?_ hB ?_
    · exact World.ownsRow.cells hcells (g := g) rfl
    · intro u hu
      simp only [List.mem_map] at hu
      obtain ⟨y, _, rfl⟩ := hu
      rfl
    · unfold maxLen; omega
    · omega
    · intro v' w' h1 h2 _ h4
      exact h v' w' (by unfold OwnI; simpa using h1) ⟨h2, h4⟩

/-- An empty row that has just been made. -/
theorem OwnI.empty {w : World} {b : Nat} (h : w.heap[b]? = some (.cells #[] 3 (0, 0))) : OwnI w b (.slice (some ⟨b, 0, none⟩) 0 0) [] :=
  ⟨rfl, .inr ⟨b, 0, #[], rfl, Nat.le_refl _, h, Nat.le_refl _, Nat.zero_le _, rfl, rfl⟩⟩

theorem OwnI.form {w : World} {B : Nat} {v : Value} {es : List Int} (h : OwnI w B v es) : ∃ a c, v = .slice a es.length c := by
  rcases h.2 with ⟨rfl, h0⟩ | ⟨g, cap, cur, rfl, _⟩
  · exact ⟨none, 0, by rw [h0]⟩
  · exact ⟨_, _, rfl⟩

structure DotsRel (w0 : World) (x : Addr) (B : Nat) (es fs : List Int) (k : Nat) (vx vy vo : Value) (wr : World) : Prop where
  way : Way w0 x wr
  ox : OwnI wr B vx (xL es k)
  oy : OwnI wr B vy (xL fs k)
  oo : OwnI wr B vo (List.replicate k 1)
  axy : ApartV vx vy
  axo : ApartV vx vo
  ayo : ApartV vy vo
  base : 0 < B ∧ w0.heap.size ≤ B ∧ B ≤ wr.heap.size

theorem DotsRel.next {w0 : World} {x : Addr} {B : Nat} {es fs : List Int} {k : Nat} {vx vy vo vx' vy' vo' : Value} {wr w1 w2 w3 : World} {o o' o'' : Obj} (h : DotsRel w0 x B es fs k vx vy vo wr) (hk : k < es.length) (hk' : k < fs.length)
    (h1 : OwnI w1 B vx' (xL es k ++ [modI (es.getD k 0)])) (g1 : Grew (wr.alloc o) w1 vx vx') (h2 : OwnI w2 B vy' (xL fs k ++ [modI (fs.getD k 0)])) (g2 : Grew (w1.alloc o') w2 vy vy')
    (h3 : OwnI w3 B vo' (List.replicate k 1 ++ [1])) (g3 : Grew (w2.alloc o'') w3 vo vo') :
    DotsRel w0 x B es fs (k + 1) vx' vy' vo' w3 := by
  have b0 := h.base
  have s0 : (wr.alloc o).heap.size = wr.heap.size + 1 := by simp
  have bel1 : Below B wr w1 := Grew.below ((Below.refl _ _).alloc (by omega) _) (h.ox.alloc o) g1 (by omega)
  have oy1 := (h.oy.alloc o).grew g1 h.axy.symm
  have oo1 := (h.oo.alloc o).grew g1 h.axo.symm
  have axy1 := h.axy.grew_left g1 (h.oy.alloc o)
  have axo1 := h.axo.grew_left g1 (h.oo.alloc o)
  have hs1 := bel1.size
  have s1 : (w1.alloc o').heap.size = w1.heap.size + 1 := by simp
  have bel2 : Below B w1 w2 := Grew.below ((Below.refl _ _).alloc (by omega) _) (oy1.alloc o') g2 (by omega)
  have ox2 := (h1.alloc o').grew g2 axy1
  have oo2 := (oo1.alloc o').grew g2 h.ayo.symm
  have ayx2 := axy1.symm.grew_left g2 (h1.alloc o')
  have ayo2 := h.ayo.grew_left g2 (oo1.alloc o')
  have hs2 := bel2.size
  have s2 : (w2.alloc o'').heap.size = w2.heap.size + 1 := by simp
  have bel3 : Below B w2 w3 := Grew.below ((Below.refl _ _).alloc (by omega) _) (oo2.alloc o'') g3 (by omega)
  have ox3 := (ox2.alloc o'').grew g3 axo1
  have oy3 := (h2.alloc o'').grew g3 ayo2
  have aox3 := axo1.symm.grew_left g3 (ox2.alloc o'')
  have aoy3 := ayo2.symm.grew_left g3 (h2.alloc o'')
  have hs3 := bel3.size
  have bel := (bel1.trans bel2).trans bel3
  rw [xL_snoc es k hk] at ox3
  rw [xL_snoc fs k hk'] at oy3
  exact ⟨⟨h.way.bel.trans (bel.mono b0.2.1), h.way.sent.below bel b0.1⟩, ox3, oy3, by rw [List.replicate_succ']; exact h3, ayx2.symm, aox3.symm, aoy3.symm, b0.1, b0.2.1, by omega⟩

set_option maxRecDepth 100000 in
set_option maxHeartbeats 4000000 in
theorem dots_core (a : Option Addr) (la ca : Nat) (es : List Int) (b : Option Addr) (lb cb : Nat) (fs : List Int) (n : Int) (x : Addr) (w : World) (h1 : la ≤ 500) (h2 : lb ≤ 500) (hi : IsInts w a la es) (hj : IsInts w b lb fs) (_ : In64 n) (hg : Sent x w) :
    Calls Tryd.prog 8 #[.slice a la ca, .slice b lb cb, .int .i64 n] w fun e w' => e = .returned (.bool true) ∧ Below w.heap.size w w' := by
  have H := Lib.hid hg
  have I := Lib.hid hi
  have J := Lib.hid hj
  have LA := Lib.hid hi.1
  have LB := Lib.hid hj.1
  have d1 : decide ((500 : Int) < la) = false := by simp; omega
  have d2 : decide ((500 : Int) < lb) = false := by simp; omega
  clear hg hi hj
  go_enter Tryd.func8, Tryd.ntmps8
  go_wp2_with fail
  refine (shown_any x _ H.out).mono ?_
  rintro r w1 ⟨rfl, b1⟩
  have H1 := Lib.hid b1; clear b1
  go_wp2_with fail
  go_loopw [8, 9, 10, 11] (fun vx vy vo i wr => ∃ k : Nat, k ≤ la ∧ k ≤ lb ∧ i = .int .i64 k ∧ DotsRel w x w1.heap.size es fs k vx vy vo wr) (fun _ _ _ i _ => la - (intOf i).toNat)
  case atStart => exact ⟨0, Nat.zero_le _, Nat.zero_le _, rfl, H1.out, OwnI.nil _ _, OwnI.nil _ _, OwnI.nil _ _, .inl rfl, .inl rfl, .inl rfl, H1.out.sent.pos, H1.out.bel.size, Nat.le_refl _⟩
  case round =>
    obtain ⟨k, hk, hk', rfl, hR⟩ := hrel
    by_cases hlt : k < la ∧ k < lb
    · obtain ⟨hla, hlb⟩ := hlt
      have I' := I.out.below hR.way.bel (Nat.le_refl _)
      have J' := J.out.below hR.way.bel (Nat.le_refl _)
      obtain ⟨ba, oa, rfl, _, hca⟩ : ∃ b off, a = some ⟨b, off, none⟩ ∧ b < wr.heap.size ∧ ∀ i, i < la → wr.cell? ⟨b, off + i, none⟩ = some (.int .i64 (es.getD i 0)) := by
        rcases I'.2.1 with h | h
        · omega
        · exact h
      obtain ⟨bb, ob, rfl, hbb, hcb0⟩ : ∃ b' off, b = some ⟨b', off, none⟩ ∧ b' < w.heap.size ∧ ∀ i, i < lb → w.cell? ⟨b', off + i, none⟩ = some (.int .i64 (fs.getD i 0)) := by
        rcases J.out.2.1 with h | h
        · omega
        · exact h
      have hcb : ∀ i, i < lb → wr.cell? ⟨bb, ob + i, none⟩ = some (.int .i64 (fs.getD i 0)) := fun i hi => (hR.way.bel.cell (p := ⟨bb, ob + i, none⟩) hbb).trans (hcb0 i hi)
      have hcka := hca k hla
      have hckb := hcb k hlb
      have hy64 : -9223372036854775808 ≤ es.getD k 0 ∧ es.getD k 0 ≤ 9223372036854775807 := in64_getD I'.2.2 k
      have hz64 : -9223372036854775808 ≤ fs.getD k 0 ∧ fs.getD k 0 ≤ 9223372036854775807 := in64_getD J'.2.2 k
      obtain ⟨y, hy⟩ : ∃ z, es.getD k 0 = z := ⟨_, rfl⟩
      obtain ⟨z, hz⟩ : ∃ z, fs.getD k 0 = z := ⟨_, rfl⟩
      rw [hy] at hcka hy64
      rw [hz] at hckb hz64
      have HY := Lib.hid hy
      have HZ := Lib.hid hz
      have HR := Lib.hid hR
      have HLX := Lib.hid (xL_len es k (by rw [LA.out]; omega))
      have HLY := Lib.hid (xL_len fs k (by rw [LB.out]; omega))
      have dla : decide ((k : Int) < la) = true := by simp; omega
      have dlb : decide ((k : Int) < lb) = true := by simp; omega
      have sz := hR.way.bel.size
      -- the second row's cell, behind what the first append does
      have hcb2 : ∀ (w2 : World) (vx' : Value), Grew (wr.alloc (.cells #[.int .i64 (y.tmod 1048576)] 3)) w2 u8 vx' → w2.cell? ⟨bb, ob + k, none⟩ = some (.int .i64 z) := fun w2 vx' g => by
        have bel := Grew.below ((Below.refl _ _).alloc (by have := hR.base; omega) _) (hR.ox.alloc _) g (by have := hR.base; simp; omega)
        exact (bel.cell (p := ⟨bb, ob + k, none⟩) (by show bb < _; have := hR.base; omega)).trans hckb
      clear hca hcb hcb0 hy hz I' J' hR
      go_wp2_with (first
        | (at_builtin; refine wpList_app1 rfl (.tmp 48) (.tmp 54) rfl w1.heap.size u8 (xL es k) (y.tmod 1048576) rfl (HR.out.ox.alloc _) wr.heap.size 1 rfl (heap_alloc_new _ _) (by rw [HLX.out]; omega) (by have := HR.out.base; simp; omega) ?_; intro v1 w2 O1 G1; have HO1 := Lib.hid O1; have HG1 := Lib.hid G1; have hc2 := hcb2 w2 v1 G1; clear O1 G1)
        | (at_builtin; refine wpList_app1 rfl (.tmp 56) (.tmp 62) rfl w1.heap.size u9 (xL fs k) (z.tmod 1048576) rfl ((HR.out.oy.alloc _).grew HG1.out HR.out.axy.symm |>.alloc _) w2.heap.size 1 rfl (heap_alloc_new _ _) (by rw [HLY.out]; omega) (by have := HR.out.base; have := HG1.out.1.size; simp at this ⊢; omega) ?_; intro v2 w3 O2 G2; have HO2 := Lib.hid O2; have HG2 := Lib.hid G2; clear O2 G2)
        | (at_builtin; refine wpList_app1 rfl (.tmp 64) (.tmp 65) rfl w1.heap.size u10 (List.replicate k 1) 1 rfl ((((HR.out.oo.alloc _).grew HG1.out HR.out.axo.symm).alloc _).grew HG2.out HR.out.ayo.symm |>.alloc _) w3.heap.size 1 rfl (heap_alloc_new _ _) (by simp; omega) (by have := HR.out.base; have h1 := HG1.out.1.size; have h2 := HG2.out.1.size; simp at h1 h2 ⊢; omega) ?_; intro v3 w4 O3 G3; have HO3 := Lib.hid O3; have HG3 := Lib.hid G3; clear O3 G3))
      exact ⟨⟨k + 1, by omega, by omega, by go_num, HR.out.next (by rw [LA.out]; exact hla) (by rw [LB.out]; exact hlb) (by rw [HY.out]; exact HO1.out) HG1.out (by rw [HZ.out]; exact HO2.out) HG2.out HO3.out HG3.out⟩, by simp [intOf]; omega⟩
    · have hsm : Small (xL es k) := xL_small es k
      have hsm' : Small (xL fs k) := xL_small fs k
      have hl1 := xL_len es k (by rw [LA.out]; omega)
      have hl2 := xL_len fs k (by rw [LB.out]; omega)
      obtain ⟨q1, q2, q3, q4⟩ := dots_law hsm hsm' (by omega) (by omega)
      rw [hl1] at q3
      obtain ⟨ax, cx, e8, ix⟩ := hR.ox.ints (small_64 hsm)
      obtain ⟨ay, cy, e9, iy⟩ := hR.oy.ints (small_64 hsm')
      obtain ⟨ao, co, e10, io⟩ := hR.oo.ints (by intro n hn; rw [List.eq_of_mem_replicate hn]; exact ⟨by decide, by decide⟩)
      rw [hl1] at e8 ix
      rw [hl2] at e9 iy
      rw [List.length_replicate] at e10 io
      subst e8 e9 e10
      have ox := hR.ox
      generalize xL es k = xs at *
      generalize xL fs k = ys at *
      generalize List.replicate k (1 : Int) = os at *
      have W0 := Lib.hid hR.way
      have IX := Lib.hid ix
      have IY := Lib.hid iy
      have IO := Lib.hid io
      have OX := Lib.hid ox
      have Q1 := Lib.hid q1
      have Q2 := Lib.hid q2
      have Q3 := Lib.hid q3
      have Q4 := Lib.hid q4
      have HL1 := Lib.hid hl1
      have BS := Lib.hid hR.base
      clear hsm hsm' hl2 hl1 q1 q2 q3 q4 ix iy io ox hR I J LA LB
      have hbig : k ≤ 500 := by omega
      have c1 : ∀ w, IsInts w ax k xs → IsInts w ay k ys → Sent x w → Calls Tryd.prog 17 #[.slice ax k cx, .slice ay k cy] w fun e w' => e = .returned (.tuple #[.int .i64 (dsum xs ys), .int .i64 0]) ∧ Below w.heap.size w w' := fun w h1 h2 h3 => by
        have h := Dot_any ax ay k cx cy xs ys x w (by omega) h1 h2 h3; rw [Q1.out] at h; exact h
      have c2 : ∀ w, IsInts w ax k xs → IsInts w ay k ys → Sent x w → Calls Tryd.prog 17 #[.slice ay k cy, .slice ax k cx] w fun e w' => e = .returned (.tuple #[.int .i64 (dsum xs ys), .int .i64 0]) ∧ Below w.heap.size w w' := fun w h1 h2 h3 => by
        have h := Dot_any ay ax k cy cx ys xs x w (by omega) h2 h1 h3; rw [Q2.out] at h; exact h
      have c3 : ∀ w, IsInts w ax k xs → IsInts w ao k os → Sent x w → Calls Tryd.prog 17 #[.slice ax k cx, .slice ao k co] w fun e w' => e = .returned (.tuple #[.int .i64 xs.sum, .int .i64 0]) ∧ Below w.heap.size w w' := fun w h1 h2 h3 => by
        have h := Dot_any ax ao k cx co xs os x w (by omega) h1 h2 h3; rw [Q3.out] at h; exact h
      have c4 : ∀ w, IsInts w ax k xs → Sent x w → Calls Tryd.prog 15 #[.slice ax k cx] w fun e w' => e = .returned (.tuple #[.int .i64 xs.sum, .int .i64 0]) ∧ Below w.heap.size w w' := fun w h1 h3 => by
        have h := Total_any ax k cx xs x w (by omega) h1 h3; rw [Q4.out] at h; exact h
      have C1 := Lib.hid c1
      have C2 := Lib.hid c2
      have C3 := Lib.hid c3
      have C4 := Lib.hid c4
      clear c1 c2 c3 c4
      have hor : (k < la) ∨ ¬ (k < la) := Decidable.em _
      have dor : (decide (k < la) = true ∧ decide (k < lb) = false) ∨ decide (k < la) = false := by
        rcases hor with hla | hla
        · exact .inl ⟨by simp; omega, by simp; omega⟩
        · exact .inr (by simp; omega)
      clear hor hlt
      rcases dor with ⟨dla, dlb⟩ | dla
      all_goals
        go_wp2_with fail
        refine (C1.out _ IX.out IY.out W0.out.sent).mono ?_
        rintro r w2 ⟨rfl, b2⟩
        have H2 := Lib.hid (W0.out.call b2)
        have IX2 := Lib.hid (IX.out.below b2 (Nat.le_refl _))
        have IY2 := Lib.hid (IY.out.below b2 (Nat.le_refl _))
        have IO2 := Lib.hid (IO.out.below b2 (Nat.le_refl _))
        have OX2 := Lib.hid (OX.out.below b2 (Nat.le_refl _))
        clear b2
        go_wp2_with fail
        refine (C2.out _ IX2.out IY2.out H2.out.sent).mono ?_
        rintro r w3 ⟨rfl, b3⟩
        have H3 := Lib.hid (H2.out.call b3)
        have IX3 := Lib.hid (IX2.out.below b3 (Nat.le_refl _))
        have IO3 := Lib.hid (IO2.out.below b3 (Nat.le_refl _))
        have OX3 := Lib.hid (OX2.out.below b3 (Nat.le_refl _))
        clear b3
        go_wp2_with fail
        refine (C3.out _ IX3.out IO3.out H3.out.sent).mono ?_
        rintro r w4 ⟨rfl, b4⟩
        have H4 := Lib.hid (H3.out.call b4)
        have IX4 := Lib.hid (IX3.out.below b4 (Nat.le_refl _))
        have OX4 := Lib.hid (OX3.out.below b4 (Nat.le_refl _))
        clear b4
        go_wp2_with fail
        refine (C4.out _ IX4.out H4.out.sent).mono ?_
        rintro r w5 ⟨rfl, b5⟩
        have H5 := Lib.hid (H4.out.call b5)
        have OX5 := Lib.hid (OX4.out.below b5 (Nat.le_refl _))
        clear b5
        go_wp2_with (first
          | (at_builtin; refine wpList_appAll rfl (.tmp 91) (.tmp 92) rfl w5.heap.size (.slice (some ⟨w5.heap.size, 0, none⟩) 0 0) [] rfl (OwnI.empty (heap_alloc_new _ _)) w1.heap.size (.slice ax k cx) xs rfl (OX5.out.alloc _) (by rw [HL1.out]; simp; omega) (by simp) ?_; intro v1 w6 O1 G1; have HO1 := Lib.hid O1; have HB6 := Lib.hid (Grew.below (B := w5.heap.size) ((Below.refl _ _).alloc (Nat.le_refl _) _) (OwnI.empty (heap_alloc_new _ _)) G1 (by simp)); clear O1 G1)
          | (at_builtin; refine wpList_app1 rfl (.tmp 93) (.tmp 95) rfl w5.heap.size v1 ([] ++ xs) n rfl (HO1.out.alloc _) w6.heap.size 1 rfl (heap_alloc_new _ _) (by rw [List.nil_append, HL1.out]; omega) (by have := HB6.out.size; simp; omega) ?_; intro v2 w7 O2 G2; have HO2 := Lib.hid O2; have HB7 := Lib.hid (Grew.below (B := w5.heap.size) (HB6.out.alloc HB6.out.size _) (HO1.out.alloc _) G2 (by have := HB6.out.size; simp; omega)); clear O2 G2))
        obtain ⟨az, cz, ez⟩ := HO2.out.form
        have el : (([] : List Int) ++ xs ++ [n]).length = k + 1 := by rw [List.nil_append, List.length_append, HL1.out]; rfl
        rw [el] at ez
        clear el
        subst ez
        refine (Dot_ne az ay (k + 1) k cz cy w7 (by omega)).mono ?_
        rintro r w8 ⟨rfl, b8⟩
        have H8 := Lib.hid (H5.out.bel.trans ((HB7.out.trans (b8.mono HB7.out.size)).mono H5.out.bel.size))
        clear b8 HB6 HB7 HO1 HO2
        go_wp2_with fail
        go_ret
        exact ⟨rfl, H8.out⟩

theorem dots_big (a : Option Addr) (la ca : Nat) (b : Option Addr) (lb cb : Nat) (n : Int) (x : Addr) (w : World) (h : 500 < la ∨ 500 < lb) (hg : Sent x w) :
    Calls Tryd.prog 8 #[.slice a la ca, .slice b lb cb, .int .i64 n] w fun e w' => e = .returned (.bool true) ∧ Below w.heap.size w w' := by
  have H := Lib.hid hg
  clear hg
  have hd : decide ((500 : Int) < la) = true ∨ (decide ((500 : Int) < la) = false ∧ decide ((500 : Int) < lb) = true) := by
    by_cases h1 : 500 < la
    · exact .inl (by simp; omega)
    · exact .inr ⟨by simp; omega, by simp; omega⟩
  clear h
  rcases hd with d1 | ⟨d1, d2⟩
  all_goals
    go_enter Tryd.func8, Tryd.ntmps8
    go_wp2_with fail
    refine (shown_any x _ H.out).mono ?_
    rintro r w1 ⟨rfl, b1⟩
    have H1 := Lib.hid b1; clear b1
    go_wp2_with fail
    go_ret
    exact ⟨rfl, H1.out.bel⟩

theorem dots_walk (a : Option Addr) (la ca : Nat) (es : List Int) (b : Option Addr) (lb cb : Nat) (fs : List Int) (n : Int) (x : Addr) (w : World) (hi : IsInts w a la es) (_ : la ≤ maxLen) (hj : IsInts w b lb fs) (_ : lb ≤ maxLen) (hn : In64 n) (hg : Sent x w) :
    Calls Tryd.prog 8 #[.slice a la ca, .slice b lb cb, .int .i64 n] w fun e w' => e = .returned (.bool true) ∧ Below w.heap.size w w' := by
  by_cases h : 500 < la ∨ 500 < lb
  · exact dots_big a la ca b lb cb n x w h hg
  · exact dots_core a la ca es b lb cb fs n x w (by omega) (by omega) hi hj hn hg
end Go.Proofs.YtjdpocoahinbfaaDoor
