/-
  Bump.
-/
import Derived.Test.YtbihcdjamdkinaaWi
namespace Go.Proofs.Ytbihcdjamdkinaa
open Go.RowKit Go.Lib

section
variable {w : World} {B : Nat → Prop} {b : Nat} {lv pv av : Value} {L P A : List Int} {sc : Int}

theorem Bump_no (h : QAt w B b lv pv av L P A sc) (v y : Int) (h1 : v < 1 ∨ (A.length : Int) ≤ v) : Calls Try.prog 19 #[.pointer (some ⟨b, 0, none⟩), .int .i64 v, .int .i64 y] w fun e w' => e = .returned (.int .i64 1) ∧ w' = w := by
  have I := Lib.hid (is_no h v h1)
  clear h h1
  go_enter Try.func19, Try.ntmps19
  go_wp2_with (go_at_call 37; refine I.out.mono ?_; rintro e w' ⟨rfl, rfl⟩)
  go_ret
  exact ⟨rfl, rfl⟩

theorem Bump_bad (h : QAt w B b lv pv av L P A sc) (v : Nat) (y : Int) (h1 : 1 ≤ v) (h2 : v < A.length) (hy : y < 0 ∨ 1099511627776 < y) : Calls Try.prog 19 #[.pointer (some ⟨b, 0, none⟩), .int .i64 v, .int .i64 y] w fun e w' => e = .returned (.int .i64 1) ∧ w' = w := by
  have I := Lib.hid (is_yes h v h1 h2)
  clear h h1 h2
  by_cases h0 : y < 0
  · have d1 : decide (y < 0) = true := by simpa using h0
    clear hy h0
    go_enter Try.func19, Try.ntmps19
    go_wp2_with (go_at_call 37; refine I.out.mono ?_; rintro e w' ⟨rfl, rfl⟩)
    go_ret
    exact ⟨rfl, rfl⟩
  · have d1 : decide (y < 0) = false := by simpa using h0
    have d2 : decide (1099511627776 < y) = true := by simp; omega
    clear hy h0
    go_enter Try.func19, Try.ntmps19
    go_wp2_with (go_at_call 37; refine I.out.mono ?_; rintro e w' ⟨rfl, rfl⟩)
    go_ret
    exact ⟨rfl, rfl⟩
end

set_option maxRecDepth 100000 in
set_option maxHeartbeats 1000000 in
/-- Nothing is halved. -/
theorem Bump_low {w : World} {B : Nat → Prop} {b : Nat} {lv pv av : Value} {n : Nat} {L P A : List Int} {sc : Int} (h : QAt w B b lv pv av L P A sc) (hI : Inv n L P A) (v : Nat) (y : Int) (h1 : 1 ≤ v) (h2 : v ≤ n) (hy : 0 ≤ y ∧ y ≤ 1099511627776) (hn : n ≤ 20000) (hs : L.length ≤ 20000)
    (hx : 0 ≤ A.getD v 0 ∧ A.getD v 0 ≤ 1125899906842624) (hI2 : Inv n L P (A.set v (A.getD v 0 + y))) (hm : maxTo (A.set v (A.getD v 0 + y)) n ≤ 1125899906842624) (hp : P.getD v 0 < L.length) :
    Calls Try.prog 19 #[.pointer (some ⟨b, 0, none⟩), .int .i64 v, .int .i64 y] w fun e w' => e = .returned (.int .i64 0) ∧ Keep B w w' ∧
      QAt w' B b lv pv av (if 0 ≤ P.getD v 0 then upF (A.set v (A.getD v 0 + y)) ((P.getD v 0).toNat + 1) (P.getD v 0).toNat L P else (L, P)).1
        (if 0 ≤ P.getD v 0 then upF (A.set v (A.getD v 0 + y)) ((P.getD v 0).toNat + 1) (P.getD v 0).toNat L P else (L, P)).2 (A.set v (A.getD v 0 + y)) sc := by
  have I := Lib.hid (is_yes h v h1 (by rw [hI.lenA]; omega))
  have hal : v < A.length := by rw [hI.lenA]; omega
  obtain ⟨g, ca, rfl, _, _, _, _, hc, hf⟩ := h.a.at (by omega)
  have hBa : ¬ B g := h.na g rfl
  have b2 := h.c2
  have a1 := hc v hal
  have f1 := hf v
  have H1 := Lib.hid (h.storeA v (A.getD v 0 + y))
  have HI := Lib.hid hI
  have HI2 := Lib.hid hI2
  have d1 : decide (y < 0) = false := by simp; omega
  have d2 : decide (1099511627776 < y) = false := by simp; omega
  obtain ⟨x, hxv⟩ : ∃ x, A.getD v 0 = x := ⟨_, rfl⟩
  rw [hxv] at a1 H1 HI2 hx hm ⊢
  obtain ⟨T, hT⟩ : ∃ T, (if 0 ≤ P.getD v 0 then upF (A.set v (x + y)) ((P.getD v 0).toNat + 1) (P.getD v 0).toNat L P else (L, P)) = T := ⟨_, rfl⟩
  rw [hT]
  have HT := Lib.hid hT
  clear hT
  have hsum : IntKind.i64.wrap (x + y) = x + y := by simp [IntKind.wrap, IntKind.signed, IntKind.bits]; omega
  have HM := Lib.hid hm
  have HP := Lib.hid hp
  clear h hI hI2 hc hf hm hp
  obtain ⟨al, hal'⟩ : ∃ al, A.length = al := ⟨_, rfl⟩
  have HAL := Lib.hid hal'
  rw [hal'] at b2 hal
  clear hal' hxv
  go_enter Try.func19, Try.ntmps19
  go_wp2_with (go_at_call 37; refine I.out.mono ?_; rintro e w0 ⟨rfl, rfl⟩)
  have HB1 : Hid (Keep B w0 (w0.setCell ⟨g, v, none⟩ (.int .i64 (x + y)))) := Lib.hid ((Keep.refl _ _).setCell hBa _)
  rw [HAL.out] at H1
  clear a1 f1 b2
  generalize w0.setCell ⟨g, v, none⟩ (.int .i64 (x + y)) = W at *
  have c2 := H1.out.c2
  have hl : (A.set v (x + y)).length = al := by rw [List.length_set]; exact HAL.out
  have hal0 : al = n + 1 := by rw [← HAL.out]; exact HI.out.lenA
  have HMX : Hid (Calls Try.prog 38 #[.slice (some ⟨g, 0, none⟩) al ca] W fun e w' => e = .returned (.int .i64 (maxTo (A.set v (x + y)) (al - 1))) ∧ w' = W) := by
    obtain ⟨g', c', e, _, _, _, _, hc, _⟩ := H1.out.a.at (by omega)
    injection e with e1 _ _
    injection e1 with e1
    injection e1 with e1 _ _
    subst e1
    exact Max_any g al ca _ W (by omega) (by omega) (fun j hj => hc j (by omega))
  rw [hal0, Nat.add_sub_cancel] at HMX
  have d3 : decide (1125899906842624 < maxTo (A.set v (x + y)) n) = false := by have := HM.out; simp; omega
  generalize maxTo (A.set v (x + y)) n = mx at *
  clear hl
  subst hal0
  refine wp_loop_rounds 2 ?_
  rw [rounds_succ]
  go_wp2_with (go_at_call 38; refine HMX.out.mono ?_; rintro e W1 ⟨rfl, rfl⟩)
  have hvp : v < P.length := by rw [HI.out.lenP]; omega
  have hva : v < (A.set v (x + y)).length := by rw [List.length_set, HAL.out]; omega
  refine (Has_yes H1.out v h1 hva hvp).mono ?_
  rintro e W2 ⟨rfl, rfl⟩
  by_cases hp0 : 0 ≤ P.getD v 0
  · obtain ⟨j, hj⟩ := Int.eq_ofNat_of_zero_le hp0
    have hjl : j < L.length := by have := HP.out; rw [hj] at this; omega
    have UP := Lib.hid (fun w' (hq : QAt w' B b lv pv (.slice (some ⟨g, 0, none⟩) (n + 1) ca) L P (A.set v (x + y)) sc) => up_any hq HI2.out j hjl (by omega))
    obtain ⟨gp, cp, rfl, _, _, _, _, hcp, _⟩ := H1.out.p.at (by omega)
    have c1 := H1.out.c1
    have p1 := hcp v hvp
    rw [hj] at p1
    have HJ := Lib.hid hj
    have d5 : decide (0 ≤ P.getD v 0) = true := by simpa using hp0
    rw [d5]
    obtain ⟨pl, hpl⟩ : ∃ pl, P.length = pl := ⟨_, rfl⟩
    rw [hpl] at c1 hvp
    have HG : Hid (T = upF (A.set v (x + y)) (j + 1) j L P) := by
      rw [← HT.out, if_pos hp0, hj]
      rfl
    clear hcp hj hp0 d5 hpl HMX d3 hva
    go_wp2_with fail
    go_still_tail 11, (by kernel_rfl)
    change wpList _ _ _ _ _ W2.drew
    have QD := Lib.hid H1.out.drew
    have BD := Lib.hid HB1.out.drew
    generalize W2.drew = W3 at *
    go_wp2_with (go_at_call 40; refine (UP.out _ QD.out).mono ?_; rintro e W4 ⟨rfl, b4, q4⟩; have B4 := Lib.hid (BD.out.trans b4); have Q4 := Lib.hid q4; clear b4 q4)
    go_ret
    exact ⟨rfl, B4.out, by rw [HG.out, HAL.out]; exact Q4.out⟩
  · have d5 : decide (0 ≤ P.getD v 0) = false := by simpa using hp0
    rw [d5]
    have HG : Hid (T = (L, P)) := by rw [← HT.out, if_neg hp0]; rfl
    clear hp0 d5 HMX d3 hva hvp
    go_wp2_with fail
    go_ret
    exact ⟨rfl, HB1.out, by rw [HG.out, HAL.out]; exact H1.out⟩
end Go.Proofs.Ytbihcdjamdkinaa
