/-
  Bump, where all are halved.
-/
import Derived.Test.YtbihcdjamdkinaaWj
import Derived.Test.YtbihcdjamdkinaaHp
namespace Go.Proofs.Ytbihcdjamdkinaa
open Go.RowKit Go.Lib

theorem maxTo_ge (A : List Int) : ∀ (k j : Nat), j ≤ k → A.getD j 0 ≤ maxTo A k
  | 0, j, h => by obtain rfl : j = 0 := by omega
                  exact Int.le_refl _
  | k + 1, j, h => by
    unfold maxTo
    by_cases e : j = k + 1
    · subst e; omega
    · have := maxTo_ge A k j (by omega); omega
theorem maxTo_le {A : List Int} {M : Int} : ∀ (k : Nat), (∀ j, j ≤ k → A.getD j 0 ≤ M) → maxTo A k ≤ M
  | 0, h => h 0 (Nat.le_refl _)
  | k + 1, h => by
    unfold maxTo
    have := maxTo_le (A := A) (M := M) k (fun j hj => h j (by omega))
    have := h (k + 1) (Nat.le_refl _)
    omega

/-- The first k are halved. -/
def halfTo (A : List Int) : Nat → List Int
  | 0 => A
  | k + 1 => (halfTo A k).set k (A.getD k 0 / 2)
theorem halfTo_len (A : List Int) : ∀ k, (halfTo A k).length = A.length
  | 0 => rfl
  | k + 1 => by unfold halfTo; rw [List.length_set]; exact halfTo_len A k
theorem halfTo_ge (A : List Int) : ∀ (k j : Nat), k ≤ j → (halfTo A k).getD j 0 = A.getD j 0
  | 0, _, _ => rfl
  | k + 1, j, h => by unfold halfTo; rw [getD_set_ne (by omega)]; exact halfTo_ge A k j (by omega)
theorem halfTo_lt (A : List Int) : ∀ (k j : Nat), j < k → j < A.length → (halfTo A k).getD j 0 = A.getD j 0 / 2
  | 0, _, h, _ => by omega
  | k + 1, j, h, hl => by
    unfold halfTo
    by_cases e : k = j
    · subst e; exact getD_set_eq (by rw [halfTo_len]; exact hl)
    · rw [getD_set_ne e]; exact halfTo_lt A k j (by omega) hl

theorem QAt.storeS {w : World} {B : Nat → Prop} {b : Nat} {lv pv av : Value} {L P A : List Int} {sc : Int} (h : QAt w B b lv pv av L P A sc) (s : Int) : QAt (w.setCell ⟨b, 3, none⟩ (.int .i64 s)) B b lv pv av L P A s :=
  { h with
    box := by simp [World.setCell, Array.getElem?_modify, h.box]
    l := h.l.setCell (a := ⟨b, 3, none⟩) h.bl _
    p := h.p.setCell (a := ⟨b, 3, none⟩) h.bp _
    a := h.a.setCell (a := ⟨b, 3, none⟩) h.ba _
    lt := fun k hk => by have := h.lt k hk; simpa [World.setCell] using this }

set_option maxRecDepth 100000 in
set_option maxHeartbeats 2000000 in
/-- All are halved once. -/
theorem Bump_high {w : World} {B : Nat → Prop} {b : Nat} {lv pv av : Value} {n : Nat} {L P A : List Int} {sc : Int} (h : QAt w B b lv pv av L P A sc) (hI : Inv n L P A) (v : Nat) (y : Int) (h1 : 1 ≤ v) (h2 : v ≤ n) (hy : 0 ≤ y ∧ y ≤ 1099511627776) (hn : n ≤ 20000) (hs : L.length ≤ 20000)
    (hx : ∀ j, 0 ≤ A.getD j 0 ∧ A.getD j 0 ≤ 1125899906842624) (hm : 1125899906842624 < A.getD v 0 + y) (hsc : 0 ≤ sc ∧ sc ≤ 1000000)
    {T U : List Int × List Int} (hU : setF (halfTo (A.set v (A.getD v 0 + y)) (n + 1)) 30000 L.length L P = U) (hI2 : Inv n U.1 U.2 (halfTo (A.set v (A.getD v 0 + y)) (n + 1))) (hp : U.2.getD v 0 < U.1.length) (hul : U.1.length = L.length)
    (hT : (if 0 ≤ U.2.getD v 0 then upF (halfTo (A.set v (A.getD v 0 + y)) (n + 1)) ((U.2.getD v 0).toNat + 1) (U.2.getD v 0).toNat U.1 U.2 else U) = T) :
    Calls Try.prog 19 #[.pointer (some ⟨b, 0, none⟩), .int .i64 v, .int .i64 y] w fun e w' => e = .returned (.int .i64 0) ∧ Keep B w w' ∧
      QAt w' B b lv pv av T.1 T.2 (halfTo (A.set v (A.getD v 0 + y)) (n + 1)) (sc + 1) := by
  have I := Lib.hid (is_yes h v h1 (by rw [hI.lenA]; omega))
  have hal : v < A.length := by rw [hI.lenA]; omega
  obtain ⟨g, ca, rfl, _, _, _, _, hc, hf⟩ := h.a.at (by omega)
  have hBa : ¬ B g := h.na g rfl
  have b2 := h.c2
  have a1 := hc v hal
  have f1 := hf v
  have H1 := Lib.hid (h.storeA v (A.getD v 0 + y))
  have HI := Lib.hid hI
  have HI2 := Lib.hid hI2
  have d1 : decide (y < 0) = false := by simp; omega
  have d2 : decide (1099511627776 < y) = false := by simp; omega
  have hxv := hx v
  have HX : Hid (∀ j, 0 ≤ (A.set v (A.getD v 0 + y)).getD j 0 ∧ (A.set v (A.getD v 0 + y)).getD j 0 ≤ 2251799813685248) := Lib.hid fun j => by
    by_cases e : v = j
    · subst e; rw [getD_set_eq hal]; omega
    · rw [getD_set_ne e]; have := hx j; omega
  have HM : Hid (1125899906842624 < maxTo (A.set v (A.getD v 0 + y)) n) := Lib.hid (Int.lt_of_lt_of_le (by rw [getD_set_eq hal]; exact hm) (maxTo_ge _ n v h2))
  have HLEN : Hid ((A.set v (A.getD v 0 + y)).length = n + 1) := Lib.hid (by rw [List.length_set]; exact hI.lenA)
  obtain ⟨x, hxe⟩ : ∃ x, A.getD v 0 = x := ⟨_, rfl⟩
  rw [hxe] at a1 hxv
  have hsum : IntKind.i64.wrap (x + y) = x + y := by simp [IntKind.wrap, IntKind.signed, IntKind.bits]; omega
  obtain ⟨A1, hA1⟩ : ∃ A1, A.set v (A.getD v 0 + y) = A1 := ⟨_, rfl⟩
  rw [hA1] at H1 HI2 HX HM HLEN hU hT ⊢
  have HXE := Lib.hid hxe
  rw [hxe] at H1
  have HT := Lib.hid hT
  have HU := Lib.hid hU
  have HP := Lib.hid hp
  have HUL := Lib.hid hul
  have HSC := Lib.hid hsc
  obtain ⟨al, hal'⟩ : ∃ al, A.length = al := ⟨_, rfl⟩
  have HAL := Lib.hid hal'
  rw [hal'] at b2 hal
  clear h hI hI2 hc hf hm hp hx hxv hA1 hxe hT hU hul hsc hal'
  go_enter Try.func19, Try.ntmps19
  go_wp2_with (go_at_call 37; refine I.out.mono ?_; rintro e w0 ⟨rfl, rfl⟩)
  have HB1 : Hid (Keep B w0 (w0.setCell ⟨g, v, none⟩ (.int .i64 (x + y)))) := Lib.hid ((Keep.refl _ _).setCell hBa _)
  rw [HAL.out] at H1
  clear a1 f1 b2
  generalize w0.setCell ⟨g, v, none⟩ (.int .i64 (x + y)) = W at *
  have c2 := H1.out.c2
  have hal0 : al = n + 1 := by rw [← HAL.out]; exact HI.out.lenA
  have HMX : Hid (∀ (A2 : List Int) sc' L' P' W', QAt W' B b lv pv (.slice (some ⟨g, 0, none⟩) al ca) L' P' A2 sc' → A2.length = n + 1 → Calls Try.prog 38 #[.slice (some ⟨g, 0, none⟩) al ca] W' fun e w' => e = .returned (.int .i64 (maxTo A2 n)) ∧ w' = W') := Lib.hid fun A2 sc' L' P' W' hq hl => by
    obtain ⟨g', c', e, _, _, _, _, hc, _⟩ := hq.a.at (by omega)
    injection e with e1 _ _
    injection e1 with e1
    injection e1 with e1 _ _
    subst e1
    have := Max_any g al ca A2 W' (by omega) (by omega) (fun j hj => hc j (by omega))
    rw [hal0, Nat.add_sub_cancel] at this
    rw [hal0]; exact this
  have d3 : decide (1125899906842624 < maxTo A1 n) = true := decide_eq_true HM.out
  have M1 := Lib.hid (HMX.out _ _ _ _ _ H1.out HLEN.out)
  generalize maxTo A1 n = mx at *
  have HAL0 := Lib.hid hal0
  have hal1 : al ≤ 20001 := by omega
  clear hal0
  refine wp_loop_rounds 3 ?_
  rw [rounds_succ]
  go_wp2_with (go_at_call 38; refine M1.out.mono ?_; rintro e W1 ⟨rfl, rfl⟩)
  clear c2 d3 M1 hsum d1 d2 hal
  go_loopw [44] (fun vi wr => ∃ k : Nat, k ≤ al ∧ vi = .int .i64 k ∧ Hid (QAt wr B b lv pv (.slice (some ⟨g, 0, none⟩) al ca) L P (halfTo A1 k) sc) ∧ Hid (Keep B w0 wr)) (fun vi _ => al - (intOf vi).toNat)
  case atStart => exact ⟨0, Nat.zero_le _, rfl, H1, HB1⟩
  case round =>
    obtain ⟨k, hk, rfl, hQ, hB⟩ := hrel
    by_cases hlt : k < al
    · have c2 := hQ.out.c2
      have hlk : (halfTo A1 k).length = al := by rw [halfTo_len, HLEN.out, HAL0.out]
      obtain ⟨g', ca', e, _, _, _, _, hc, hf⟩ := hQ.out.a.at (by omega)
      injection e with e1 _ _
      injection e1 with e1
      injection e1 with e1 _ _
      subst e1
      have ck := hc k (by omega)
      have fk := hf k
      rw [halfTo_ge A1 k k (Nat.le_refl _)] at ck
      have hz := HX.out k
      have Q1 := Lib.hid (hQ.out.storeA k (A1.getD k 0 / 2))
      have B1 : Hid (Keep B w0 (wr.setCell ⟨g, k, none⟩ (.int .i64 (A1.getD k 0 / 2)))) := Lib.hid (hB.out.setCell hBa _)
      obtain ⟨z, hze⟩ : ∃ z, A1.getD k 0 = z := ⟨_, rfl⟩
      have HZ : Hid ((halfTo A1 k).set k (z / 2) = halfTo A1 (k + 1)) := Lib.hid (by rw [← hze]; rfl)
      rw [hze] at ck hz Q1 B1
      clear hze hc hf hlk H1 HB1
      go_wp2_with fail
      go_roundw
      case rel => exact ⟨k + 1, by omega, by go_num, by rw [← HZ.out]; exact Q1.out, B1.out⟩
      case measure => simp [intOf]; omega
    · obtain rfl : k = al := by omega
      have c2 := hQ.out.c2
      have c3 := hQ.out.c3
      have f3 := hQ.out.fr 3
      have hsc := HSC.out
      have hwsc : IntKind.i64.wrap (sc + 1) = sc + 1 := by simp [IntKind.wrap, IntKind.signed, IntKind.bits]; omega
      have Q2 := Lib.hid (hQ.out.storeS (sc + 1))
      have hbb := hQ.out.base
      have B2 : Hid (Keep B w0 (wr.setCell ⟨b, 3, none⟩ (.int .i64 (sc + 1)))) := Lib.hid (hB.out.setCell hbb _)
      rw [HAL0.out] at Q2
      have HI3 := Lib.hid (HI.out.act (A' := halfTo A1 (n + 1)) (by rw [halfTo_len]; exact HLEN.out))
      have Q2' : Hid (QAt (wr.setCell ⟨b, 3, none⟩ (.int .i64 (sc + 1))) B b lv pv (.slice (some ⟨g, 0, none⟩) (n + 1) ca) L P (halfTo A1 (n + 1)) (sc + 1)) := Q2
      have SE := Lib.hid (settle_any Q2'.out HI3.out (by omega) 30000 (by omega))
      clear H1 HB1 Q2
      go_wp2_with (go_at_call 39; refine SE.out.mono ?_; rintro e w2 ⟨rfl, hb, hq⟩; have hb2 := Lib.hid (B2.out.trans hb); rw [HU.out] at hq; have hq2 := Lib.hid hq; clear hb hq)
      have hl2 : (halfTo A1 (n + 1)).length = n + 1 := by rw [halfTo_len]; exact HLEN.out
      have hle : maxTo (halfTo A1 (n + 1)) n ≤ 1125899906842624 := maxTo_le n (fun j hj => by
        rw [halfTo_lt A1 (n + 1) j (by omega) (by rw [HLEN.out]; omega)]
        have := HX.out j; omega)
      have d4 : decide (1125899906842624 < maxTo (halfTo A1 (n + 1)) n) = false := by simp; omega
      have M2 := HMX.out (halfTo A1 (n + 1)) (sc + 1) U.1 U.2 w2 (by rw [HAL0.out]; exact hq2.out) hl2
      have c2 := hq2.out.c2
      rw [← HAL0.out] at c2
      replace M2 := Lib.hid M2
      generalize maxTo (halfTo A1 (n + 1)) n = mx2 at *
      rw [rounds_succ]
      have HL2 := Lib.hid hl2
      clear hl2 hle c3 f3 hwsc SE Q2' HI3
      go_wp2_with (go_at_call 38; refine M2.out.mono ?_; rintro e W1 ⟨rfl, rfl⟩)
      obtain rfl := HAL0.out
      obtain ⟨A2, hA2⟩ : ∃ A2, halfTo A1 (n + 1) = A2 := ⟨_, rfl⟩
      rw [hA2] at hq2 HI2 HL2 HT
      have HA2 := Lib.hid hA2
      clear hA2
      have hvp : v < U.2.length := by rw [HI2.out.lenP]; omega
      have hva : v < A2.length := by rw [HL2.out]; omega
      clear c2 d4 M2
      refine (Has_yes hq2.out v h1 hva hvp).mono ?_
      rintro e W2 ⟨rfl, rfl⟩
      by_cases hp0 : 0 ≤ U.2.getD v 0
      · obtain ⟨j, hj⟩ := Int.eq_ofNat_of_zero_le hp0
        have hjl : j < U.1.length := by have := HP.out; rw [hj] at this; omega
        have UP := Lib.hid (fun w' (hq : QAt w' B b lv pv (.slice (some ⟨g, 0, none⟩) (n + 1) ca) U.1 U.2 A2 (sc + 1)) => up_any hq HI2.out j hjl (by rw [HUL.out]; omega))
        obtain ⟨gp, cp, rfl, _, _, _, _, hcp, _⟩ := hq2.out.p.at (by omega)
        have c1 := hq2.out.c1
        have p1 := hcp v hvp
        rw [hj] at p1
        have d5 : decide (0 ≤ U.2.getD v 0) = true := by simpa using hp0
        rw [d5]
        obtain ⟨pl, hpl⟩ : ∃ pl, U.2.length = pl := ⟨_, rfl⟩
        rw [hpl] at c1 hvp
        have HG : Hid (T = upF A2 (j + 1) j U.1 U.2) := by
          rw [← HT.out, if_pos hp0, hj]
          rfl
        have HW2 := hq2
        clear hcp hj hp0 d5 hpl hva hQ hB
        go_wp2_with fail
        go_still_tail 11, (by kernel_rfl)
        change wpList _ _ _ _ _ W2.drew
        have QD := Lib.hid hq2.out.drew
        have BD := Lib.hid hb2.out.drew
        generalize W2.drew = W3 at *
        go_wp2_with (go_at_call 40; refine (UP.out _ QD.out).mono ?_; rintro e W4 ⟨rfl, b4, q4⟩; have B4 := Lib.hid (BD.out.trans b4); have Q4 := Lib.hid q4; clear b4 q4)
        go_ret
        exact ⟨rfl, B4.out, by rw [HG.out, HAL.out, HA2.out]; exact Q4.out⟩
      · have d5 : decide (0 ≤ U.2.getD v 0) = false := by simpa using hp0
        rw [d5]
        have HG : Hid (T = U) := by rw [← HT.out, if_neg hp0]; rfl
        clear hp0 d5 hva hvp
        go_wp2_with fail
        go_ret
        exact ⟨rfl, hb2.out, by rw [HG.out, HAL.out, HA2.out]; exact hq2.out⟩
end Go.Proofs.Ytbihcdjamdkinaa
