/-
  Back.
-/
import Derived.Test.YtngegkgmenfelaaWp
namespace Go.Proofs.Ytngegkgmenfelaa
open Go.RowKit Go.Lib
attribute [local go_sem ↓] Go.wp_at_zero Go.wp_at_succ

def clearF (F : List (Int × Int × Int)) : List Int → List (Int × Int × Int)
  | [] => F
  | x :: xs => clearF (F.set (x.natAbs - 1) (0, -1, -1)) xs
theorem clearF_snoc (F : List (Int × Int × Int)) (xs : List Int) (x : Int) : clearF F (xs ++ [x]) = (clearF F xs).set (x.natAbs - 1) (0, -1, -1) := by
  induction xs generalizing F with
  | nil => rfl
  | cons a xs ih => exact ih _
theorem clearF_len (F : List (Int × Int × Int)) (xs : List Int) : (clearF F xs).length = F.length := by
  induction xs generalizing F with
  | nil => rfl
  | cons a xs ih => show (clearF _ xs).length = _; rw [ih, List.length_set]
def startOf (T : Tr) (lv : Nat) : Nat := (T.starts.getD lv 0).toNat
def backT (T : Tr) (lv : Nat) : Tr := { T with F := clearF T.F (T.lits.drop (startOf T lv)), lits := T.lits.take (startOf T lv), starts := T.starts.take lv, nx := 0 }

/-- A row's value is cut, its capacity too. -/
theorem Mem.cut3 {w : World} {B : Nat → Prop} {b : Nat} {bx : Array Value} {val : Sl → Value} {ct : Sl → List Value} {g n c k c2 : Nat} (h : Mem w B b bx val ct) (s : Sl) (hz : s.z = 1) (hs : val s = .slice (some ⟨g, 0, none⟩) n c) (hk : k ≤ (ct s).length) (h2 : k ≤ c2) (h3 : c2 ≤ c) :
    Mem w B b bx (upS val s (.slice (some ⟨g, 0, none⟩) k c2)) (upS ct s ((ct s).take k)) := by
  have hb : ∀ t, (upS val s (.slice (some ⟨g, 0, none⟩) k c2) t).ownBlock = (val t).ownBlock := fun t => by
    by_cases e : t = s
    · subst e; rw [upS_same, hs]; rfl
    · rw [upS_other _ _ e]
  refine ⟨h.box, fun t => ?_, fun t u htu => ?_, fun t => ?_, h.base, fun t k hk => ?_, h.lt⟩
  · by_cases e : t = s
    · subst e
      rw [upS_same, upS_same]
      have := h.row t
      rw [hs, hz] at this
      rw [hz]
      exact this.cut3 hk h2 h3
    · rw [upS_other _ _ e, upS_other _ _ e]; exact h.row t
  · unfold ApartV
    rw [hb, hb]
    exact h.apart t u htu
  · rw [hb]; exact h.nb t
  · rw [hb] at hk; exact h.nB t k hk

def setF (T : Tr) (F : List (Int × Int × Int)) : Tr := { T with F := F }
def BackRel (w0 : World) (B : Nat → Prop) (b : Nat) (T : Tr) (val : Sl → Value) (s i : Nat) (wr : World) : Prop := TrailV wr B b (setF T (clearF T.F ((T.lits.drop s).take i))) val ∧ Keep B w0 wr

/-- A fact is struck. -/
theorem TrailV.strike {w : World} {B : Nat → Prop} {b : Nat} {T : Tr} {val : Sl → Value} (h : TrailV w B b T val) (x : Int) (hx : 1 ≤ x.natAbs ∧ x.natAbs ≤ T.F.length) :
    ∃ g c m q, m = x.natAbs - 1 ∧ m < q ∧ T.F.length = q ∧ w.cell? ⟨b, 2, none⟩ = some (.slice (some ⟨g, 0, none⟩) q c) ∧ b < w.heap.size ∧ g < w.heap.size ∧ (∃ o1 o2 o3, w.cell? ⟨g, m * 3, none⟩ = some o1 ∧ w.cell? ⟨g, m * 3 + 1, none⟩ = some o2 ∧ w.cell? ⟨g, m * 3 + 2, none⟩ = some o3) ∧ w.frozen? ⟨g, m * 3, none⟩ = false ∧ w.frozen? ⟨g, m * 3 + 1, none⟩ = false ∧ w.frozen? ⟨g, m * 3 + 2, none⟩ = false ∧
      Hid (TrailV (((w.setCell ⟨g, m * 3, none⟩ (.int .i64 0)).setCell ⟨g, m * 3 + 1, none⟩ (.int .i64 (-1))).setCell ⟨g, m * 3 + 2, none⟩ (.int .i64 (-1))) B b (setF T (T.F.set (x.natAbs - 1) (0, -1, -1))) val ∧ Keep B w (((w.setCell ⟨g, m * 3, none⟩ (.int .i64 0)).setCell ⟨g, m * 3 + 1, none⟩ (.int .i64 (-1))).setCell ⟨g, m * 3 + 2, none⟩ (.int .i64 (-1)))) := by
  obtain ⟨ct, hm, ht⟩ := h
  have hf := hm.row .fa
  rw [ht.fa] at hf
  have c2 : w.cell? ⟨b, 2, none⟩ = some (val .fa) := hm.bcell 2
  obtain ⟨g, c, e, _, _, hg, hc, hfr⟩ := hf.at3 (by omega)
  rw [e] at c2
  obtain ⟨k1, k2, k3⟩ := flatF_at T.F (x.natAbs - 1) (by omega)
  have M := hm.storeF e ht.fa (show x.natAbs - 1 < T.F.length by omega) (0, -1, -1)
  have hB : ¬ B g := hm.nB .fa g (by rw [e]; rfl)
  exact ⟨g, c, _, _, rfl, by omega, rfl, c2, lt_of_block hm.box, hg, ⟨_, _, _, hc _ _ k1, hc _ _ k2, hc _ _ k3⟩, hfr _, hfr _, hfr _,
    Lib.hid ⟨⟨_, M, { cl := ht.cl, wa := ht.wa, fa := rfl, li := ht.li, st := ht.st, sh := ht.sh, C := ht.C, W := ht.W }⟩,
      (((Keep.refl B w).setCell (p := ⟨g, _, none⟩) hB _).setCell (p := ⟨g, _, none⟩) hB _).setCell (p := ⟨g, _, none⟩) hB _⟩⟩

set_option maxRecDepth 100000 in
theorem Back_arg {w : World} {B : Nat → Prop} {b : Nat} {T : Tr} (h : TrailAt w B b T) (lv : Int) (hl : T.starts.length ≤ 900000) (hlv : lv < 0 ∨ (T.starts.length : Int) < lv) :
    Calls Try.prog 14 #[.pointer (some ⟨b, 0, none⟩), .int .i64 lv] w fun e w' => e = .returned (.int .i64 1) ∧ w' = w := by
  have HL := Lib.hid (Level_any h)
  generalize T.starts.length = sl at *
  by_cases hn : lv < 0
  · have hd : decide (lv < 0) = true := decide_eq_true hn
    clear hlv
    go_enter Try.func14, Try.ntmps14
    go_wp2_with fail
    go_ret
    exact ⟨rfl, rfl⟩
  · have hg : (sl : Int) < lv := by omega
    have hd : decide (lv < 0) = false := decide_eq_false hn
    clear hlv
    go_enter Try.func14, Try.ntmps14
    go_wp2_with (go_at_call 12; refine HL.out.mono ?_; rintro e w' ⟨rfl, rfl⟩)
    go_ret
    exact ⟨rfl, rfl⟩

set_option maxRecDepth 100000 in
theorem Back_same {w : World} {B : Nat → Prop} {b : Nat} {T : Tr} (h : TrailAt w B b T) (hl : T.starts.length ≤ 900000) :
    Calls Try.prog 14 #[.pointer (some ⟨b, 0, none⟩), .int .i64 (T.starts.length : Nat)] w fun e w' => e = .returned (.int .i64 0) ∧ w' = w := by
  have HL := Lib.hid (Level_any h)
  generalize T.starts.length = sl at *
  go_enter Try.func14, Try.ntmps14
  go_wp2_with (go_at_call 12; refine HL.out.mono ?_; rintro e w' ⟨rfl, rfl⟩)
  go_ret
  exact ⟨rfl, rfl⟩

theorem TrailV.backEnd {w : World} {B : Nat → Prop} {b : Nat} {T : Tr} {val : Sl → Value} (h : TrailV w B b T val) {gl c gs sc s lv : Nat} (hl : val .li = .slice (some ⟨gl, 0, none⟩) T.lits.length c) (hs : val .st = .slice (some ⟨gs, 0, none⟩) T.starts.length sc) (h1 : s ≤ T.lits.length) (h2 : lv ≤ T.starts.length) :
    TrailAt ((((w.setCell ⟨b, 3, none⟩ (.slice (some ⟨gl, 0, none⟩) s s)).setCell ⟨b, 4, none⟩ (.slice (some ⟨gs, 0, none⟩) lv sc)).drew).setCell ⟨b, 5, none⟩ (.int .i64 0)) B b { T with lits := T.lits.take s, starts := T.starts.take lv, nx := 0 } ∧
    Keep B w ((((w.setCell ⟨b, 3, none⟩ (.slice (some ⟨gl, 0, none⟩) s s)).setCell ⟨b, 4, none⟩ (.slice (some ⟨gs, 0, none⟩) lv sc)).drew).setCell ⟨b, 5, none⟩ (.int .i64 0)) := by
  obtain ⟨ct, hm, ht⟩ := h
  have hc : T.lits.length ≤ c := by
    have := hm.row .li
    rw [ht.li, hl] at this
    obtain ⟨a, c', e, hle, _⟩ := this.form
    injection e with _ _ e3
    rw [ints_len] at hle
    omega
  have hsc : T.starts.length ≤ sc := by
    have := hm.row .st
    rw [ht.st, hs] at this
    obtain ⟨a, c', e, hle, _⟩ := this.form
    injection e with _ _ e3
    rw [ints_len] at hle
    omega
  have M1 := hm.cut3 .li rfl hl (k := s) (c2 := s) (by rw [ht.li, ints_len]; exact h1) (Nat.le_refl _) (by omega)
  have M2 := M1.cut3 .st rfl (by rw [upS_other _ _ (by simp)]; exact hs) (k := lv) (c2 := sc) (by rw [upS_other _ _ (by simp), ht.st, ints_len]; exact h2) (by omega) (Nat.le_refl _)
  have M3 := (((M2.setBox 3 (.slice (some ⟨gl, 0, none⟩) s s)).setBox 4 (.slice (some ⟨gs, 0, none⟩) lv sc)).drew).setBox 5 (.int .i64 0)
  have e : (((boxOf val T.nx).setIfInBounds 3 (.slice (some ⟨gl, 0, none⟩) s s)).setIfInBounds 4 (.slice (some ⟨gs, 0, none⟩) lv sc)).setIfInBounds 5 (.int .i64 0) = boxOf (upS (upS val .li (.slice (some ⟨gl, 0, none⟩) s s)) .st (.slice (some ⟨gs, 0, none⟩) lv sc)) 0 := by simp [boxOf, upS]
  rw [e] at M3
  refine ⟨⟨_, _, M3, { cl := ht.cl, wa := ht.wa, fa := ht.fa, li := ?_, st := ?_, sh := ht.sh, C := ht.C, W := ht.W }⟩, ((((Keep.refl B w).setCell (p := ⟨b, 3, none⟩) hm.base _).setCell (p := ⟨b, 4, none⟩) hm.base _).drew).setCell (p := ⟨b, 5, none⟩) hm.base _⟩
  · rw [upS_other _ _ (by simp), upS_same, ht.li]; simp [ints]
  · rw [upS_same, upS_other _ _ (by simp), ht.st]; simp [ints]

theorem TrailV.liAt {w : World} {B : Nat → Prop} {b : Nat} {T : Tr} {val : Sl → Value} (h : TrailV w B b T val) (h0 : 0 < T.lits.length) : ∃ g c, val .li = .slice (some ⟨g, 0, none⟩) T.lits.length c ∧ T.lits.length ≤ c ∧ w.cell? ⟨b, 3, none⟩ = some (.slice (some ⟨g, 0, none⟩) T.lits.length c) ∧ g < w.heap.size ∧ b < w.heap.size ∧ ∀ i, i < T.lits.length → w.cell? ⟨g, i, none⟩ = some (.int .i64 (T.lits.getD i 0)) := by
  obtain ⟨ct, hm, ht⟩ := h
  have h2 := hm.row .li
  rw [ht.li] at h2
  obtain ⟨g, c, e, hle, _, hg, hc, _⟩ := h2.at (by rw [ints_len]; exact h0)
  rw [ints_len] at e hle
  exact ⟨g, c, e, hle, by rw [← e]; exact hm.bcell 3, hg, lt_of_block hm.box, fun i hi => hc i _ (ints_at hi)⟩
theorem TrailV.stAt {w : World} {B : Nat → Prop} {b : Nat} {T : Tr} {val : Sl → Value} (h : TrailV w B b T val) (h0 : 0 < T.starts.length) : ∃ g c, val .st = .slice (some ⟨g, 0, none⟩) T.starts.length c ∧ T.starts.length ≤ c ∧ w.cell? ⟨b, 4, none⟩ = some (.slice (some ⟨g, 0, none⟩) T.starts.length c) ∧ g < w.heap.size ∧ ∀ i, i < T.starts.length → w.cell? ⟨g, i, none⟩ = some (.int .i64 (T.starts.getD i 0)) := by
  obtain ⟨ct, hm, ht⟩ := h
  have h2 := hm.row .st
  rw [ht.st] at h2
  obtain ⟨g, c, e, hle, _, hg, hc, _⟩ := h2.at (by rw [ints_len]; exact h0)
  rw [ints_len] at e hle
  exact ⟨g, c, e, hle, by rw [← e]; exact hm.bcell 4, hg, fun i hi => hc i _ (ints_at hi)⟩
theorem TrailV.boxAt3 {w : World} {B : Nat → Prop} {b : Nat} {T : Tr} {val : Sl → Value} (h : TrailV w B b T val) {v : Value} (hv : val .li = v) : w.cell? ⟨b, 3, none⟩ = some v := by
  obtain ⟨ct, hm, ht⟩ := h
  rw [← hv]; exact hm.bcell 3
theorem TrailV.boxAt4 {w : World} {B : Nat → Prop} {b : Nat} {T : Tr} {val : Sl → Value} (h : TrailV w B b T val) {v : Value} (hv : val .st = v) : w.cell? ⟨b, 4, none⟩ = some v := by
  obtain ⟨ct, hm, ht⟩ := h
  rw [← hv]; exact hm.bcell 4
theorem TrailV.boxAt5 {w : World} {B : Nat → Prop} {b : Nat} {T : Tr} {val : Sl → Value} (h : TrailV w B b T val) : w.cell? ⟨b, 5, none⟩ = some (.int .i64 (T.nx : Nat)) := by
  obtain ⟨ct, hm, ht⟩ := h
  exact hm.bcell 5
theorem TrailV.backFree {w : World} {B : Nat → Prop} {b : Nat} {T : Tr} {val : Sl → Value} (h : TrailV w B b T val) (u v : Value) : ((w.setCell ⟨b, 3, none⟩ u).setCell ⟨b, 4, none⟩ v).drew.frozen? ⟨b, 5, none⟩ = false := by
  obtain ⟨ct, hm, ht⟩ := h
  exact (((hm.setBox 3 u).setBox 4 v).drew).bfr 5
theorem TrailV.backCell {w : World} {B : Nat → Prop} {b : Nat} {T : Tr} {val : Sl → Value} (h : TrailV w B b T val) (u v : Value) : ∃ x, ((w.setCell ⟨b, 3, none⟩ u).setCell ⟨b, 4, none⟩ v).drew.cell? ⟨b, 5, none⟩ = some x := by
  obtain ⟨ct, hm, ht⟩ := h
  have := (((hm.setBox 3 u).setBox 4 v).drew).bcell 5
  exact ⟨.int .i64 (T.nx : Nat), this.trans (by simp [boxOf])⟩
theorem TrailV.litX {w : World} {B : Nat → Prop} {b : Nat} {T : Tr} {val : Sl → Value} (h : TrailV w B b T val) {g q c : Nat} (hv : val .li = .slice (some ⟨g, 0, none⟩) q c) (i : Nat) (hi : i < T.lits.length) : w.cell? ⟨g, i, none⟩ = some (.int .i64 (T.lits.getD i 0)) := by
  obtain ⟨g', c', e, _, _, _, _, hx⟩ := h.liAt (by omega)
  rw [hv] at e
  injection e with e _ _
  injection e with e
  injection e with e _ _
  subst e
  exact hx i hi
theorem TrailV.bfree {w : World} {B : Nat → Prop} {b : Nat} {T : Tr} {val : Sl → Value} (h : TrailV w B b T val) (i : Nat) : w.frozen? ⟨b, i, none⟩ = false := by
  obtain ⟨ct, hm, ht⟩ := h
  exact hm.bfr i

set_option maxRecDepth 100000 in
set_option maxHeartbeats 4000000 in
theorem Back_ok {w : World} {B : Nat → Prop} {b n : Nat} {T : Tr} (h : TrailAt w B b T) (hg : Good n T) (lv : Nat) (hlv : lv < T.starts.length) :
    Calls Try.prog 14 #[.pointer (some ⟨b, 0, none⟩), .int .i64 (lv : Nat)] w fun e w' => e = .returned (.int .i64 0) ∧ Keep B w w' ∧ TrailAt w' B b (backT T lv) := by
  have HL := Lib.hid (Level_any h)
  obtain ⟨val, h⟩ := h
  have h : TrailV w B b T val := h
  have hs := hg.stIn lv hlv
  obtain ⟨s, es⟩ : ∃ s : Nat, T.starts.getD lv 0 = (s : Nat) := ⟨(T.starts.getD lv 0).toNat, by omega⟩
  have hso : startOf T lv = s := by unfold startOf; rw [es]; rfl
  have hsl : s < T.lits.length := by omega
  obtain ⟨gl, c, hli, hlc, c3, hgl, hbW, hlx⟩ := h.liAt (by omega)
  obtain ⟨gs, sc, hst, hsc, c4, hgs, hsx⟩ := h.stAt (by omega)
  have cs := hsx lv hlv
  rw [es] at cs
  have hll20 := hg.litsLen
  have hn20 := hg.ok.n2
  have hsll : T.starts.length ≤ 20000 := by
    have h1 : ∀ a, a < T.starts.length → (a : Int) ≤ T.starts.getD a 0 := fun a => by
      induction a with
      | zero => intro ha; have := hg.stIn 0 ha; omega
      | succ a ih => intro ha; have := ih (by omega); have := hg.stUp a (a + 1) (by omega) ha; omega
    have h2 := h1 (T.starts.length - 1) (by omega)
    have h3 := hg.stIn (T.starts.length - 1) (by omega)
    omega
  obtain ⟨ll, hll⟩ : ∃ ll, T.lits.length = ll := ⟨_, rfl⟩
  obtain ⟨sl, hsl2⟩ : ∃ sl, T.starts.length = sl := ⟨_, rfl⟩
  rw [hll] at hli hlc c3 hsl hll20
  rw [hsl2] at hst hsc c4 hlv HL hsll
  have REL0 : BackRel w B b T val s 0 w := ⟨by rw [List.take_zero]; exact h, Keep.refl B w⟩
  have HSO := Lib.hid hso
  have HLI := Lib.hid hli
  have HST := Lib.hid hst
  have HLL := Lib.hid hll
  have HSL := Lib.hid hsl2
  have HG := Lib.hid hg
  have hcs : ¬ c = s := by omega
  have hlvs : (lv : Int) < (sl : Int) := by omega
  have hlv0 : (0 : Int) ≤ (lv : Int) := by omega
  have hne : ((lv : Int) == (sl : Int)) = false := by simp; omega
  have hls : (s : Int) ≤ (ll : Int) := by omega
  have hls' : s ≤ ll := by omega
  have hln : ll ≤ 20000 := by omega
  clear h hs es hso hli hst hll hsl2 hg hlx hsx hll20 hn20
  go_enter Try.func14, Try.ntmps14
  go_wp2_with (go_at_call 12; refine HL.out.mono ?_; rintro e w' ⟨rfl, hw⟩; obtain rfl := hw.symm)
  clear c4 cs HL hne
  as_aux_lemma =>
  go_loopw [34] (fun v34 wr => ∃ i : Nat, v34 = .int .i64 i ∧ i ≤ ll - s ∧ BackRel w B b T val s i wr) (fun v34 _ => (ll - s) - (intOf v34).toNat)
  case atStart => exact ⟨0, rfl, by omega, REL0⟩
  case round =>
    clear REL0 c3
    obtain ⟨i, rfl, hil, HT, HK⟩ := hrel
    have HT1 := Lib.hid HT
    have HK1 := Lib.hid HK
    by_cases hlt : i < ll - s
    · have cx : wr.cell? ⟨gl, s + i, none⟩ = some (.int .i64 (T.lits.getD (s + i) 0)) := HT.litX HLI.out (s + i) (by show s + i < T.lits.length; rw [HLL.out]; omega)
      have hbr := (HT.boxW).2
      have hxv := HG.out.litVar (mem_getD (d := 0) (show s + i < T.lits.length by rw [HLL.out]; omega))
      have hn20 := HG.out.ok.n2
      have hxd : (T.lits.drop s).take (i + 1) = (T.lits.drop s).take i ++ [T.lits.getD (s + i) 0] := by
        rw [List.take_succ_eq_append_getElem (by rw [List.length_drop, HLL.out]; omega)]
        congr 2
        rw [List.getElem_drop, List.getD_eq_getElem?_getD, List.getElem?_eq_getElem (by rw [HLL.out]; omega), Option.getD_some]
      have HXD := Lib.hid hxd
      obtain ⟨x, hx⟩ : ∃ x, T.lits.getD (s + i) 0 = x := ⟨_, rfl⟩
      rw [hx] at cx hxv
      have HX := Lib.hid hx
      obtain ⟨g, c2, m, q, em, hmq, hq, d2, _, hg2, ⟨o1, o2, o3, d3, d4, d5⟩, f3, f4, f5, HF⟩ := HT.strike x (by show 1 ≤ x.natAbs ∧ x.natAbs ≤ (clearF T.F _).length; rw [clearF_len, HG.out.ok.fl]; exact hxv)
      have hm1 : (m : Int) < (q : Int) := by omega
      have hm0 : (0 : Int) ≤ (m : Int) := by omega
      have hi1 : (i : Int) < ((ll - s : Nat) : Int) := by omega
      have hi0 : (0 : Int) ≤ (i : Int) := by omega
      have hiN : i < ll - s := hlt
      have REL1 : Hid (BackRel w B b T val s (i + 1) (((wr.setCell ⟨g, m * 3, none⟩ (.int .i64 0)).setCell ⟨g, m * 3 + 1, none⟩ (.int .i64 (-1))).setCell ⟨g, m * 3 + 2, none⟩ (.int .i64 (-1)))) := Lib.hid (by
        obtain ⟨t1, k1⟩ := HF.out
        refine ⟨?_, HK1.out.trans k1⟩
        rw [HXD.out, clearF_snoc, HX.out]
        exact t1)
      have HMX : Hid (m = x.natAbs - 1) := Lib.hid em
      have h1x := hxv.1
      have h2x : x.natAbs ≤ 20000 := by omega
      have hmb : m ≤ 20000 := by omega
      clear hxd hx HF HT HK hq hxv hn20 em
      by_cases hneg : x < 0
      · obtain rfl : x = -((m : Int) + 1) := by have := HMX.out; omega
        have w1 : ¬ ((m : Int) + 1 ≤ -((m : Int) + 1)) := by omega
        clear h1x h2x
        as_aux_lemma =>
        go_wp2_with fail
        go_roundw
        case rel => exact ⟨i + 1, by go_num, by omega, REL1.out⟩
        case measure => simp [intOf]; omega
      · obtain rfl : x = (m : Int) + 1 := by have := HMX.out; omega
        have w1 : (-((m : Int) + 1)) ≤ (m : Int) + 1 := by omega
        clear h1x h2x hneg
        as_aux_lemma =>
        go_wp2_with fail
        go_roundw
        case rel => exact ⟨i + 1, by go_num, by omega, REL1.out⟩
        case measure => simp [intOf]; omega
    · obtain rfl : i = ll - s := by omega
      have c3 := HT.boxAt3 HLI.out
      have c4 := HT.boxAt4 HST.out
      have f3 := HT.bfree 3
      have f4 := HT.bfree 4
      have f5 := HT.bfree 5
      have c5 := HT.boxAt5
      have hbr := (HT.boxW).2
      have HEND := Lib.hid (HT.backEnd (gl := gl) (c := c) (gs := gs) (sc := sc) (s := s) (lv := lv) (by rw [HLI.out, ← HLL.out]; rfl) (by rw [HST.out, ← HSL.out]; rfl) (by show s ≤ T.lits.length; rw [HLL.out]; exact hls') (by show lv ≤ T.starts.length; rw [HSL.out]; omega))
      have hcs2 : s ≤ c := by omega
      have hlsc : lv ≤ sc := by omega
      clear HT HK
      go_wp2_with fail
      go_big_region
      clear c3 c4 f3 f4 c5
      have e5 : ((wr.setCell ⟨b, 3, none⟩ (.slice (some ⟨gl, 0, none⟩) s s)).setCell ⟨b, 4, none⟩ (.slice (some ⟨gs, 0, none⟩) lv sc)).drew.frozen? ⟨b, 5, none⟩ = false := HT1.out.backFree _ _
      have d5 : ∃ u, ((wr.setCell ⟨b, 3, none⟩ (.slice (some ⟨gl, 0, none⟩) s s)).setCell ⟨b, 4, none⟩ (.slice (some ⟨gs, 0, none⟩) lv sc)).drew.cell? ⟨b, 5, none⟩ = some u := HT1.out.backCell _ _
      obtain ⟨u5, d5⟩ := d5
      have hb2 : b < ((wr.setCell ⟨b, 3, none⟩ (.slice (some ⟨gl, 0, none⟩) s s)).setCell ⟨b, 4, none⟩ (.slice (some ⟨gs, 0, none⟩) lv sc)).drew.heap.size := by
        have := World.block_lt_of_cell? _ _ d5
        exact this
      generalize ((wr.setCell ⟨b, 3, none⟩ (.slice (some ⟨gl, 0, none⟩) s s)).setCell ⟨b, 4, none⟩ (.slice (some ⟨gs, 0, none⟩) lv sc)).drew = w8 at *
      go_wp2_with fail
      go_ret
      obtain ⟨t9, k9⟩ := HEND.out
      refine ⟨rfl, HK1.out.trans k9, ?_⟩
      unfold backT
      rw [HSO.out]
      have et : (T.lits.drop s).take (ll - s) = T.lits.drop s := List.take_of_length_le (by rw [List.length_drop, HLL.out]; exact Nat.le_refl _)
      rw [et] at t9
      exact t9
end Go.Proofs.Ytngegkgmenfelaa
