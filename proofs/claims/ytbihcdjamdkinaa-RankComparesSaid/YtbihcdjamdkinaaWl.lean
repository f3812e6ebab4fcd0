/-
  New.
-/
import Derived.Test.YtbihcdjamdkinaaWk
import Derived.BigRegion
import Derived.Laws.MakeOwn
namespace Go.Proofs.Ytbihcdjamdkinaa
open Go.RowKit Go.Lib

/-- make([]int, k). -/
theorem make_ints (k : Nat) (hk : k ≤ 1000000) (w : World) : (Instr.makeSlice 25 (.int .i64 k) (.int .i64 k)).run Try.prog w = .ok (.slice (some ⟨w.heap.size, 0, none⟩) k k) (w.alloc (.cells (Array.replicate k (.int .i64 0)) 3)) := by
  obtain ⟨i0, hi0, hz0, hz1, hz2⟩ := info_parts info3
  have h := run_make (P := Try.prog) w 25 3 i0 (.int .i64 0) Try.underlying25 hi0 hz0 .i64 .i64 k k (by omega) (Int.le_refl _) (by rw [hz2]; omega) (by omega)
  rw [hz1, Int.toNat_natCast, Nat.mul_one] at h
  rw [h]
  congr 3
  apply Array.ext
  · simp [madeCells]
  · intro j h1 h2
    simp [madeCells, Value.cells, Nat.mod_one]

theorem ownI_made (w : World) (k : Nat) (hk : k ≤ 1000000) : OwnI (w.alloc (.cells (Array.replicate k (.int .i64 0)) 3)) 0 (.slice (some ⟨w.heap.size, 0, none⟩) k k) (List.replicate k 0) := by
  refine ⟨by simp, .inr ⟨w.heap.size, k, Array.replicate k (.int .i64 0), by simp, Nat.zero_le _, heap_alloc_new _ _, by simp, by unfold maxLen; omega, by simp, ?_⟩⟩
  simp

/-- As HInv, whatever is told of those that are out. -/
structure HInv0 (n : Nat) (L P A : List Int) (I : Nat → Bool) : Prop where
  inv : Inv n L P A
  heap : Heap A L
  mem : ∀ v, 1 ≤ v → v ≤ n → (I v = true ↔ Ytbihcdjamdkinaa.mem L v)
  len : L.length = cnt I n

theorem HInv0.put {n : Nat} {L P A : List Int} {I : Nat → Bool} (h : HInv0 n L P A I) {v : Nat} (h1 : 1 ≤ v) (h2 : v ≤ n) (hv : I v = false) :
    HInv0 n (upF A (L.length + 1) L.length (L ++ [(v : Int)]) (P.set v L.length)).1 (upF A (L.length + 1) L.length (L ++ [(v : Int)]) (P.set v L.length)).2 A (upd I v true) := by
  have hn : ¬ Ytbihcdjamdkinaa.mem L v := fun e => by have := (h.mem v h1 h2).2 e; rw [hv] at this; cases this
  have hlen : (L ++ [(v : Int)]).length = L.length + 1 := by simp
  have hi : L.length < (L ++ [(v : Int)]).length := by omega
  obtain ⟨k1, k2, k3⟩ := up_keeps (A := A) (L.length + 1) L.length (L ++ [(v : Int)]) (P.set v L.length) hi
  refine ⟨(upF_inv (L.length + 1) L.length _ _ (h.inv.push h1 h2 hn) hi).1, up_heap (L.length + 1) L.length _ _ (by omega) hi (fun j j0 jl jn => ?_) (fun i0 j j0 jl jp => by omega), fun u a b => ?_, ?_⟩
  · have jl' : j < L.length := by omega
    unfold Ok
    rw [at_push_lt jl', at_push_lt (by omega)]
    exact h.heap j j0 jl'
  · rw [k1 u]
    by_cases e : u = v
    · subst e
      rw [upd_same]
      exact ⟨fun _ => ⟨L.length, by omega, at_push_eq⟩, fun _ => rfl⟩
    · rw [upd_ne e, h.mem u a b]
      constructor
      · rintro ⟨i, hi, e'⟩
        exact ⟨i, by omega, by rw [at_push_lt hi]; exact e'⟩
      · rintro ⟨i, hi, e'⟩
        by_cases ei : i = L.length
        · subst ei; rw [at_push_eq] at e'; exact absurd e'.symm e
        · have hi' : i < L.length := by omega
          exact ⟨i, hi', by rw [at_push_lt hi'] at e'; exact e'⟩
  · rw [k3]
    have := cnt_upd I v true n h1 h2
    rw [hv] at this
    have hl := h.len
    simp at this
    omega

set_option maxRecDepth 100000 in
set_option maxHeartbeats 1000000 in
theorem New_bad (n : Int) (w : World) (hn : n < 0 ∨ 20000 < n) : Calls Try.prog 16 #[.int .i64 n] w fun e w' => e = .returned (.tuple #[.pointer none, .int .i64 1]) ∧ w' = w := by
  by_cases h0 : n < 0
  · have d1 : decide (n < 0) = true := by simpa using h0
    clear hn h0
    go_enter Try.func16, Try.ntmps16
    go_wp2_with fail
    go_ret2
    exact ⟨rfl, rfl⟩
  · have d1 : decide (n < 0) = false := by simpa using h0
    have d2 : decide (20000 < n) = true := by simp; omega
    clear hn h0
    go_enter Try.func16, Try.ntmps16
    go_wp2_with fail
    go_ret2
    exact ⟨rfl, rfl⟩

theorem new_qat (w : World) (B : Nat → Prop) (hB : There B w) (n gp ga : Nat) (hn : n ≤ 20000) (h : (gp = w.heap.size ∧ ga = w.heap.size + 1) ∨ (gp = w.heap.size + 1 ∧ ga = w.heap.size)) :
    QAt (((w.alloc (.cells (Array.replicate (n + 1) (.int .i64 0)) 3)).alloc (.cells (Array.replicate (n + 1) (.int .i64 0)) 3)).alloc (.cells #[.slice none 0 0, .slice (some ⟨gp, 0, none⟩) (n + 1) (n + 1), .slice (some ⟨ga, 0, none⟩) (n + 1) (n + 1), .int .i64 0] 65)).drew
      B (w.heap.size + 1 + 1) (.slice none 0 0) (.slice (some ⟨gp, 0, none⟩) (n + 1) (n + 1)) (.slice (some ⟨ga, 0, none⟩) (n + 1) (n + 1)) [] (List.replicate (n + 1) 0) (List.replicate (n + 1) 0) 0 ∧
    Keep B w (((w.alloc (.cells (Array.replicate (n + 1) (.int .i64 0)) 3)).alloc (.cells (Array.replicate (n + 1) (.int .i64 0)) 3)).alloc (.cells #[.slice none 0 0, .slice (some ⟨gp, 0, none⟩) (n + 1) (n + 1), .slice (some ⟨ga, 0, none⟩) (n + 1) (n + 1), .int .i64 0] 65)).drew := by
  refine ⟨?_, ((((Keep.refl B w).alloc hB _).alloc (fun k hk => by have := hB k hk; simp; omega) _).alloc (fun k hk => by have := hB k hk; simp; omega) _).drew⟩
  have o1 := (ownI_made w (n + 1) (by omega)).alloc (.cells (Array.replicate (n + 1) (.int .i64 0)) 3)
  have o2 := ownI_made (w.alloc (.cells (Array.replicate (n + 1) (.int .i64 0)) 3)) (n + 1) (by omega)
  rw [show (w.alloc (.cells (Array.replicate (n + 1) (.int .i64 0)) 3)).heap.size = w.heap.size + 1 from by simp] at o2
  have hb := heap_alloc_new ((w.alloc (.cells (Array.replicate (n + 1) (.int .i64 0)) 3)).alloc (.cells (Array.replicate (n + 1) (.int .i64 0)) 3)) (.cells #[.slice none 0 0, .slice (some ⟨gp, 0, none⟩) (n + 1) (n + 1), .slice (some ⟨ga, 0, none⟩) (n + 1) (n + 1), .int .i64 0] 65)
  rw [show ((w.alloc (.cells (Array.replicate (n + 1) (.int .i64 0)) 3)).alloc (.cells (Array.replicate (n + 1) (.int .i64 0)) 3)).heap.size = w.heap.size + 1 + 1 from by simp] at hb
  have ob : ∀ (g n c : Nat), (Value.slice (some ⟨g, 0, none⟩) n c).ownBlock = some g := fun _ _ _ => rfl
  have nb : ∀ k, w.heap.size ≤ k → ¬ B k := fun k hk hb => by have := hB k hb; omega
  rcases h with ⟨rfl, rfl⟩ | ⟨rfl, rfl⟩
  · exact
      { box := hb
        l := OwnI.nil _ _
        p := o1.alloc _
        a := o2.alloc _
        lp := .inl rfl
        la := .inl rfl
        pa := .inr (by rw [ob, ob]; simp)
        bl := by simp [Value.ownBlock]
        bp := by rw [ob]; simp; omega
        ba := by rw [ob]; simp
        base := nb _ (by omega)
        nl := fun k hk => by simp [Value.ownBlock] at hk
        np := fun k hk => by rw [ob] at hk; injection hk with hk; subst hk; exact nb _ (by omega)
        na := fun k hk => by rw [ob] at hk; injection hk with hk; subst hk; exact nb _ (by omega)
        lt := fun k hk => by have := hB k hk; simp [World.drew]; omega }
  · exact
      { box := hb
        l := OwnI.nil _ _
        p := o2.alloc _
        a := o1.alloc _
        lp := .inl rfl
        la := .inl rfl
        pa := .inr (by rw [ob, ob]; simp)
        bl := by simp [Value.ownBlock]
        bp := by rw [ob]; simp
        ba := by rw [ob]; simp; omega
        base := nb _ (by omega)
        nl := fun k hk => by simp [Value.ownBlock] at hk
        np := fun k hk => by rw [ob] at hk; injection hk with hk; subst hk; exact nb _ (by omega)
        na := fun k hk => by rw [ob] at hk; injection hk with hk; subst hk; exact nb _ (by omega)
        lt := fun k hk => by have := hB k hk; simp [World.drew]; omega }

/-- Those that were put in till now. -/
def upToI (k : Nat) : Nat → Bool := fun v => decide (v ≤ k)
theorem upToI_succ (k : Nat) : upd (upToI k) (k + 1) true = upToI (k + 1) := by
  funext v
  unfold upd upToI
  by_cases e : v = k + 1
  · subst e; simp
  · rw [if_neg e]; congr 1; simp; omega
theorem hinv0_start (n : Nat) : HInv0 n [] (List.replicate (n + 1) 0) (List.replicate (n + 1) 0) (upToI 0) :=
  ⟨⟨by simp, by simp, fun i hi => by simp at hi⟩, fun j _ hj => by simp at hj, fun v h1 _ => by unfold upToI mem; simp; omega, by
    have : ∀ n, cnt (upToI 0) n = 0 := fun n => by
      induction n with
      | zero => rfl
      | succ k ih => unfold cnt; rw [ih]; simp [upToI]
    rw [this]; rfl⟩

set_option maxRecDepth 100000 in
set_option maxHeartbeats 2000000 in
theorem New_good (n : Nat) (w : World) (hn : n ≤ 20000) (B : Nat → Prop) (hB : There B w) : Calls Try.prog 16 #[.int .i64 n] w fun e w' => ∃ b lv pv av L P, e = .returned (.tuple #[.pointer (some ⟨b, 0, none⟩), .int .i64 0]) ∧ Keep B w w' ∧ w.heap.size ≤ b ∧ QAt w' B b lv pv av L P (List.replicate (n + 1) 0) 0 ∧ HInv0 n L P (List.replicate (n + 1) 0) (upToI n) := by
  have d1 : decide ((n : Int) < 0) = false := by simp
  have d2 : decide ((20000 : Int) < n) = false := by simp; omega
  have hw : IntKind.i64.wrap ((n : Int) + 1) = (n : Int) + 1 := by simp [IntKind.wrap, IntKind.signed, IntKind.bits]; omega
  have hm : ∀ w, (Instr.makeSlice 25 (.int .i64 ((n : Int) + 1)) (.int .i64 ((n : Int) + 1))).run Try.prog w = .ok (.slice (some ⟨w.heap.size, 0, none⟩) (n + 1) (n + 1)) (w.alloc (.cells (Array.replicate (n + 1) (.int .i64 0)) 3)) := fun w => by
    have := make_ints (n + 1) (by omega) w
    rw [show ((n + 1 : Nat) : Int) = (n : Int) + 1 from by omega] at this
    exact this
  have HB := Lib.hid hB
  clear hB
  go_enter Try.func16, Try.ntmps16
  go_wp2_with fail
  go_region
  all_goals go_wp2_with fail
  · obtain ⟨q0, k0⟩ := new_qat w B HB.out n _ _ hn (.inl ⟨rfl, rfl⟩)
    have Q0 := Lib.hid q0
    have K0 := Lib.hid k0
    have hbs : Hid (w.heap.size ≤ w.heap.size + 1 + 1) := Lib.hid (by omega)
    clear hm hw d1 d2 q0 k0
    generalize w.heap.size + 1 + 1 = b at *
    go_loopw [22] (fun vi wr => ∃ (k : Nat) (lv pv av : Value) (L P : List Int), vi = .int .i64 k ∧ k ≤ n ∧ Hid (QAt wr B b lv pv av L P (List.replicate (n + 1) 0) 0) ∧ Hid (Keep B w wr) ∧ Hid (HInv0 n L P (List.replicate (n + 1) 0) (upToI k))) (fun vi _ => n - (intOf vi).toNat)
    case atStart => exact ⟨0, _, _, _, _, _, rfl, Nat.zero_le _, Q0, K0, Lib.hid (hinv0_start n)⟩
    case round =>
      obtain ⟨k, lv, pv, av, L, P, rfl, hk, hQ, hK, hI⟩ := hrel
      by_cases hlt : k < n
      · have hll : L.length ≤ n := by rw [hI.out.len]; exact cnt_le _ _
        have hv : upToI k (k + 1) = false := by unfold upToI; simp
        have hn' : ¬ Ytbihcdjamdkinaa.mem L (k + 1) := fun e => by have := (hI.out.mem (k + 1) (by omega) (by omega)).2 e; rw [hv] at this; cases this
        have PU := Lib.hid (put_any hQ.out (k + 1) (by rw [hI.out.inv.lenP]; omega) (by omega) (hI.out.inv.push (by omega) (by omega) hn'))
        have HN := Lib.hid (hI.out.put (v := k + 1) (by omega) (by omega) hv)
        rw [upToI_succ, show ((k + 1 : Nat) : Int) = (k : Int) + 1 from by omega] at HN
        rw [show ((k + 1 : Nat) : Int) = (k : Int) + 1 from by omega] at PU
        clear hv hn' hll Q0 K0
        go_wp2_with (go_at_call 36; refine PU.out.mono ?_; rintro e w' ⟨rfl, hb, lv', hq⟩; have hb' := Lib.hid (hK.out.trans hb); have hq' := Lib.hid hq; clear hb hq)
        go_roundw
        case rel => exact ⟨k + 1, lv', _, _, _, _, by go_num, by omega, hq', hb', HN⟩
        case measure => simp [intOf]; omega
      · obtain rfl : k = n := by omega
        clear Q0 K0
        go_wp2_with fail
        go_ret2
        exact ⟨b, lv, pv, av, L, P, rfl, hK.out, hbs.out, hQ.out, hI.out⟩
  · obtain ⟨q0, k0⟩ := new_qat w B HB.out n _ _ hn (.inr ⟨rfl, rfl⟩)
    have Q0 := Lib.hid q0
    have K0 := Lib.hid k0
    have hbs : Hid (w.heap.size ≤ w.heap.size + 1 + 1) := Lib.hid (by omega)
    clear hm hw d1 d2 q0 k0
    generalize w.heap.size + 1 + 1 = b at *
    go_loopw [22] (fun vi wr => ∃ (k : Nat) (lv pv av : Value) (L P : List Int), vi = .int .i64 k ∧ k ≤ n ∧ Hid (QAt wr B b lv pv av L P (List.replicate (n + 1) 0) 0) ∧ Hid (Keep B w wr) ∧ Hid (HInv0 n L P (List.replicate (n + 1) 0) (upToI k))) (fun vi _ => n - (intOf vi).toNat)
    case atStart => exact ⟨0, _, _, _, _, _, rfl, Nat.zero_le _, Q0, K0, Lib.hid (hinv0_start n)⟩
    case round =>
      obtain ⟨k, lv, pv, av, L, P, rfl, hk, hQ, hK, hI⟩ := hrel
      by_cases hlt : k < n
      · have hll : L.length ≤ n := by rw [hI.out.len]; exact cnt_le _ _
        have hv : upToI k (k + 1) = false := by unfold upToI; simp
        have hn' : ¬ Ytbihcdjamdkinaa.mem L (k + 1) := fun e => by have := (hI.out.mem (k + 1) (by omega) (by omega)).2 e; rw [hv] at this; cases this
        have PU := Lib.hid (put_any hQ.out (k + 1) (by rw [hI.out.inv.lenP]; omega) (by omega) (hI.out.inv.push (by omega) (by omega) hn'))
        have HN := Lib.hid (hI.out.put (v := k + 1) (by omega) (by omega) hv)
        rw [upToI_succ, show ((k + 1 : Nat) : Int) = (k : Int) + 1 from by omega] at HN
        rw [show ((k + 1 : Nat) : Int) = (k : Int) + 1 from by omega] at PU
        clear hv hn' hll Q0 K0
        go_wp2_with (go_at_call 36; refine PU.out.mono ?_; rintro e w' ⟨rfl, hb, lv', hq⟩; have hb' := Lib.hid (hK.out.trans hb); have hq' := Lib.hid hq; clear hb hq)
        go_roundw
        case rel => exact ⟨k + 1, lv', _, _, _, _, by go_num, by omega, hq', hb', HN⟩
        case measure => simp [intOf]; omega
      · obtain rfl : k = n := by omega
        clear Q0 K0
        go_wp2_with fail
        go_ret2
        exact ⟨b, lv, pv, av, L, P, rfl, hK.out, hbs.out, hQ.out, hI.out⟩
end Go.Proofs.Ytbihcdjamdkinaa
