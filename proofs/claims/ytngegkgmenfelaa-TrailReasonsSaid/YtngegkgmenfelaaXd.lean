/-
  The statements' helper shown: the document's examples.
-/
import Derived.Test.YtngegkgmenfelaaXac
namespace Go.Proofs.Ytngegkgmenfelaa
open Go.RowKit Go.Lib
attribute [local go_sem ↓] Go.wp_at_zero Go.wp_at_succ

def L0 : List (List Int) := [[-1, 2], [-2, 3], [-1, -3, 4]]
def S1 : Tr := putAll (emptyT 4) L0
def S2 : Tr := decS S1 1
def S3 : Tr := (followT S2).2
def S4 : Tr := backT S3 0
def S5 : Tr := putT S4 [-4]
def S6 : Tr := decS S5 1
theorem s1_dec : decE S1 1 = 0 := by decide +kernel
theorem s2_follow : (followT S2).1 = (-1, true) := by decide +kernel
theorem s3_lits : S3.lits.length = 4 ∧ S3.lits.getD 0 0 = 1 := by decide +kernel
theorem s3_fact : (factOf S3 4).2.1 = 1 ∧ (factOf S3 4).2.2 = 2 := by decide +kernel
theorem s3_starts : S3.starts.length = 1 := by decide +kernel
theorem s4_val : valOf S4 2 = 0 := by decide +kernel
theorem s5_dec : decE S5 1 = 0 := by decide +kernel
theorem s6_follow : (followT S6).1 = (3, false) ∨ (followT S6).1 = (0, false) ∨ (followT S6).1 = (1, false) ∨ (followT S6).1 = (2, false) := by decide +kernel
theorem s1_good : Good 4 S1 := (Good.putAll L0 (emptyT 4) (Good.new 4 (by omega)) (by decide +kernel) (by decide +kernel)).good
theorem s2_good : Good 4 S2 := s1_good.decS 1
theorem s3_good : Good 4 S3 := s2_good.followT.good
theorem s4_good : Good 4 S4 := s3_good.back 0 (by rw [s3_starts]; omega)
theorem s5_good : Good 4 S5 := (s4_good.put [-4] (by decide +kernel) (by decide +kernel)).good
theorem s6_good : Good 4 S6 := s5_good.decS 1

theorem reads_block {w : World} {b c : Nat} {e : TypeId} {xs : List Int} (h : w.heap[b]? = some (.cells (ints xs).toArray e (0, 0))) : Reads w (.slice (some ⟨b, 0, none⟩) xs.length c) xs := by
  refine .inr ⟨b, 0, c, rfl, lt_of_block h, fun j hj => ?_⟩
  rw [Nat.zero_add, cell_of_row w b j _ e (0, 0) h]
  have := ints_at hj
  rw [List.getElem?_toArray]
  exact this
theorem readsL_block {w : World} {b c : Nat} {e : TypeId} {L : List (List Int)} {vs : List Value} (h : w.heap[b]? = some (.cells vs.toArray e (0, 0))) (hl : vs.length = L.length) (hv : ∀ j, j < L.length → Reads w (vs.getD j undef) (L.getD j [])) : ReadsL w (.slice (some ⟨b, 0, none⟩) L.length c) L := by
  refine .inr ⟨b, 0, c, fun j => vs.getD j undef, rfl, lt_of_block h, fun j hj => ⟨?_, hv j hj⟩⟩
  rw [Nat.zero_add, cell_of_row w b j _ e (0, 0) h, List.getElem?_toArray, List.getElem?_eq_getElem (by omega)]
  show some vs[j] = some (vs.getD j undef)
  rw [List.getD_eq_getElem?_getD, List.getElem?_eq_getElem (by omega), Option.getD_some]
theorem ReadsL.keep {w w' : World} {B : Nat → Prop} {s : Value} {L : List (List Int)} (h : ReadsL w s L) (hk : Keep B w w') (hB : ∀ k, k < w.heap.size → B k) : ReadsL w' s L := h.below (hk.toBelow hB) (Nat.le_refl _)
theorem L0_in : In64L L0 := by
  show ∀ c ∈ L0, ∀ x ∈ c, (-9223372036854775808 ≤ x ∧ x ≤ 9223372036854775807)
  decide +kernel

/-- The blocks of the formula. -/
def A1 : Obj := .cells #[.int .i64 (-1), .int .i64 2] 3
def A2 : Obj := .cells #[.int .i64 (-2), .int .i64 3] 3
def A3 : Obj := .cells #[.int .i64 (-1), .int .i64 (-3), .int .i64 4] 3
def A4 (k : Nat) : Obj := .cells #[.slice (some ⟨k, 0, none⟩) 2 2, .slice (some ⟨k + 1, 0, none⟩) 2 2, .slice (some ⟨k + 1 + 1, 0, none⟩) 3 3] 23
theorem L0_reads (w : World) : ReadsL ((((w.alloc A1).alloc A2).alloc A3).alloc (A4 w.heap.size)) (.slice (some ⟨w.heap.size + 1 + 1 + 1, 0, none⟩) 3 3) L0 ∧ Below w.heap.size w ((((w.alloc A1).alloc A2).alloc A3).alloc (A4 w.heap.size)) := by
  have s1 : (w.alloc A1).heap.size = w.heap.size + 1 := by simp
  have s2 : ((w.alloc A1).alloc A2).heap.size = w.heap.size + 1 + 1 := by simp
  have s3 : (((w.alloc A1).alloc A2).alloc A3).heap.size = w.heap.size + 1 + 1 + 1 := by simp
  have a4 := heap_alloc_new (((w.alloc A1).alloc A2).alloc A3) (A4 w.heap.size)
  have a3 := heap_alloc_new ((w.alloc A1).alloc A2) A3
  have a2 := heap_alloc_new (w.alloc A1) A2
  have a1 := heap_alloc_new w A1
  rw [s3] at a4
  rw [s2] at a3
  rw [s1] at a2
  have up : ∀ k o, k < w.heap.size + 1 + 1 + 1 → (((w.alloc A1).alloc A2).alloc A3).heap[k]? = some o → ((((w.alloc A1).alloc A2).alloc A3).alloc (A4 w.heap.size)).heap[k]? = some o := fun k o hk h => (Below.heap_alloc _ _ k (by omega)).trans h
  have up2 : ∀ k o, k < w.heap.size + 1 + 1 → ((w.alloc A1).alloc A2).heap[k]? = some o → (((w.alloc A1).alloc A2).alloc A3).heap[k]? = some o := fun k o hk h => (Below.heap_alloc _ _ k (by omega)).trans h
  have up1 : ∀ k o, k < w.heap.size + 1 → (w.alloc A1).heap[k]? = some o → ((w.alloc A1).alloc A2).heap[k]? = some o := fun k o hk h => (Below.heap_alloc _ _ k (by omega)).trans h
  have b3 := up _ _ (by omega) a3
  have b2 := up _ _ (by omega) (up2 _ _ (by omega) a2)
  have b1 := up _ _ (by omega) (up2 _ _ (by omega) (up1 _ _ (by omega) a1))
  refine ⟨readsL_block (L := L0) (vs := [.slice (some ⟨w.heap.size, 0, none⟩) 2 2, .slice (some ⟨w.heap.size + 1, 0, none⟩) 2 2, .slice (some ⟨w.heap.size + 1 + 1, 0, none⟩) 3 3]) a4 rfl ?_, ((((Below.refl _ _).alloc (Nat.le_refl _) _).alloc (by omega) _).alloc (by omega) _).alloc (by omega) _⟩
  intro j hj
  match j, hj with
  | 0, _ => exact reads_block (xs := [-1, 2]) b1
  | 1, _ => exact reads_block (xs := [-2, 3]) b2
  | 2, _ => exact reads_block (xs := [-1, -3, 4]) b3

theorem keep_of {w0 w1 w2 : World} (hb : Below w0.heap.size w0 w1) (hk : Keep (fun k => k < w1.heap.size) w1 w2) : Below w0.heap.size w0 w2 := hb.trans ((hk.toBelow (fun _ h => h)).mono hb.size)

set_option maxRecDepth 100000 in
set_option maxHeartbeats 8000000 in
theorem shown_any (w : World) : Calls Try.prog 8 #[] w fun e w' => e = .returned (.bool true) ∧ Below w.heap.size w w' := by
  obtain ⟨h1, h2⟩ := L0_reads w
  obtain ⟨B, hB⟩ : ∃ B : Nat → Prop, B = fun k => k < ((((w.alloc A1).alloc A2).alloc A3).alloc (A4 w.heap.size)).heap.size := ⟨_, rfl⟩
  have HN := Lib.hid (New_ok (B := B) 4 h1 L0_in (by decide +kernel) (by rw [hB]; exact fun k hk => hk) (by decide +kernel) (fun w' hk => h1.keep hk (by rw [hB]; exact fun k h => h)))
  have HKB : Hid (∀ w', Keep B ((((w.alloc A1).alloc A2).alloc A3).alloc (A4 w.heap.size)) w' → Below w.heap.size w w') := Lib.hid (by rw [hB]; exact fun w' => keep_of (w2 := w') h2)
  unfold A1 A2 A3 A4 at HN HKB
  clear h1 h2 hB
  obtain ⟨T1, hT1⟩ : ∃ T1, putAll (emptyT 4) L0 = T1 := ⟨_, rfl⟩
  have HT1 : Hid (T1 = S1) := Lib.hid hT1.symm
  rw [hT1] at HN
  clear hT1
  go_enter Try.func8, Try.ntmps8
  go_wp2_with fail
  go_at_call 10
  refine HN.out.mono ?_
  rintro e w2 ⟨b, rfl, k2, _, t2⟩
  have K2 := Lib.hid k2
  have HD := Lib.hid (Decide_any t2 (HT1.out ▸ s1_good) 1 (by unfold In64; omega))
  rw [show decE T1 1 = 0 from HT1.out ▸ s1_dec, show decS T1 1 = S2 from HT1.out ▸ rfl] at HD
  clear k2 t2 HN HT1
  go_wp2_with fail
  go_at_call 27
  refine HD.out.mono ?_
  rintro e w3 ⟨rfl, k3, t3⟩
  have K3 := Lib.hid (K2.out.trans k3)
  have HF := Lib.hid (Follow_any t3 s2_good)
  have HFE : Hid (followT S2 = ((-1, true), S3)) := Lib.hid (Prod.ext s2_follow rfl)
  rw [HFE.out] at HF
  clear k3 t3 HD K2 HFE
  go_wp2_with fail
  go_at_call 28
  refine HF.out.mono ?_
  rintro e w4 ⟨rfl, k4, t4⟩
  have K4 := Lib.hid (K3.out.trans k4)
  have T4 := Lib.hid t4
  have HL := Lib.hid (Lits_any t4 (by rw [s3_lits.1]; omega))
  clear k4 t4 HF K3
  go_wp2_with fail
  go_at_call 13
  refine HL.out.mono ?_
  rintro e w5 ⟨v, rfl, hr5, _, b5⟩
  have hrd := hr5.reads
  obtain ⟨a, c, rfl⟩ := hrd.form
  obtain ⟨ab, aoff, rfl, c0⟩ := hrd.get (k := 0) (by rw [s3_lits.1]; omega)
  rw [s3_lits.1, s3_lits.2, Nat.add_zero] at *
  have K5 := Lib.hid (K4.out.below b5 (T4.out.there))
  have T5 := Lib.hid (T4.out.below b5 (Nat.le_refl _))
  clear hr5 b5 hrd HL
  go_wp2_with fail
  have H22 := Lib.hid (LevelOf_any T5.out 4 (by unfold In64; omega) (by rw [s3_good.ok.fl]; omega))
  rw [s3_fact.1] at H22
  go_at_call 22
  refine H22.out.mono ?_
  rintro e w6 ⟨rfl, b6⟩
  have K6 := Lib.hid (K5.out.below b6 (T5.out.there))
  have T6 := Lib.hid (T5.out.below b6 (Nat.le_refl _))
  clear b6 H22
  go_wp2_with fail
  have H23 := Lib.hid (Reason_any T6.out 4 (by unfold In64; omega) (by rw [s3_good.ok.fl]; omega))
  rw [s3_fact.2] at H23
  go_at_call 23
  refine H23.out.mono ?_
  rintro e w7 ⟨rfl, b7⟩
  have K7 := Lib.hid (K6.out.below b7 (T6.out.there))
  have T7 := Lib.hid (T6.out.below b7 (Nat.le_refl _))
  clear b7 H23
  go_wp2_with fail
  have H14 := Lib.hid (Back_ok T7.out s3_good 0 (by rw [s3_starts]; omega))
  go_at_call 14
  refine H14.out.mono ?_
  rintro e w8 ⟨rfl, k8, t8⟩
  have K8 := Lib.hid (K7.out.trans k8)
  have T8 : Hid (TrailAt w8 B b S4) := Lib.hid t8
  clear k8 t8 H14
  go_wp2_with fail
  have H24 := Lib.hid (Value_any T8.out 2 (by unfold In64; omega) (by rw [s4_good.ok.fl]; omega) s4_good.ok.small)
  rw [s4_val] at H24
  go_at_call 24
  refine H24.out.mono ?_
  rintro e w9 ⟨rfl, b9⟩
  have K9 := Lib.hid (K8.out.below b9 (T8.out.there))
  have T9 := Lib.hid (T8.out.below b9 (Nat.le_refl _))
  clear b9 H24 K4 K5 K6 K7 K8 T4 T5 T6 T7 T8 c0
  go_wp2_with fail
  have hb1 : Below w9.heap.size w9 (w9.alloc (.cells #[.int .i64 (-4)] 3)) := (Below.refl _ _).alloc (Nat.le_refl _) _
  have hrd : Reads (w9.alloc (.cells #[.int .i64 (-4)] 3)) (.slice (some ⟨w9.heap.size, 0, none⟩) 1 1) [-4] := reads_block (xs := [-4]) (heap_alloc_new _ _)
  have HA := Lib.hid (Add_any (T9.out.below hb1 (Nat.le_refl _)) s4_good hrd (by show ∀ x ∈ [(-4 : Int)], (-9223372036854775808 ≤ x ∧ x ≤ 9223372036854775807); decide +kernel))
  rw [show rightB ((4 : Nat) : Int) [[-4]] = true from by decide +kernel] at HA
  have KA := Lib.hid (K9.out.below hb1 (T9.out.there))
  clear hb1 hrd
  go_at_call 33
  refine HA.out.mono ?_
  rintro e w10 ⟨k10, h10⟩
  rcases h10 with ⟨h10, _⟩ | ⟨_, rfl, t10⟩
  · cases h10
  have K10 := Lib.hid (KA.out.trans k10)
  have T10 : Hid (TrailAt w10 B b S5) := Lib.hid t10
  clear k10 t10 HA KA K9 T9
  go_wp2_with fail
  have HD := Lib.hid (Decide_any T10.out s5_good 1 (by unfold In64; omega))
  rw [s5_dec] at HD
  go_at_call 27
  refine HD.out.mono ?_
  rintro e w11 ⟨rfl, k11, t11⟩
  have K11 := Lib.hid (K10.out.trans k11)
  have HF := Lib.hid (Follow_any t11 (s5_good.decS 1))
  clear k11 t11 HD K10 T10
  go_wp2_with fail
  have HS : Hid (followT (decS S5 1) = followT S6) := Lib.hid rfl
  rw [HS.out] at HF
  have HE := Lib.hid s6_follow
  generalize followT S6 = R at *
  obtain ⟨⟨fk, fo⟩, R2⟩ := R
  go_at_call 28
  refine HF.out.mono ?_
  rintro e w12 ⟨rfl, k12, _⟩
  have K12 := Lib.hid (K11.out.trans k12)
  have hcase : (fk, fo) = (3, false) ∨ (fk, fo) = (0, false) ∨ (fk, fo) = (1, false) ∨ (fk, fo) = (2, false) := HE.out
  clear HS HF HE K11 k12
  rcases hcase with h | h | h | h <;>
  · injection h with h1 h2
    subst h1 h2
    go_wp2_with fail
    go_ret
    exact ⟨rfl, HKB.out _ K12.out⟩
end Go.Proofs.Ytngegkgmenfelaa
