/-
  The document's answer: Bump, New.
-/
import Derived.Test.YtbihcdjamdkinaaRs
namespace Go.Proofs.Ytbihcdjamdkinaa
open Go.RowKit Go.Lib
attribute [local go_sem ↓] Go.wp_at_zero Go.wp_at_succ

/-- The first k variables' activities are halved. -/
def hT (A : List Int) : Nat → List Int
  | 0 => A
  | k + 1 => (hT A k).set (k + 1) (A.getD (k + 1) 0 / 2)
theorem hT_len (A : List Int) : ∀ k, (hT A k).length = A.length
  | 0 => rfl
  | k + 1 => by unfold hT; rw [List.length_set]; exact hT_len A k
theorem hT_ge (A : List Int) : ∀ (k j : Nat), k ≤ j → (hT A k).getD (j + 1) 0 = A.getD (j + 1) 0
  | 0, _, _ => rfl
  | k + 1, j, h => by unfold hT; rw [getD_set_ne (by omega)]; exact hT_ge A k j (by omega)
theorem hT_lt (A : List Int) : ∀ (k j : Nat), j < k → j + 1 < A.length → (hT A k).getD (j + 1) 0 = A.getD (j + 1) 0 / 2
  | 0, _, h, _ => by omega
  | k + 1, j, h, hl => by
    unfold hT
    by_cases e : k = j
    · subst e; exact getD_set_eq (by rw [hT_len]; exact hl)
    · rw [getD_set_ne (by omega)]; exact hT_lt A k j (by omega) hl
theorem hT_tail {A : List Int} {n : Nat} (hl : A.length = n + 1) : (hT A n).tail = (halfTo A (n + 1)).tail := by
  apply List.ext_getElem
  · rw [List.length_tail, List.length_tail, hT_len, halfTo_len]
  · intro j h1 h2
    rw [List.length_tail, hT_len, hl] at h1
    have e1 := tail_getD (hT A n) j
    have e2 := tail_getD (halfTo A (n + 1)) j
    rw [hT_lt A n j (by omega) (by omega)] at e1
    rw [halfTo_lt A (n + 1) (j + 1) (by omega) (by omega), ← e1] at e2
    rw [List.getD_eq_getElem?_getD, List.getD_eq_getElem?_getD, List.getElem?_eq_getElem (by rw [List.length_tail, halfTo_len]; omega), List.getElem?_eq_getElem (by rw [List.length_tail, hT_len]; omega)] at e2
    exact e2.symm

section
variable {w : World} {m ga gi n : Nat} {A : List Int} {I : Nat → Bool} {sc : Int}

theorem RefAt.congr {A' : List Int} (h : RefAt w m ga gi n A I sc) (ht : A.tail = A'.tail) (hl : A'.length = n + 1) : RefAt w m ga gi n A' I sc := { h with a := by rw [← ht]; exact h.a, len := hl }

theorem rrBump_err (h : RefAt w m ga gi n A I sc) (v y : Int) (ho : okB n v y = false) : Calls Try.prog 44 #[.pointer (some ⟨m, 0, none⟩), .int .i64 v, .int .i64 y] w fun e w' => e = .returned (.int .i64 1) ∧ w' = w := by
  have ho' := of_decide_eq_false ho
  by_cases hv : 1 ≤ v ∧ v ≤ n
  · have C := Lib.hid (ris_yes h _ hv)
    by_cases h1 : y < 0
    · have d1 : decide (y < 0) = true := by simpa using h1
      clear h ho ho' hv h1
      go_enter Try.func44, Try.ntmps44
      go_wp2_with (go_at_call 45; refine C.out.mono ?_; rintro e w' ⟨rfl, rfl⟩)
      go_ret
      exact ⟨rfl, rfl⟩
    · have d1 : decide (y < 0) = false := by simpa using h1
      have d2 : decide (1099511627776 < y) = true := by simp; omega
      clear h ho ho' hv h1
      go_enter Try.func44, Try.ntmps44
      go_wp2_with (go_at_call 45; refine C.out.mono ?_; rintro e w' ⟨rfl, rfl⟩)
      go_ret
      exact ⟨rfl, rfl⟩
  · have C := Lib.hid (ris_no h _ hv)
    clear h ho ho' hv
    go_enter Try.func44, Try.ntmps44
    go_wp2_with (go_at_call 45; refine C.out.mono ?_; rintro e w' ⟨rfl, rfl⟩)
    go_ret
    exact ⟨rfl, rfl⟩

set_option maxRecDepth 100000 in
set_option maxHeartbeats 4000000 in
theorem rrBump_ok (h : RefAt w m ga gi n A I sc) (j : Nat) (y : Int) (hj : j < n) (hy : 0 ≤ y ∧ y ≤ 1099511627776) (hx : ∀ j, 0 ≤ A.getD j 0 ∧ A.getD j 0 ≤ 1125899906842624) (hsc : 0 ≤ sc ∧ sc ≤ 1000000) :
    Calls Try.prog 44 #[.pointer (some ⟨m, 0, none⟩), .int .i64 ((j : Int) + 1), .int .i64 y] w fun e w' => e = .returned (.int .i64 0) ∧ Keep (NotRef m ga gi) w w' ∧ RefAt w' m ga gi n (bumpA A (j + 1) y) I (bumpS A (j + 1) y sc) := by
  have C := Lib.hid (ris_yes h ((j : Int) + 1) (by omega))
  have hn := h.hn
  have hlen := h.len
  have d1 : decide (y < 0) = false := by simp; omega
  have d2 : decide (1099511627776 < y) = false := by simp; omega
  have b0 := h.c0
  obtain ⟨cj, fj⟩ := h.ca j hj
  have hxj := hx (j + 1)
  have HA1 := Lib.hid (h.storeA j (A.getD (j + 1) 0 + y))
  have HK1 : Hid (Keep (NotRef m ga gi) w (w.setCell ⟨ga, j, none⟩ (.int .i64 (A.getD (j + 1) 0 + y)))) := Lib.hid ((Keep.refl _ _).setCell (fun hh => hh.2.1 rfl) _)
  have hl1 : (A.set (j + 1) (A.getD (j + 1) 0 + y)).length = n + 1 := by rw [List.length_set]; exact hlen
  have hB1 : ∀ q, 0 ≤ (A.set (j + 1) (A.getD (j + 1) 0 + y)).getD q 0 ∧ (A.set (j + 1) (A.getD (j + 1) 0 + y)).getD q 0 ≤ 2251799813685248 := fun q => by
    by_cases e : j + 1 = q
    · subst e; rw [getD_set_eq (by omega)]; omega
    · rw [getD_set_ne e]; have := hx q; omega
  have hO : ∀ q, q < n → q ≠ j → (A.set (j + 1) (A.getD (j + 1) 0 + y)).getD (q + 1) 0 ≤ 1125899906842624 := fun q _ e => by rw [getD_set_ne (by omega)]; exact (hx _).2
  have hOj : (A.set (j + 1) (A.getD (j + 1) 0 + y)).getD (j + 1) 0 = A.getD (j + 1) 0 + y := getD_set_eq (by omega)
  have HB1 := Lib.hid hB1
  have HO := Lib.hid hO
  have HOJ := Lib.hid hOj
  have HL1 := Lib.hid hl1
  have HSC := Lib.hid hsc
  have hbA : bumpA A (j + 1) y = if over A (j + 1) y then halfTo (A.set (j + 1) (A.getD (j + 1) 0 + y)) (n + 1) else A.set (j + 1) (A.getD (j + 1) 0 + y) := by unfold bumpA; rw [hlen]
  have hov : over A (j + 1) y = decide (1125899906842624 < A.getD (j + 1) 0 + y) := rfl
  have HBA := Lib.hid hbA
  have HOV := Lib.hid hov
  have HBS : Hid (bumpS A (j + 1) y sc = if over A (j + 1) y then sc + 1 else sc) := Lib.hid rfl
  generalize A.set (j + 1) (A.getD (j + 1) 0 + y) = A1 at *
  generalize A.getD (j + 1) 0 = x at *
  generalize over A (j + 1) y = ov at *
  have e1 : IntKind.i64.wrap ((j : Int) + 1 - 1) = j := by simp [IntKind.wrap, IntKind.signed, IntKind.bits]; omega
  have e2 : (j : Int) + 1 - 1 = j := by omega
  have e3 : IntKind.i64.wrap (x + y) = x + y := by simp [IntKind.wrap, IntKind.signed, IntKind.bits]; omega
  have b3 : (j : Int) < (n : Int) := by omega
  have nm : ¬ ga = m := fun e => h.ma e.symm
  clear h hx hsc hB1 hO hOj hl1 hbA hov hlen hxj
  go_enter Try.func44, Try.ntmps44
  go_wp2_with (go_at_call 45; refine C.out.mono ?_; rintro e w' ⟨rfl, rfl⟩)
  go_big_region
  have HA2 : Hid (RefAt (w'.setCell ⟨ga, j, none⟩ (.int .i64 (x + y))).drew m ga gi n A1 I sc) := Lib.hid HA1.out.drew
  have HK2 : Hid (Keep (NotRef m ga gi) w' (w'.setCell ⟨ga, j, none⟩ (.int .i64 (x + y))).drew) := Lib.hid HK1.out.drew
  clear HA1 HK1 cj fj b0 e1 e2 e3
  generalize (w'.setCell ⟨ga, j, none⟩ (.int .i64 (x + y))).drew = W at *
  cases hov : decide (1125899906842624 < x + y) with
  | false =>
    have AB := Lib.hid (above_no HA2.out (fun q hq => by
      by_cases e : q = j
      · subst e; rw [HOJ.out]; have := of_decide_eq_false hov; omega
      · exact HO.out q hq e))
    have e1 : bumpA A (j + 1) y = A1 := by rw [HBA.out, HOV.out, hov]; rfl
    have e2 : bumpS A (j + 1) y sc = sc := by rw [HBS.out, HOV.out, hov]; rfl
    have E1 := Lib.hid e1
    have E2 := Lib.hid e2
    clear e1 e2 hov
    go_wp2_with fail
    refine wp_loop_rounds 1 ?_
    rw [rounds_succ]
    go_wp2_with (go_at_call 51; refine AB.out.mono ?_; rintro e w3 ⟨rfl, rfl⟩)
    go_ret
    exact ⟨rfl, HK2.out, by rw [E1.out, E2.out]; exact HA2.out⟩
  | true =>
    have AB := Lib.hid (above_yes HA2.out j hj (by rw [HOJ.out]; exact of_decide_eq_true hov))
    have e1 : bumpA A (j + 1) y = halfTo A1 (n + 1) := by rw [HBA.out, HOV.out, hov]; rfl
    have e2 : bumpS A (j + 1) y sc = sc + 1 := by rw [HBS.out, HOV.out, hov]; rfl
    have E1 := Lib.hid e1
    have E2 := Lib.hid e2
    clear e1 e2 hov
    go_wp2_with fail
    refine wp_loop_rounds 2 ?_
    rw [rounds_succ]
    go_wp2_with (go_at_call 51; refine AB.out.mono ?_; rintro e w3 ⟨rfl, rfl⟩)
    clear AB
    go_loopw [7] (fun vi wr => ∃ k : Nat, k ≤ n ∧ vi = .int .i64 k ∧ Hid (Keep (NotRef m ga gi) w' wr) ∧ Hid (RefAt wr m ga gi n (hT A1 k) I sc)) (fun vi _ => n - (intOf vi).toNat)
    case atStart => exact ⟨0, Nat.zero_le _, rfl, HK2, HA2⟩
    case round =>
      obtain ⟨k, hk, rfl, hK, hR⟩ := hrel
      clear HA2 HK2
      have c0 := hR.out.c0
      by_cases hlt : k < n
      · obtain ⟨ck, fk'⟩ := hR.out.ca k hlt
        rw [hT_ge A1 k k (Nat.le_refl _)] at ck
        have hz := HB1.out (k + 1)
        have S1 := Lib.hid ((hR.out.storeA k (A1.getD (k + 1) 0 / 2)).drew)
        have K1 : Hid (Keep (NotRef m ga gi) w' (wr.setCell ⟨ga, k, none⟩ (.int .i64 (A1.getD (k + 1) 0 / 2))).drew) := Lib.hid ((hK.out.setCell (fun hh => hh.2.1 rfl) _).drew)
        have HN : Hid ((hT A1 k).set (k + 1) (A1.getD (k + 1) 0 / 2) = hT A1 (k + 1)) := Lib.hid rfl
        rw [HN.out] at S1
        clear HN
        generalize A1.getD (k + 1) 0 = z at *
        have b4 : (k : Int) < (n : Int) := by omega
        have e5 : z.tdiv 2 = z / 2 := Int.tdiv_eq_ediv_of_nonneg hz.1
        have e6 : IntKind.i64.wrap (z / 2) = z / 2 := by simp [IntKind.wrap, IntKind.signed, IntKind.bits]; omega
        have e7 : IntKind.i64.wrap (z.tdiv 2) = z / 2 := by rw [e5, e6]
        go_wp2_with fail
        go_big_region
        clear ck fk' c0 hR hK
        generalize (wr.setCell ⟨ga, k, none⟩ (.int .i64 (z / 2))).drew = W5 at *
        go_wp2_with fail
        go_roundw
        case rel => exact ⟨k + 1, by omega, by go_num, K1, S1⟩
        case measure => simp [intOf]; omega
      · obtain rfl : k = n := by omega
        have hnl : decide ((k : Int) < k) = false := by simp
        have c2 := hR.out.c2
        have f2 := hR.out.fr 2
        have hsc := HSC.out
        have e8 : IntKind.i64.wrap (sc + 1) = sc + 1 := by simp [IntKind.wrap, IntKind.signed, IntKind.bits]; omega
        have S1 := Lib.hid (hR.out.storeS (sc + 1))
        have K1 : Hid (Keep (NotRef m ga gi) w' (wr.setCell ⟨m, 2, none⟩ (.int .i64 (sc + 1)))) := Lib.hid (hK.out.setCell (fun hh => hh.1 rfl) _)
        have AB := Lib.hid (above_no S1.out (fun q hq => by
          rw [hT_lt A1 k q hq (by rw [HL1.out]; omega)]
          have := HB1.out (q + 1); omega))
        have FIN := Lib.hid (S1.out.congr (A' := halfTo A1 (k + 1)) (hT_tail HL1.out) (by rw [halfTo_len]; exact HL1.out))
        clear hR hK hsc
        go_wp2_with fail
        rw [rounds_succ]
        go_wp2_with (go_at_call 51; refine AB.out.mono ?_; rintro e w3 ⟨rfl, rfl⟩)
        go_ret
        exact ⟨rfl, K1.out, by rw [E1.out, E2.out]; exact FIN.out⟩

theorem rrBump (h : RefAt w m ga gi n A I sc) (v y : Int) (hx : ∀ j, 0 ≤ A.getD j 0 ∧ A.getD j 0 ≤ 1125899906842624) (hsc : 0 ≤ sc ∧ sc ≤ 1000000) :
    Calls Try.prog 44 #[.pointer (some ⟨m, 0, none⟩), .int .i64 v, .int .i64 y] w fun e w' => e = .returned (.int .i64 (bC n v y)) ∧ Keep (NotRef m ga gi) w w' ∧ RefAt w' m ga gi n (bA n A v y) I (bS n A v y sc) := by
  unfold bC bA bS
  cases ho : okB n v y with
  | false =>
    refine (rrBump_err h v y ho).mono ?_
    rintro e w' ⟨he, rfl⟩
    exact ⟨he, Keep.refl _ _, h⟩
  | true =>
    have ho' := of_decide_eq_true ho
    obtain ⟨j, rfl⟩ : ∃ j : Nat, v = (j : Int) + 1 := ⟨(v - 1).toNat, by omega⟩
    have e0 : ((j : Int) + 1).toNat = j + 1 := by omega
    rw [e0]
    exact rrBump_ok h j y (by omega) (by omega) hx hsc
end

/-! ### New -/
theorem info4 : (Try.prog.info? 4).map (fun i => (i.zero, i.size, i.bytes)) = some (some (.bool false), 1, 1) := by kernel_rfl
theorem make_bools (k : Nat) (hk : k ≤ 1000000) (w : World) : (Instr.makeSlice 50 (.int .i64 k) (.int .i64 k)).run Try.prog w = .ok (.slice (some ⟨w.heap.size, 0, none⟩) k k) (w.alloc (.cells (Array.replicate k (.bool false)) 4)) := by
  obtain ⟨i0, hi0, hz0, hz1, hz2⟩ := info_parts info4
  have h := run_make (P := Try.prog) w 50 4 i0 (.bool false) Try.underlying50 hi0 hz0 .i64 .i64 k k (by omega) (Int.le_refl _) (by rw [hz2]; omega) (by omega)
  rw [hz1, Int.toNat_natCast, Nat.mul_one] at h
  rw [h]
  congr 3
  apply Array.ext
  · simp [madeCells]
  · intro j h1 h2
    simp [madeCells, Value.cells, Nat.mod_one]
theorem ownB_made (w : World) (k : Nat) (hk : k ≤ 1000000) : OwnB (w.alloc (.cells (Array.replicate k (.bool false)) 4)) (.slice (some ⟨w.heap.size, 0, none⟩) k k) (bl (fun _ => false) k) := by
  have e : bl (fun _ => false) k = List.replicate k false := by
    apply List.ext_getElem
    · simp [bl]
    · intro j h1 h2; simp [bl]
  rw [e]
  refine ⟨by simp, .inr ⟨w.heap.size, k, Array.replicate k (.bool false), by simp, Nat.zero_le _, heap_alloc_new _ _, by simp, by unfold maxLen; omega, by simp, ?_⟩⟩
  simp

theorem OwnB.alloc {w : World} {v : Value} {bs : List Bool} (h : OwnB w v bs) (o : Obj) : OwnB (w.alloc o) v bs := World.ownsRow.alloc h o

theorem new_ref1 (w : World) (n : Nat) (hn : n ≤ 20000) :
    RefAt (((w.alloc (.cells (Array.replicate n (.int .i64 0)) 3)).alloc (.cells (Array.replicate n (.bool false)) 4)).alloc (.cells #[.slice (some ⟨w.heap.size, 0, none⟩) n n, .slice (some ⟨w.heap.size + 1, 0, none⟩) n n, .int .i64 0] 52)).drew
      (w.heap.size + 1 + 1) w.heap.size (w.heap.size + 1) n (newA n) (fun _ => false) 0 ∧
    Below w.heap.size w (((w.alloc (.cells (Array.replicate n (.int .i64 0)) 3)).alloc (.cells (Array.replicate n (.bool false)) 4)).alloc (.cells #[.slice (some ⟨w.heap.size, 0, none⟩) n n, .slice (some ⟨w.heap.size + 1, 0, none⟩) n n, .int .i64 0] 52)).drew := by
  refine ⟨?_, ((((Below.refl _ _).alloc (Nat.le_refl _) _).alloc (by simp) _).alloc (by simp; omega) _).drew⟩
  have o1 := (ownI_made w n (by omega)).alloc (.cells (Array.replicate n (.bool false)) 4)
  have o2 := ownB_made (w.alloc (.cells (Array.replicate n (.int .i64 0)) 3)) n (by omega)
  rw [show (w.alloc (.cells (Array.replicate n (.int .i64 0)) 3)).heap.size = w.heap.size + 1 from by simp] at o2
  have hb := heap_alloc_new ((w.alloc (.cells (Array.replicate n (.int .i64 0)) 3)).alloc (.cells (Array.replicate n (.bool false)) 4)) (.cells #[.slice (some ⟨w.heap.size, 0, none⟩) n n, .slice (some ⟨w.heap.size + 1, 0, none⟩) n n, .int .i64 0] 52)
  rw [show ((w.alloc (.cells (Array.replicate n (.int .i64 0)) 3)).alloc (.cells (Array.replicate n (.bool false)) 4)).heap.size = w.heap.size + 1 + 1 from by simp] at hb
  exact ⟨hb, by have := o1.alloc (.cells #[.slice (some ⟨w.heap.size, 0, none⟩) n n, .slice (some ⟨w.heap.size + 1, 0, none⟩) n n, .int .i64 0] 52); exact this, o2.alloc _, by simp [newA], by omega, by omega, by omega, hn⟩
theorem new_ref2 (w : World) (n : Nat) (hn : n ≤ 20000) :
    RefAt (((w.alloc (.cells (Array.replicate n (.bool false)) 4)).alloc (.cells (Array.replicate n (.int .i64 0)) 3)).alloc (.cells #[.slice (some ⟨w.heap.size + 1, 0, none⟩) n n, .slice (some ⟨w.heap.size, 0, none⟩) n n, .int .i64 0] 52)).drew
      (w.heap.size + 1 + 1) (w.heap.size + 1) w.heap.size n (newA n) (fun _ => false) 0 ∧
    Below w.heap.size w (((w.alloc (.cells (Array.replicate n (.bool false)) 4)).alloc (.cells (Array.replicate n (.int .i64 0)) 3)).alloc (.cells #[.slice (some ⟨w.heap.size + 1, 0, none⟩) n n, .slice (some ⟨w.heap.size, 0, none⟩) n n, .int .i64 0] 52)).drew := by
  refine ⟨?_, ((((Below.refl _ _).alloc (Nat.le_refl _) _).alloc (by simp) _).alloc (by simp; omega) _).drew⟩
  have o2 := (ownB_made w n (by omega)).alloc (.cells (Array.replicate n (.int .i64 0)) 3)
  have o1 := ownI_made (w.alloc (.cells (Array.replicate n (.bool false)) 4)) n (by omega)
  rw [show (w.alloc (.cells (Array.replicate n (.bool false)) 4)).heap.size = w.heap.size + 1 from by simp] at o1
  have hb := heap_alloc_new ((w.alloc (.cells (Array.replicate n (.bool false)) 4)).alloc (.cells (Array.replicate n (.int .i64 0)) 3)) (.cells #[.slice (some ⟨w.heap.size + 1, 0, none⟩) n n, .slice (some ⟨w.heap.size, 0, none⟩) n n, .int .i64 0] 52)
  rw [show ((w.alloc (.cells (Array.replicate n (.bool false)) 4)).alloc (.cells (Array.replicate n (.int .i64 0)) 3)).heap.size = w.heap.size + 1 + 1 from by simp] at hb
  exact ⟨hb, by have := o1.alloc (.cells #[.slice (some ⟨w.heap.size + 1, 0, none⟩) n n, .slice (some ⟨w.heap.size, 0, none⟩) n n, .int .i64 0] 52); exact this, o2.alloc _, by simp [newA], by omega, by omega, by omega, hn⟩

theorem rrNew_bad (n : Int) (w : World) (hn : n < 0 ∨ 20000 < n) : Calls Try.prog 23 #[.int .i64 n] w fun e w' => e = .returned (.tuple #[.pointer none, .int .i64 1]) ∧ w' = w := by
  by_cases h0 : n < 0
  · have d1 : decide (n < 0) = true := by simpa using h0
    clear hn h0
    go_enter Try.func23, Try.ntmps23
    go_wp2_with fail
    go_ret2
    exact ⟨rfl, rfl⟩
  · have d1 : decide (n < 0) = false := by simpa using h0
    have d2 : decide (20000 < n) = true := by simp; omega
    clear hn h0
    go_enter Try.func23, Try.ntmps23
    go_wp2_with fail
    go_ret2
    exact ⟨rfl, rfl⟩

theorem upToI_set (k : Nat) : upd (fun v => decide (1 ≤ v ∧ v ≤ k)) (k + 1) true = fun v => decide (1 ≤ v ∧ v ≤ k + 1) := by
  funext v
  unfold upd
  by_cases e : v = k + 1
  · subst e; simp
  · rw [if_neg e]
    show decide (1 ≤ v ∧ v ≤ k) = _
    by_cases h : 1 ≤ v ∧ v ≤ k
    · rw [decide_eq_true h, decide_eq_true (by omega)]
    · rw [decide_eq_false h, decide_eq_false (by omega)]
theorem bl_congr {I J : Nat → Bool} {n : Nat} (hI : ∀ v, 1 ≤ v → v ≤ n → I v = J v) : bl J n = bl I n := by
  apply List.ext_getElem
  · simp [bl]
  · intro j h1 h2
    rw [bl_len] at h1
    simp [bl, hI (j + 1) (by omega) (by omega)]
theorem RefAt.congrI {w : World} {m ga gi n : Nat} {A : List Int} {I J : Nat → Bool} {sc : Int} (h : RefAt w m ga gi n A I sc) (hI : ∀ v, 1 ≤ v → v ≤ n → I v = J v) : RefAt w m ga gi n A J sc :=
  { h with i := by rw [bl_congr hI]; exact h.i }

set_option maxRecDepth 100000 in
set_option maxHeartbeats 2000000 in
theorem rrNew_ok (n : Nat) (w : World) (hn : n ≤ 20000) : Calls Try.prog 23 #[.int .i64 n] w fun e w' => ∃ m ga gi, e = .returned (.tuple #[.pointer (some ⟨m, 0, none⟩), .int .i64 0]) ∧ Below w.heap.size w w' ∧ w.heap.size ≤ m ∧ w.heap.size ≤ ga ∧ w.heap.size ≤ gi ∧ RefAt w' m ga gi n (newA n) allI 0 := by
  have d1 : decide ((n : Int) < 0) = false := by simp
  have d2 : decide ((20000 : Int) < n) = false := by simp; omega
  have hm1 := make_ints n (by omega)
  have hm2 := make_bools n (by omega)
  go_enter Try.func23, Try.ntmps23
  go_wp2_with fail
  go_region
  all_goals go_wp2_with fail
  all_goals clear hm1 hm2 d1 d2
  · obtain ⟨q0, k0⟩ := new_ref1 w n hn
    have Q0 := Lib.hid (q0.congrI (J := fun v => decide (1 ≤ v ∧ v ≤ 0)) (fun v h1 _ => (decide_eq_false (by omega)).symm))
    have K0 := Lib.hid k0
    obtain ⟨s, hs⟩ : ∃ s, w.heap.size = s := ⟨_, rfl⟩
    have HM : Hid (s ≤ s + 1 + 1 ∧ s ≤ s ∧ s ≤ s + 1) := Lib.hid (by omega)
    rw [hs] at Q0 K0 ⊢
    have HS := Lib.hid hs
    clear q0 k0 hs
    generalize s + 1 + 1 = m at *
    generalize hgi : s + 1 = gi at *
    clear hgi
    go_loopw [5] (fun vi wr => ∃ (k : Nat), vi = .int .i64 k ∧ k ≤ n ∧ Hid (RefAt wr m s gi n (newA n) (fun v => decide (1 ≤ v ∧ v ≤ k)) 0) ∧ Hid (Below s w wr)) (fun vi _ => n - (intOf vi).toNat)
    case atStart => exact ⟨0, rfl, Nat.zero_le _, Q0, K0⟩
    case round =>
      obtain ⟨k, rfl, hk, hR, hK⟩ := hrel
      clear Q0 K0
      by_cases hlt : k < n
      · have c1 := hR.out.c1
        obtain ⟨ck, fk⟩ := hR.out.ci k hlt
        have S1 := Lib.hid (hR.out.storeI k true)
        rw [upToI_set] at S1
        have K1 : Hid (Below s w (wr.setCell ⟨gi, k, none⟩ (.bool true))) := Lib.hid (hK.out.setCell HM.out.2.2 _)
        clear hR hK
        go_wp2_with fail
        go_roundw
        case rel => exact ⟨k + 1, by go_num, by omega, S1, K1⟩
        case measure => simp [intOf]; omega
      · obtain rfl : k = n := by omega
        have hnl : decide ((k : Int) < k) = false := by simp
        have FIN := Lib.hid (hR.out.congrI (J := allI) (fun v h1 h2 => decide_eq_true ⟨h1, h2⟩))
        clear hR
        go_wp2_with fail
        go_ret2
        rw [HS.out]
        exact ⟨m, s, gi, rfl, hK.out, HM.out.1, HM.out.2.1, HM.out.2.2, FIN.out⟩
  · obtain ⟨q0, k0⟩ := new_ref2 w n hn
    have Q0 := Lib.hid (q0.congrI (J := fun v => decide (1 ≤ v ∧ v ≤ 0)) (fun v h1 _ => (decide_eq_false (by omega)).symm))
    have K0 := Lib.hid k0
    obtain ⟨s, hs⟩ : ∃ s, w.heap.size = s := ⟨_, rfl⟩
    have HM : Hid (s ≤ s + 1 + 1 ∧ s ≤ s + 1 ∧ s ≤ s) := Lib.hid (by omega)
    rw [hs] at Q0 K0 ⊢
    have HS := Lib.hid hs
    clear q0 k0 hs
    generalize s + 1 + 1 = m at *
    generalize hga : s + 1 = ga at *
    clear hga
    go_loopw [5] (fun vi wr => ∃ (k : Nat), vi = .int .i64 k ∧ k ≤ n ∧ Hid (RefAt wr m ga s n (newA n) (fun v => decide (1 ≤ v ∧ v ≤ k)) 0) ∧ Hid (Below s w wr)) (fun vi _ => n - (intOf vi).toNat)
    case atStart => exact ⟨0, rfl, Nat.zero_le _, Q0, K0⟩
    case round =>
      obtain ⟨k, rfl, hk, hR, hK⟩ := hrel
      clear Q0 K0
      by_cases hlt : k < n
      · have c1 := hR.out.c1
        obtain ⟨ck, fk⟩ := hR.out.ci k hlt
        have S1 := Lib.hid (hR.out.storeI k true)
        rw [upToI_set] at S1
        have K1 : Hid (Below s w (wr.setCell ⟨s, k, none⟩ (.bool true))) := Lib.hid (hK.out.setCell HM.out.2.2 _)
        clear hR hK
        go_wp2_with fail
        go_roundw
        case rel => exact ⟨k + 1, by go_num, by omega, S1, K1⟩
        case measure => simp [intOf]; omega
      · obtain rfl : k = n := by omega
        have hnl : decide ((k : Int) < k) = false := by simp
        have FIN := Lib.hid (hR.out.congrI (J := allI) (fun v h1 h2 => decide_eq_true ⟨h1, h2⟩))
        clear hR
        go_wp2_with fail
        go_ret2
        rw [HS.out]
        exact ⟨m, ga, s, rfl, hK.out, HM.out.1, HM.out.2.1, HM.out.2.2, FIN.out⟩
end Go.Proofs.Ytbihcdjamdkinaa
