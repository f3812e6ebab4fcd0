/-
  New.
-/
import Derived.Test.YtngegkgmenfelaaGfh
import Derived.BigRegion
import Derived.Deep.DeepCutAuto
namespace Go.Proofs.Ytngegkgmenfelaa
open Go.RowKit Go.Lib
attribute [local go_sem ↓] Go.wp_at_zero Go.wp_at_succ

set_option maxRecDepth 100000 in
theorem New_no {w : World} {s : Value} {L : List (List Int)} (n : Int) (h : ReadsL w s L) (hx : In64L L) (hr : rightB n L = false) :
    Calls Try.prog 10 #[.int .i64 n, s] w fun e w' => e = .returned (.tuple #[.pointer none, .int .i64 1]) ∧ Below w.heap.size w w' := by
  have HR := Lib.hid (Right_any n h hx)
  rw [hr] at HR
  obtain ⟨a, c, rfl⟩ := h.form
  generalize L.length = q at *
  clear h hx hr
  go_enter Try.func10, Try.ntmps10
  go_wp2_with (go_at_call 31; refine HR.out.mono ?_; rintro e w1 ⟨rfl, h1⟩; have H1 := Lib.hid h1; clear h1)
  go_ret2
  exact ⟨rfl, H1.out⟩

def NewRel (w0 : World) (B : Nat → Prop) (b n i : Nat) (wr : World) : Prop := TrailAt wr B b (newT n (List.replicate i (0, -1, -1) ++ List.replicate (n - i) (0, 0, 0))) ∧ Keep B w0 wr

theorem rightB_all {n : Nat} {L : List (List Int)} (h : rightB n L = true) : n ≤ 20000 ∧ L.length ≤ 400000 ∧ ∀ c ∈ L, c.length ≤ 20000 ∧ ∀ x ∈ c, 1 ≤ x.natAbs ∧ x.natAbs ≤ n := by
  unfold rightB at h
  simp only [Bool.and_eq_true, decide_eq_true_eq, Bool.not_eq_true'] at h
  refine ⟨by omega, h.1.2, fun c hc => badC_false ?_⟩
  have := List.any_eq_false.1 h.2 c hc
  simpa using this

theorem NewRel.start {w w' : World} {B : Nat → Prop} {n b gw gf : Nat} (hB : There B w) (hb : Below w.heap.size w w') (hn : n ≤ 20000)
    (h1 : w'.heap[gw]? = some (.cells (Array.replicate (2 * n) (.slice none 0 0)) 23 (0, 0))) (h2 : w'.heap[gf]? = some (.cells (Array.replicate (n * 3) (.int .i64 0)) 64 (0, 0)))
    (h3 : w'.heap[b]? = some (.cells #[.slice none 0 0, .slice (some ⟨gw, 0, none⟩) (2 * n) (2 * n), .slice (some ⟨gf, 0, none⟩) n n, .slice none 0 0, .slice none 0 0, .int .i64 0, .slice none 0 0] 62 (0, 0)))
    (l1 : w.heap.size ≤ gw) (l2 : w.heap.size ≤ gf) (l3 : w.heap.size ≤ b) (n1 : gw ≠ gf) (n2 : gw ≠ b) (n3 : gf ≠ b) : NewRel w B b n 0 w' :=
  ⟨(new_trail hB hb hn h1 h2 h3 l1 l2 l3 n1 n2 n3).any, (Keep.refl B w).below hb hB⟩
theorem three_allocs (w : World) (o1 o2 o3 : Obj) : (((w.alloc o1).alloc o2).alloc o3).drew.heap[w.heap.size]? = some o1 ∧ (((w.alloc o1).alloc o2).alloc o3).drew.heap[w.heap.size + 1]? = some o2 ∧ (((w.alloc o1).alloc o2).alloc o3).drew.heap[w.heap.size + 1 + 1]? = some o3 := by
  have s1 : (w.alloc o1).heap.size = w.heap.size + 1 := by simp
  have s2 : ((w.alloc o1).alloc o2).heap.size = w.heap.size + 1 + 1 := by simp
  have a3 := heap_alloc_new ((w.alloc o1).alloc o2) o3
  have a2 := heap_alloc_new (w.alloc o1) o2
  have a1 := heap_alloc_new w o1
  rw [s2] at a3
  rw [s1] at a2
  refine ⟨?_, ?_, a3⟩
  · exact (Below.heap_alloc _ o3 w.heap.size (by omega)).trans ((Below.heap_alloc _ o2 w.heap.size (by omega)).trans a1)
  · exact (Below.heap_alloc _ o3 (w.heap.size + 1) (by omega)).trans a2
theorem zeros_set (n i : Nat) (hi : i < n) (a z : Int × Int × Int) : (List.replicate i a ++ List.replicate (n - i) z).set i a = List.replicate (i + 1) a ++ List.replicate (n - (i + 1)) z := by
  rw [List.set_append_right _ _ (by simp), List.length_replicate, Nat.sub_self, show n - i = (n - (i + 1)) + 1 from by omega, List.replicate_succ, List.set_cons_zero, List.replicate_succ']
  simp

set_option maxRecDepth 100000 in
set_option maxHeartbeats 4000000 in
theorem New_ok {w : World} {B : Nat → Prop} {s : Value} {L : List (List Int)} (n : Nat) (h : ReadsL w s L) (hx : In64L L) (hr : rightB n L = true) (hB : There B w) (hL : L.length ≤ 1000) (hk : ∀ w', Keep B w w' → ReadsL w' s L) :
    Calls Try.prog 10 #[.int .i64 (n : Nat), s] w fun e w' => ∃ b, e = .returned (.tuple #[.pointer (some ⟨b, 0, none⟩), .int .i64 0]) ∧ Keep B w w' ∧ w.heap.size ≤ b ∧ TrailAt w' B b (putAll (emptyT n) L) := by
  obtain ⟨hn, _, hc⟩ := rightB_all hr
  have HR := Lib.hid (Right_any n h hx)
  rw [hr] at HR
  have hmk1 : ∀ w, (Instr.makeSlice 22 (.int .i64 (2 * (n : Int))) (.int .i64 (2 * (n : Int)))).run Try.prog w = .ok (.slice (some ⟨w.heap.size, 0, none⟩) (2 * n) (2 * n)) (w.alloc (.cells (Array.replicate (2 * n) (.slice none 0 0)) 23)) := fun w => by
    have := make_rows (2 * n) (by omega) w
    rw [show ((2 * n : Nat) : Int) = 2 * (n : Int) from by omega] at this
    exact this
  have hmk2 := make_facts n (by omega)
  have hw2 : IntKind.i64.wrap (2 * (n : Int)) = 2 * (n : Int) := wrap_i64 (by omega)
  obtain ⟨a, c, rfl⟩ := h.form
  have HB := Lib.hid hB
  have HC := Lib.hid hc
  have HKR := Lib.hid hk
  obtain ⟨q, hq⟩ : ∃ q, L.length = q := ⟨_, rfl⟩
  rw [hq] at hL HR HKR
  have HQ := Lib.hid hq
  clear h hx hr hc hk hB hq
  simp only [show L.length = q from HQ.out]
  go_enter Try.func10, Try.ntmps10
  go_wp2_with (go_at_call 31; refine HR.out.mono ?_; rintro e w1 ⟨rfl, h1⟩; have H1 := Lib.hid h1; clear h1)
  go_cut [6] (fun v6 wx => ∃ b, v6 = .pointer (some ⟨b, 0, none⟩) ∧ w.heap.size ≤ b ∧ NewRel w B b n 0 wx)
  case first =>
    go_region
    · obtain ⟨a1, a2, a3⟩ := three_allocs w1 (.cells (Array.replicate (2 * n) (.slice none 0 0)) 23) (.cells (Array.replicate (n * 3) (.int .i64 0)) 64) (.cells #[.slice none 0 0, .slice (some ⟨w1.heap.size, 0, none⟩) (2 * n) (2 * n), .slice (some ⟨w1.heap.size + 1, 0, none⟩) n n, .slice none 0 0, .slice none 0 0, .int .i64 0, .slice none 0 0] 62)
      have hs1 := H1.out.size
      have HR0 := Lib.hid (NewRel.start (b := w1.heap.size + 1 + 1) HB.out (((((H1.out.alloc hs1 _).alloc (by simp; omega) _).alloc (by simp; omega) _).drew)) hn a1 a2 a3 (by omega) (by omega) (by omega) (by omega) (by omega) (by omega))
      clear a1 a2 a3 hmk1 hmk2 hw2
      go_wp2_with fail
      go_meet
      exact ⟨_, rfl, by omega, HR0.out⟩
    · obtain ⟨a1, a2, a3⟩ := three_allocs w1 (.cells (Array.replicate (n * 3) (.int .i64 0)) 64) (.cells (Array.replicate (2 * n) (.slice none 0 0)) 23) (.cells #[.slice none 0 0, .slice (some ⟨w1.heap.size + 1, 0, none⟩) (2 * n) (2 * n), .slice (some ⟨w1.heap.size, 0, none⟩) n n, .slice none 0 0, .slice none 0 0, .int .i64 0, .slice none 0 0] 62)
      have hs1 := H1.out.size
      have HR0 := Lib.hid (NewRel.start (b := w1.heap.size + 1 + 1) HB.out (((((H1.out.alloc hs1 _).alloc (by simp; omega) _).alloc (by simp; omega) _).drew)) hn a2 a1 a3 (by omega) (by omega) (by omega) (by omega) (by omega) (by omega))
      clear a1 a2 a3 hmk1 hmk2 hw2
      go_wp2_with fail
      go_meet
      exact ⟨_, rfl, by omega, HR0.out⟩
  case rest =>
    obtain ⟨b, rfl, hle, HR0⟩ := hcut
    clear hmk1 hmk2 hw2 H1
    have F0 : Hid (∀ i wr, NewRel w B b n i wr → i ≤ n → ∃ gf fc, wr.cell? ⟨b, 2, none⟩ = some (.slice (some ⟨gf, 0, none⟩) n fc) ∨ n = 0 ∧ ∃ a, wr.cell? ⟨b, 2, none⟩ = some (.slice a n fc)) := Lib.hid fun i wr hr hin => by
      obtain ⟨⟨val, ct, hm, ht⟩, _⟩ := hr
      have hf := hm.row .fa
      rw [ht.fa] at hf
      have hl : (newT n (List.replicate i (0, -1, -1) ++ List.replicate (n - i) (0, 0, 0))).F.length = n := by show (List.replicate i _ ++ List.replicate (n - i) _).length = n; simp; omega
      have c2 : wr.cell? ⟨b, 2, none⟩ = some (val .fa) := hm.bcell 2
      by_cases h0 : n = 0
      · obtain ⟨a, c, e⟩ := hf.len3
        rw [hl] at e
        exact ⟨0, c, .inr ⟨h0, a, by rw [← e]; exact c2⟩⟩
      · obtain ⟨g, c, e, _⟩ := hf.at3 (by omega)
        rw [hl] at e
        exact ⟨g, c, .inl (by rw [← e]; exact c2)⟩
    have hbW : b < wc.heap.size := by obtain ⟨⟨_, _, hm, _⟩, _⟩ := HR0; exact lt_of_block hm.box
    obtain ⟨fa, fc, c2⟩ : ∃ fa fc, wc.cell? ⟨b, 2, none⟩ = some (.slice fa n fc) := by
      obtain ⟨gf, fc, h | ⟨_, a, h⟩⟩ := F0.out 0 wc HR0 (Nat.zero_le _)
      · exact ⟨_, _, h⟩
      · exact ⟨_, _, h⟩
    clear F0
    go_wp2_with fail
    clear c2
    as_aux_lemma =>
    go_loopw [26] (fun v26 wr => ∃ i : Nat, v26 = .int .i64 i ∧ i ≤ n ∧ NewRel w B b n i wr) (fun v26 _ => n - (intOf v26).toNat)
    case atStart => exact ⟨0, rfl, Nat.zero_le _, HR0⟩
    case round =>
      clear HR0
      obtain ⟨i, rfl, hin, HRi⟩ := hrel
      by_cases hlt : i < n
      · obtain ⟨⟨val, hv⟩, hk⟩ := HRi
        have hv : TrailV wr B b (newT n (List.replicate i (0, -1, -1) ++ List.replicate (n - i) (0, 0, 0))) val := hv
        have hl : (newT n (List.replicate i (0, -1, -1) ++ List.replicate (n - i) (0, 0, 0))).F.length = n := by show (List.replicate i _ ++ List.replicate (n - i) _).length = n; simp; omega
        obtain ⟨g, c2, m, q2, em, hmq, hq2, d2, hbr, hg2, ⟨o1, o2, o3, d3, d4, d5⟩, f3, f4, f5, HF⟩ := hv.strike ((i : Int) + 1) (by rw [hl]; omega)
        obtain rfl : m = i := by omega
        rw [hl] at hq2
        obtain rfl : n = q2 := hq2
        have HK := Lib.hid hk
        have REL1 : Hid (NewRel w B b n (m + 1) (((wr.setCell ⟨g, m * 3, none⟩ (.int .i64 0)).setCell ⟨g, m * 3 + 1, none⟩ (.int .i64 (-1))).setCell ⟨g, m * 3 + 2, none⟩ (.int .i64 (-1)))) := Lib.hid (by
          obtain ⟨t1, k1⟩ := HF.out
          refine ⟨?_, HK.out.trans k1⟩
          have := t1.any
          rw [← em] at this
          show TrailAt _ B b (newT n (List.replicate (m + 1) (0, -1, -1) ++ List.replicate (n - (m + 1)) (0, 0, 0)))
          rw [← zeros_set n m hlt]
          exact this)
        have hm1 : (m : Int) < (n : Int) := by omega
        have hm0 : (0 : Int) ≤ (m : Int) := by omega
        clear hv hl em HF hk
        as_aux_lemma =>
        go_wp2_with fail
        go_roundw
        case rel => exact ⟨m + 1, by go_num, by omega, REL1.out⟩
        case measure => simp [intOf]; omega
      · obtain rfl : i = n := by omega
        have HT0 : TrailAt wr B b (emptyT i) := by
          have := HRi.1
          rw [Nat.sub_self, List.replicate_zero, List.append_nil] at this
          exact this
        have HK0 := HRi.2
        have REL0 : Hid (TrailAt wr B b (putAll (emptyT i) (L.take 0)) ∧ Keep B w wr) := Lib.hid ⟨by rw [List.take_zero]; exact HT0, HK0⟩
        clear HRi HT0 HK0
        go_wp2_with fail
        obtain ⟨wo, hwo⟩ : ∃ wo : World, wo = wr := ⟨_, rfl⟩
        clear hlt hin
        as_aux_lemma =>
        rw [← hwo] at REL0 ⊢
        clear hwo
        go_loopw [39] (fun v39 wr => ∃ j : Nat, v39 = .int .i64 j ∧ j ≤ q ∧ Hid (TrailAt wr B b (putAll (emptyT i) (L.take j)) ∧ Keep B w wr)) (fun v39 _ => q - (intOf v39).toNat)
        case atStart => exact ⟨0, rfl, Nat.zero_le _, REL0⟩
        case round =>
          clear REL0
          obtain ⟨j, rfl, hjq, HJ⟩ := hrel
          by_cases hlt : j < q
          · obtain ⟨lb, off, c', vs, e, hlb, hcv⟩ := (HKR.out wr HJ.out.2).resolve_left (fun h => by have := HQ.out; rw [h.2] at this; simp at this; omega)
            injection e with e1 n1 n2
            subst e1
            clear n1 n2
            obtain ⟨cj, hrj⟩ := hcv j (by rw [HQ.out]; exact hlt)
            have hjL : j < L.length := by rw [HQ.out]; exact hlt
            have HGA := Lib.hid (Good.putAll (L.take j) (emptyT i) (Good.new i hn) (fun d hd => HC.out d (List.mem_of_mem_take hd)) (by show 0 + (L.take j).length ≤ 300000; rw [List.length_take]; omega)).good
            have HP := Lib.hid (put_good HJ.out.1 HGA.out hrj (HC.out _ (mem_getD (d := []) hjL)))
            have HTK : Hid (putAll (emptyT i) (L.take (j + 1)) = putT (putAll (emptyT i) (L.take j)) (L.getD j [])) := Lib.hid (by
              rw [List.take_succ_eq_append_getElem hjL, putAll_snoc, List.getD_eq_getElem?_getD, List.getElem?_eq_getElem hjL, Option.getD_some])
            have hj1 : (j : Int) < (q : Int) := by omega
            have hj0 : (0 : Int) ≤ (j : Int) := by omega
            clear hcv hrj hjL
            generalize vs j = vj at *
            go_wp2_with fail
            go_at_call 34
            refine HP.out.mono ?_
            rintro e w3 ⟨rfl, k3, t3⟩
            have REL1 : Hid (TrailAt w3 B b (putAll (emptyT i) (L.take (j + 1))) ∧ Keep B w w3) := Lib.hid ⟨by rw [HTK.out]; exact t3, HJ.out.2.trans k3⟩
            clear k3 t3 cj
            go_wp2_with fail
            go_roundw
            case rel => exact ⟨j + 1, by go_num, by omega, REL1⟩
            case measure => simp [intOf]; omega
          · obtain rfl : j = q := by omega
            have HT9 : Hid (TrailAt wr B b (putAll (emptyT i) L) ∧ Keep B w wr) := Lib.hid (by have := HJ.out; rw [List.take_of_length_le (by rw [HQ.out]; exact Nat.le_refl _)] at this; exact this)
            clear HJ
            go_wp2_with fail
            go_ret2
            exact ⟨b, rfl, HT9.out.2, hle, HT9.out.1⟩
end Go.Proofs.Ytngegkgmenfelaa
