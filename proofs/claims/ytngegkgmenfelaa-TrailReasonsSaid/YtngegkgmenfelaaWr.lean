/-
  Add.
-/
import Derived.Test.YtngegkgmenfelaaWq
namespace Go.Proofs.Ytngegkgmenfelaa
open Go.RowKit Go.Lib
attribute [local go_sem ↓] Go.wp_at_zero Go.wp_at_succ

theorem badC_false {n : Nat} {c : List Int} (h : badC n c = false) : c.length ≤ 20000 ∧ ∀ x ∈ c, 1 ≤ x.natAbs ∧ x.natAbs ≤ n := by
  unfold badC at h
  rw [Bool.or_eq_false_iff] at h
  refine ⟨by have := of_decide_eq_false h.1; omega, fun x hx => ?_⟩
  have := List.any_eq_false.1 h.2 x hx
  simp only [Bool.not_eq_true', Bool.not_eq_false] at this
  exact of_decide_eq_true this
theorem rightB_one {n : Nat} {c : List Int} (h : rightB n [c] = true) : n ≤ 20000 ∧ badC n c = false := by
  unfold rightB at h
  simp only [Bool.and_eq_true, decide_eq_true_eq] at h
  refine ⟨by omega, ?_⟩
  have := h.2
  simpa using this

theorem readsL_one {w : World} {s : Value} {c : List Int} (h : Reads w s c) : ReadsL (w.alloc (.cells #[s] 23)) (.slice (some ⟨w.heap.size, 0, none⟩) 1 1) [c] := by
  refine .inr ⟨w.heap.size, 0, 1, fun _ => s, rfl, by simp, fun j hj => ?_⟩
  obtain rfl : j = 0 := by simp at hj; omega
  refine ⟨cell_of_one (heap_alloc_new _ _), ?_⟩
  exact h.below ((Below.refl w.heap.size w).alloc (Nat.le_refl _) _) (Nat.le_refl _)

theorem put_good {w : World} {B : Nat → Prop} {b n : Nat} {T : Tr} (h : TrailAt w B b T) (hg : Good n T) {s : Value} {c : List Int} (hr : Reads w s c) (hc : c.length ≤ 20000 ∧ ∀ x ∈ c, 1 ≤ x.natAbs ∧ x.natAbs ≤ n) :
    Calls Try.prog 34 #[.pointer (some ⟨b, 0, none⟩), s] w fun e w' => e = .returned (.tuple #[]) ∧ Keep B w w' ∧ TrailAt w' B b (putT T c) := by
  have h1 := hg.ok.ll
  have h2 := hg.shl
  have h3 := hg.ok.n2
  exact put_any h hr hc.1 (by omega) (by omega) (fun x hx => by rw [hg.ok.wl]; exact side_lt (hc.2 x hx)) (fun x hx => by have := hc.2 x hx; omega) (fun j => by have := hg.rowLen j; omega)

def AddPost (w : World) (B : Nat → Prop) (b : Nat) (T : Tr) (c : List Int) (o : Bool) (e : Ending) (w' : World) : Prop :=
  Keep B w w' ∧ ((o = false ∧ e = .returned (.int .i64 1) ∧ TrailAt w' B b T) ∨ (o = true ∧ e = .returned (.int .i64 0) ∧ TrailAt w' B b (putT T c)))

set_option maxRecDepth 100000 in
set_option maxHeartbeats 4000000 in
theorem Add_any {w : World} {B : Nat → Prop} {b n : Nat} {T : Tr} (h : TrailAt w B b T) (hg : Good n T) {s : Value} {c : List Int} (hr : Reads w s c) (hx : ∀ x ∈ c, In64 x) :
    Calls Try.prog 33 #[.pointer (some ⟨b, 0, none⟩), s] w fun e w' => AddPost w B b T c (rightB n [c]) e w' := by
  obtain ⟨sa, sc, rfl⟩ : ∃ sa sc, s = .slice sa c.length sc := hr.form
  obtain ⟨sn, hsn⟩ : ∃ sn, c.length = sn := ⟨_, rfl⟩
  rw [hsn] at hr ⊢
  have HSN := Lib.hid hsn
  clear hsn
  have B0 : Below w.heap.size w (w.alloc (.cells #[.slice sa sn sc] 23)) := (Below.refl w.heap.size w).alloc (Nat.le_refl _) _
  have HR := Lib.hid (Right_any (n : Int) (readsL_one hr) (fun c' hc' => by rw [List.mem_singleton] at hc'; subst hc'; exact hx))
  have hb := h
  obtain ⟨val, ct, hm, ht⟩ := hb
  obtain ⟨a, fc, ef⟩ : ∃ a fc, val .fa = .slice a n fc := by
    have hf := hm.row .fa
    rw [ht.fa] at hf
    obtain ⟨a, fc, e⟩ := hf.len3
    rw [hg.ok.fl] at e
    exact ⟨a, fc, e⟩
  have c2 : w.cell? ⟨b, 2, none⟩ = some (val .fa) := hm.bcell 2
  rw [ef] at c2
  have hn20 := hg.ok.n2
  have HT := Lib.hid h
  have HG := Lib.hid hg
  have HRD := Lib.hid hr
  have HB0 := Lib.hid B0
  have HTB := Lib.hid hm.lt
  clear hm ht ef h hg hr hx B0
  obtain ⟨o, ho⟩ : ∃ o, rightB n [c] = o := ⟨_, rfl⟩
  rw [ho] at HR ⊢
  have HO := Lib.hid ho
  clear ho
  cases o with
  | false =>
    go_enter Try.func33, Try.ntmps33
    go_wp2_with (go_at_call 31; refine HR.out.mono ?_; rintro e w1 ⟨rfl, h1⟩; have H1 := Lib.hid h1; clear h1)
    go_ret
    have B1 : Below w.heap.size w w1 := HB0.out.trans (H1.out.mono HB0.out.size)
    exact ⟨(Keep.refl B w).below B1 HTB.out, .inl ⟨rfl, rfl, HT.out.below B1 (Nat.le_refl _)⟩⟩
  | true =>
    go_enter Try.func33, Try.ntmps33
    go_wp2_with (go_at_call 31; refine HR.out.mono ?_; rintro e w1 ⟨rfl, h1⟩; have B1 : Hid (Below w.heap.size w w1) := Lib.hid (HB0.out.trans (h1.mono HB0.out.size)); clear h1)
    go_at_call 34
    refine (put_good (HT.out.below B1.out (Nat.le_refl _)) HG.out (HRD.out.below B1.out (Nat.le_refl _)) (badC_false (rightB_one HO.out).2)).mono ?_
    rintro e w2 ⟨rfl, k2, t2⟩
    have K2 := Lib.hid k2
    have T2 := Lib.hid t2
    clear k2 t2 c2
    go_wp2_with fail
    go_ret
    exact ⟨((Keep.refl B w).below B1.out HTB.out).trans K2.out, .inr ⟨rfl, rfl, T2.out⟩⟩
end Go.Proofs.Ytngegkgmenfelaa
