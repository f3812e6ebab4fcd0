/-
  For the statements: Back in one; what Lits tells stays; what is kept.
-/
import Derived.Test.YtngegkgmenfelaaXe
namespace Go.Proofs.Ytngegkgmenfelaa
open Go.RowKit Go.Lib

/-- All that was there at the start. -/
def Old (W : World) : Nat → Prop := fun k => k < W.heap.size

theorem old_there {W w : World} (h : Below W.heap.size W w) : There (Old W) w := fun _ hk => Nat.lt_of_lt_of_le hk h.size
theorem old_keep {W w w' : World} (h : Below W.heap.size W w) (hk : Keep (Old W) w w') : Below W.heap.size W w' := h.trans (hk.toBelow fun _ h => h)

/-- More is kept: what came behind the trail. -/
theorem TrailAt.more {w w' : World} {B : Nat → Prop} {b : Nat} {T : Tr} (h : TrailAt w B b T) (hb : Below w.heap.size w w') : TrailAt w' (fun k => B k ∨ (w.heap.size ≤ k ∧ k < w'.heap.size)) b T := by
  obtain ⟨val, ct, hm, ht⟩ := h
  have hm' := hm.below hb (Nat.le_refl _)
  refine ⟨val, ct, ?_, ht⟩
  exact { hm' with
    base := fun hk => by
      rcases hk with hk | hk
      · exact hm.base hk
      · have := lt_of_block hm.box; omega
    nB := fun s k hs hk => by
      rcases hk with hk | hk
      · exact hm.nB s k hs hk
      · have := (hm.row s).lt k hs; omega
    lt := fun k hk => by
      rcases hk with hk | hk
      · exact hm'.lt k hk
      · exact hk.2 }

/-- What holds as long as A is kept. -/
def Stays (A : Nat → Prop) (w : World) (P : World → Prop) : Prop := ∀ w2, Keep A w w2 → P w2
theorem Stays.step {A : Nat → Prop} {w w' : World} {P : World → Prop} (h : Stays A w P) (k : Keep A w w') : Stays A w' P := fun w2 hk => h w2 (k.trans hk)
theorem Stays.grow {A A' : Nat → Prop} {w : World} {P : World → Prop} (h : Stays A w P) (k : ∀ i, A i → A' i) : Stays A' w P := fun w2 hk => h w2 (hk.mono k)
theorem Stays.now {A : Nat → Prop} {w : World} {P : World → Prop} (h : Stays A w P) : P w := h w (Keep.refl A w)

/-- Lits: what it tells stays as long as more is kept. -/
def LitsPost (w : World) (B : Nat → Prop) (b : Nat) (T : Tr) (e : Ending) (w' : World) : Prop :=
  ∃ v, ∃ B' : Nat → Prop, e = .returned v ∧ (∀ k, B k → B' k) ∧ TrailAt w' B' b T ∧ Keep B w w' ∧ Stays B' w' fun w2 => Reads w2 v T.lits
theorem Lits_out {w : World} {B : Nat → Prop} {b n : Nat} {T : Tr} (h : TrailAt w B b T) (hg : Good n T) : Calls Try.prog 13 #[.pointer (some ⟨b, 0, none⟩)] w (LitsPost w B b T) := by
  have h1 := hg.litsLen
  have h2 := hg.ok.n2
  refine (Lits_any h (by omega)).mono ?_
  rintro e w' ⟨v, rfl, hr, hf, hb⟩
  refine ⟨v, _, rfl, fun k hk => .inl hk, h.more hb, (Keep.refl B w).below hb h.there, fun w2 hk => Row.reads (hr.kept fun k hv => hk.block k (.inr ⟨hf k hv, hr.lt k hv⟩))⟩

theorem Back_A {w : World} {B : Nat → Prop} {b n : Nat} {T : Tr} (h : TrailAt w B b T) (hg : Good n T) (lv : Nat) (hlv : lv ≤ T.starts.length) :
    Calls Try.prog 14 #[.pointer (some ⟨b, 0, none⟩), .int .i64 (lv : Nat)] w fun e w' => e = .returned (.int .i64 0) ∧ Keep B w w' ∧ TrailAt w' B b (backA T lv) := by
  unfold backA
  by_cases hl : lv < T.starts.length
  · rw [if_pos hl]
    exact Back_ok h hg lv hl
  · rw [if_neg hl]
    obtain rfl : lv = T.starts.length := by omega
    have h1 := hg.litsLen
    have h2 := hg.ok.n2
    have h3 := hg.startsLen
    refine (Back_same h (by omega)).mono ?_
    rintro e w' ⟨rfl, hw⟩
    obtain rfl := hw.symm
    exact ⟨rfl, Keep.refl B w, h⟩
end Go.Proofs.Ytngegkgmenfelaa
