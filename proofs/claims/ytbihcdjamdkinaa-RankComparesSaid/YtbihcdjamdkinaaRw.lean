/-
  The document's answer: Order.
-/
import Derived.Test.YtbihcdjamdkinaaRv
import Derived.Deep.RegionLaw
namespace Go.Proofs.Ytbihcdjamdkinaa
open Go.RowKit Go.Lib
attribute [local go_sem ↓] Go.wp_at_zero Go.wp_at_succ

/-- 'append(v, x...)', as one step of a region that draws. -/
theorem step_app {ops : Array Oper} {o : Oper} {a : Act} {w : World} {K : Act → World → Prop} {Q : Exit → Act → World → Prop} {E : Prop} (hgd : o.guard = none) (s x : Operand)
    (ho : o.op = .call { callee := .builtin .append, args := #[s, x], argTypes := #[25, 25] }) (B : Nat) (v : Value) (es news : List Int) (hs : a.eval s = v) (hown : OwnI w B v es)
    (ad : Addr) (m c : Nat) (hx : a.eval x = .slice (some ad) m c) (hm : news.length = m) (hn : ∀ j, j < m → w.cell? (ad.add j) = some (.int .i64 (news.getD j 0))) (hlen : es.length + m ≤ 1000000) (hB : B ≤ w.heap.size)
    (h : ∀ v' w', OwnI w' B v' (es ++ news) → Grew w w' v v' → K (a.put o.dst v') w') : if Region.wanted o (yielded ops a.tmps) = true then Oper.wp Try.prog o a w K Q else E := by
  have hw : Region.wanted o (yielded ops a.tmps) = true := by simp [Region.wanted, hgd]
  rw [if_pos hw]
  obtain ⟨i0, hi0, hz0, hz1, hz2⟩ := info_parts info3
  obtain ⟨v', w', hrun, h1, h2, _, h4⟩ := run_append_own_at (P := Try.prog) (w := w) B 25 o.type 3 i0 (.int .i64 0) 1 8 Try.underlying25 hi0 hz0 hz1 hz2 rfl (by decide) v es.length _ hown ad m c (news.map (Value.int .i64)) (by simp [hm])
    (fun j u hj => by
      rw [List.getElem?_map] at hj
      by_cases hjl : j < news.length
      · rw [List.getElem?_eq_getElem hjl] at hj
        simp at hj
        subst hj
        rw [hn j (by omega)]
        simp [hjl]
      · rw [List.getElem?_eq_none (by omega)] at hj; simp at hj)
    (fun u hu => by simp at hu; obtain ⟨z, _, rfl⟩ := hu; rfl) (by unfold maxLen; omega) (by omega) hB
  have := h v' w' (by unfold OwnI; subst hm; simpa using h1) ⟨h2, h4⟩
  unfold Oper.wp
  simp [execOp, ho, resolve, invoke, builtin, hs, hx, hrun, Result.andThen]
  exact this

/-- Inserted ahead of the first that is less. -/
theorem ins_ordered {xs es : List Int} {i k : Nat} (h : Ordered xs i es) (hk : k ≤ i) (h1 : ∀ q, q < k → kAt xs i ≤ kAt xs (es.getD q 0).toNat) (h2 : k < i → kAt xs (es.getD k 0).toNat < kAt xs i) :
    Ordered xs (i + 1) (es.take k ++ [(i : Int)] ++ es.drop k) := by
  have hl : es.length = i := by rw [h.1.length_eq, upI_len]
  have hlt : ∀ q, q < i → es.getD q 0 < i := fun q hq => by
    have : es.getD q 0 ∈ upI i := h.1.subset (by rw [List.getD_eq_getElem?_getD, List.getElem?_eq_getElem (by omega)]; exact List.getElem_mem _)
    obtain ⟨j, hj, e⟩ := List.mem_map.1 this
    rw [← e]
    have := List.mem_range.1 hj
    simp only [Int.ofNat_eq_natCast]
    omega
  refine ⟨?_, ?_⟩
  · have e : (es.take k ++ [(i : Int)] ++ es.drop k).Perm (es ++ [(i : Int)]) := by
      have a1 : (es.take k ++ [(i : Int)] ++ es.drop k).Perm (es.take k ++ (es.drop k ++ [(i : Int)])) := by
        rw [List.append_assoc]
        exact List.Perm.append_left _ List.perm_append_comm
      refine a1.trans ?_
      rw [← List.append_assoc, List.take_append_drop]
    refine e.trans ?_
    have e2 : upI (i + 1) = upI i ++ [(i : Int)] := by unfold upI; rw [List.range_succ]; simp
    rw [e2]
    exact h.1.append_right _
  · have g : ∀ p, p ≤ i → (es.take k ++ [(i : Int)] ++ es.drop k).getD p 0 = if p < k then es.getD p 0 else if p = k then (i : Int) else es.getD (p - 1) 0 := fun p hp => by
      by_cases c1 : p < k
      · rw [if_pos c1, List.append_assoc, List.getD_eq_getElem?_getD, List.getElem?_append_left (by simp; omega), List.getElem?_take_of_lt c1, ← List.getD_eq_getElem?_getD]
      · rw [if_neg c1]
        have e : (es.take k).length = k := by simp; omega
        by_cases c2 : p = k
        · rw [if_pos c2, List.append_assoc, List.getD_eq_getElem?_getD, List.getElem?_append_right (by rw [e]; omega), e, c2]; simp
        · rw [if_neg c2, List.append_assoc, List.getD_eq_getElem?_getD, List.getElem?_append_right (by rw [e]; omega), e, List.getElem?_append_right (by simp; omega)]
          simp
          rw [show k + (p - k - 1) = p - 1 from by omega]
    intro p q p1 p2 p3
    rw [g p (by omega), g q (by omega)]
    by_cases c1 : q < k
    · rw [if_pos c1, if_pos (by omega)]; exact h.2 p q p1 p2 (by omega)
    · rw [if_neg c1]
      by_cases c2 : q = k
      · rw [if_pos c2, if_pos (by omega)]
        have a1 := h1 p (by omega)
        have a2 := hlt p (by omega)
        unfold TX
        rw [Int.toNat_natCast]
        omega
      · rw [if_neg c2]
        by_cases c3 : p < k
        · rw [if_pos c3]; exact h.2 p (q - 1) p1 (by omega) (by omega)
        · rw [if_neg c3]
          by_cases c4 : p = k
          · rw [if_pos c4]
            have a1 := h2 (by omega)
            have a2 := Srt.le h.2 (i := k) (j := q - 1) (Nat.zero_le _) (by omega) (by omega)
            unfold TX
            rw [Int.toNat_natCast]
            omega
          · rw [if_neg c4]; exact h.2 (p - 1) (q - 1) (Nat.zero_le _) (by omega) (by omega)

theorem own_empty (w : World) (B : Nat) (hB : B ≤ w.heap.size) : OwnI (w.alloc (.cells #[] 3)) B (.slice (some ⟨w.heap.size, 0, none⟩) 0 0) [] :=
  ⟨rfl, .inr ⟨w.heap.size, 0, #[], rfl, hB, heap_alloc_new _ _, Nat.le_refl _, Nat.zero_le _, rfl, by simp⟩⟩

theorem own_box (w : World) (B : Nat) (z : Int) (hB : B ≤ w.heap.size) : OwnI (w.alloc (.cells #[.int .i64 z] 3)) B (.slice (some ⟨w.heap.size, 0, none⟩) 1 1) [z] :=
  ⟨rfl, .inr ⟨w.heap.size, 1, #[.int .i64 z], rfl, hB, heap_alloc_new _ _, Nat.le_refl _, by decide, rfl, by simp⟩⟩

theorem OwnI.cellAdd {w : World} {B g n c : Nat} {es : List Int} (h : OwnI w B (.slice (some ⟨g, 0, none⟩) n c) es) (k j : Nat) (hj : k + j < n) : w.cell? ((⟨g, k, none⟩ : Addr).add j) = some (.int .i64 (es.getD (k + j) 0)) := by
  obtain ⟨rfl, _, _⟩ := h.cap
  obtain ⟨g', c', hv, _, _, _, _, hc, _⟩ := h.at (by omega)
  injection hv with h1 h2 h3
  injection h1 with h1
  injection h1 with h1 _ _
  subst h1 h3
  have e : (⟨g, k, none⟩ : Addr).add j = ⟨g, k + j, none⟩ := by
    unfold Addr.add
    by_cases h : j = 0
    · rw [if_pos h, h]; rfl
    · rw [if_neg h]
  rw [e]
  exact hc (k + j) hj
theorem OwnI.cell0 {w : World} {B g n c : Nat} {es : List Int} (h : OwnI w B (.slice (some ⟨g, 0, none⟩) n c) es) (j : Nat) (hj : j < n) : w.cell? ((⟨g, 0, none⟩ : Addr).add j) = some (.int .i64 (es.getD j 0)) := by
  have := h.cellAdd 0 j (by omega)
  rwa [Nat.zero_add] at this

theorem at8 {w : World} {B g i c k : Nat} {es : List Int} (h : OwnI w B (.slice (some ⟨g, 0, none⟩) i c) es) (hk : k ≤ i) (j : Nat) (hj : j < k) : w.cell? ((⟨g, 0, none⟩ : Addr).add j) = some (.int .i64 ((es.take k).getD j 0)) := by
  have := h.cellAdd 0 j (by omega)
  rw [this, Nat.zero_add, List.getD_eq_getElem?_getD, List.getD_eq_getElem?_getD, List.getElem?_take_of_lt hj]
theorem at8' {w : World} {B g i c k : Nat} {es : List Int} {ad : Addr} (h : OwnI w B (.slice (some ⟨g, 0, none⟩) i c) es) (ha : ad = ⟨g, k, none⟩ ∨ i - k = 0) (j : Nat) (hj : j < i - k) : w.cell? (ad.add j) = some (.int .i64 ((es.drop k).getD j 0)) := by
  rcases ha with rfl | h0
  · have := h.cellAdd k j (by omega)
    rw [this, List.getD_eq_getElem?_getD, List.getD_eq_getElem?_getD, List.getElem?_drop]
  · omega

theorem ordered_at {xs es : List Int} {i k : Nat} (h : Ordered xs i es) (hk : k < i) : ∃ z : Nat, es.getD k 0 = z ∧ z < i := by
  have hl : es.length = i := by rw [h.1.length_eq, upI_len]
  have : es.getD k 0 ∈ upI i := h.1.subset (by rw [List.getD_eq_getElem?_getD, List.getElem?_eq_getElem (by omega)]; exact List.getElem_mem _)
  obtain ⟨j, hj, e⟩ := List.mem_map.1 this
  exact ⟨j, e.symm, List.mem_range.1 hj⟩

/-- Behind an append: what is built, and the row that is read. -/
structure St8 (w W : World) (s : Nat) (G v : Value) (es L : List Int) : Prop where
  own : OwnI W s v L
  g : OwnI W s G es
  ap : ApartV G v
  sz : s ≤ W.heap.size
  be : Below s w W
theorem St8.grew {w W W' : World} {s : Nat} {G v v' : Value} {es L L' : List Int} (h : St8 w W s G v es L) (ho : OwnI W' s v' L') (hg : Grew W W' v v') : St8 w W' s G v' es L' :=
  ⟨ho, h.g.grew hg h.ap, (h.ap.symm.grew_left hg h.g).symm, Nat.le_trans h.sz hg.1.size, Grew.below h.be h.own hg h.sz⟩
theorem St8.alloc {w W : World} {s : Nat} {G v : Value} {es L : List Int} (h : St8 w W s G v es L) (o : Obj) : St8 w (W.alloc o) s G v es L :=
  ⟨h.own.alloc o, h.g.alloc o, h.ap, Nat.le_trans h.sz (by simp), h.be.alloc h.sz o⟩

set_option hygiene false in
macro "tail8" : tactic => `(tactic| (
  rw [← HW.out]
  clear HW
  obtain ⟨W0, hW0⟩ : ∃ W0, (wr.drewN nd).drewN nq = W0 := ⟨_, rfl⟩
  rw [hW0]
  have G0 : OwnI W0 s (.slice (some ⟨g, 0, none⟩) i c) es := by rw [← hW0, ← HEL.out]; exact HO.out
  have B0 : Below s w W0 := by rw [← hW0]; exact HB.out.trans ⟨rfl, rfl, rfl, Nat.le_refl _, fun _ _ => rfl⟩
  have gl : g < W0.heap.size := by rw [← hW0]; exact HGL.out
  have sl : s ≤ W0.heap.size := by have := HGS.out; omega
  have SA : Hid (St8 w ((W0.alloc (.cells #[.int .i64 i] 3)).alloc (.cells #[] 3)).drew s (.slice (some ⟨g, 0, none⟩) i c) (.slice (some ⟨W0.heap.size + 1, 0, none⟩) 0 0) es []) := Lib.hid
    ⟨by have := own_empty (W0.alloc (.cells #[.int .i64 i] 3)) s (by simp; omega); rw [show (W0.alloc (.cells #[.int .i64 i] 3)).heap.size = W0.heap.size + 1 from by simp] at this; exact this, (G0.alloc _).alloc _, .inr (by simp [Value.ownBlock]; omega), by simp [World.drew]; omega, ((B0.alloc sl _).alloc (by simp; omega) _).drew⟩
  have XA : Hid (OwnI ((W0.alloc (.cells #[.int .i64 i] 3)).alloc (.cells #[] 3)).drew s (.slice (some ⟨W0.heap.size, 0, none⟩) 1 1) [(i : Int)]) := Lib.hid ((own_box W0 s i sl).alloc _)
  have SB : Hid (St8 w ((W0.alloc (.cells #[] 3)).alloc (.cells #[.int .i64 i] 3)).drew s (.slice (some ⟨g, 0, none⟩) i c) (.slice (some ⟨W0.heap.size, 0, none⟩) 0 0) es []) := Lib.hid
    ⟨(own_empty W0 s sl).alloc _, (G0.alloc _).alloc _, .inr (by simp [Value.ownBlock]; omega), by simp [World.drew]; omega, ((B0.alloc sl _).alloc (by simp; omega) _).drew⟩
  have XB : Hid (OwnI ((W0.alloc (.cells #[] 3)).alloc (.cells #[.int .i64 i] 3)).drew s (.slice (some ⟨W0.heap.size + 1, 0, none⟩) 1 1) [(i : Int)]) := Lib.hid (by have := own_box (W0.alloc (.cells #[] 3)) s i (by simp; omega); rw [show (W0.alloc (.cells #[] 3)).heap.size = W0.heap.size + 1 from by simp] at this; exact this)
  have SC : Hid (St8 w (W0.alloc (.cells #[] 3)).drew s (.slice (some ⟨g, 0, none⟩) i c) (.slice (some ⟨W0.heap.size, 0, none⟩) 0 0) es []) := Lib.hid
    ⟨own_empty W0 s sl, G0.alloc _, .inr (by simp [Value.ownBlock]; omega), by simp [World.drew]; omega, (B0.alloc sl _).drew⟩
  have kc : k ≤ c := by omega
  obtain ⟨ad, hif, had⟩ : ∃ ad : Addr, (if c = k then some (⟨g, 0, none⟩ : Addr) else some ⟨g, k, none⟩) = some ad ∧ (ad = ⟨g, k, none⟩ ∨ i - k = 0) := by
    by_cases e : c = k
    · exact ⟨⟨g, 0, none⟩, by rw [if_pos e], .inr (by omega)⟩
    · exact ⟨⟨g, k, none⟩, by rw [if_neg e], .inl rfl⟩
  have HAD := Lib.hid had
  have hlk : (es.take k).length = k := by have := HEL.out; simp; omega
  have hld : (es.drop k).length = i - k := by have := HEL.out; simp; omega
  have HLK := Lib.hid hlk
  have HLD := Lib.hid hld
  clear hlk hld had
  clear G0 B0 HB HO HGL HGS HCE
  have HW0 := Lib.hid hW0
  clear hW0
  go_region_law (first
    | (refine step_app rfl (.tmp 33) (.tmp 36) rfl s (.slice (some ⟨W0.heap.size + 1, 0, none⟩) 0 0) [] (es.take k) rfl SA.out.own ⟨g, 0, none⟩ k c rfl HLK.out (fun j hj => at8 SA.out.g hk j hj) (by simp; omega) SA.out.sz (fun v1 w1 o1 g1 => ?_)
       have S1 := Lib.hid (SA.out.grew (L' := es.take k) o1 g1)
       have X1 := Lib.hid (XA.out.grew g1 (.inr (by simp [Value.ownBlock])))
       clear o1 g1)
    | (refine step_app rfl (.tmp 33) (.tmp 36) rfl s (.slice (some ⟨W0.heap.size, 0, none⟩) 0 0) [] (es.take k) rfl SB.out.own ⟨g, 0, none⟩ k c rfl HLK.out (fun j hj => at8 SB.out.g hk j hj) (by simp; omega) SB.out.sz (fun v1 w1 o1 g1 => ?_)
       have S1 := Lib.hid (SB.out.grew (L' := es.take k) o1 g1)
       have X1 := Lib.hid (XB.out.grew g1 (.inr (by simp [Value.ownBlock])))
       clear o1 g1)
    | (refine step_app rfl (.tmp 33) (.tmp 36) rfl s (.slice (some ⟨W0.heap.size, 0, none⟩) 0 0) [] (es.take k) rfl SC.out.own ⟨g, 0, none⟩ k c rfl HLK.out (fun j hj => at8 SC.out.g hk j hj) (by simp; omega) SC.out.sz (fun v1 w1 o1 g1 => ?_)
       have S1 := Lib.hid (SC.out.grew (L' := es.take k) o1 g1)
       clear o1 g1)
    | (refine step_app rfl (.tmp 37) (.tmp 39) rfl s _ (es.take k) [(i : Int)] rfl S1.out.own ⟨_, 0, none⟩ 1 1 rfl rfl (fun j hj => X1.out.cell0 j hj) (by rw [HLK.out]; omega) S1.out.sz (fun v2 w2 o2 g2 => ?_)
       have S2 := Lib.hid (S1.out.grew o2 g2)
       clear o2 g2)
    | (refine step_app rfl (.tmp 37) (.tmp 39) rfl s _ (es.take k) [(i : Int)] rfl (S1.out.alloc _).own ⟨_, 0, none⟩ 1 1 rfl rfl (fun j hj => (own_box _ s i S1.out.sz).cell0 j hj) (by rw [HLK.out]; omega) (S1.out.alloc _).sz (fun v2 w2 o2 g2 => ?_)
       have S2 := Lib.hid ((S1.out.alloc _).grew o2 g2)
       clear o2 g2)
    | (refine step_app rfl (.tmp 40) (.tmp 43) rfl s _ (es.take k ++ [(i : Int)]) (es.drop k) rfl S2.out.own ad (i - k) (c - k) (by first | rfl | exact congrArg (fun q => Value.slice q (i - k) (c - k)) hif) HLD.out (fun j hj => at8' S2.out.g HAD.out j hj) (by simp; omega) S2.out.sz (fun v3 w3 o3 g3 => ?_)
       have S3 := Lib.hid (S2.out.grew o3 g3)
       clear o3 g3))
  all_goals clear SA SB SC XA XB
  all_goals go_wp2_with fail
  all_goals go_roundw
  all_goals try (case rel => exact ⟨i + 1, es.take k ++ [(i : Int)] ++ es.drop k, by go_num, by omega, Lib.hid (fun h => by omega), Lib.hid (by rw [HS.out]; exact S3.out.own), Lib.hid (ins_ordered hOrd.out hk HL.out hend.out), Lib.hid (by rw [HS.out]; exact S3.out.be)⟩)
  all_goals try (simp [intOf]; omega)
  ))

set_option maxRecDepth 100000 in
set_option maxHeartbeats 4000000 in
theorem rOrder_any (a : Option Addr) (len cap : Nat) (xs : List Int) (w : World) (hl : len ≤ 100000) (hx : IsU w a len xs) (hu : ∀ x ∈ xs, U64 x) :
    Calls Try.prog 11 #[.slice a len cap] w fun e w' => ∃ v es', e = .returned v ∧ Ordered xs len es' ∧ OwnI w' w.heap.size v es' ∧ es'.length = len ∧ Below w.heap.size w w' := by
  have HX := Lib.hid hx
  have HU := Lib.hid hu
  clear hx hu
  go_enter Try.func11, Try.ntmps11
  go_wp2_with fail
  go_loopw [3, 4] (fun ov vi wr => ∃ (i : Nat) (es : List Int), vi = .int .i64 i ∧ i ≤ len ∧ Hid (i = 0 → ov = .slice none 0 0) ∧ Hid (OwnI wr w.heap.size ov es) ∧ Hid (Ordered xs i es) ∧ Hid (Below w.heap.size w wr)) (fun _ vi _ => len - (intOf vi).toNat)
  case atStart => exact ⟨0, [], rfl, Nat.zero_le _, Lib.hid (fun _ => rfl), Lib.hid (OwnI.nil _ _), Lib.hid ⟨.refl _, fun i j _ _ c => by omega⟩, Below.refl _ _⟩
  case round =>
    obtain ⟨i, es, rfl, hi, hnil, hO, hOrd, hB⟩ := hrel
    by_cases hlt : i < len
    · have hel : es.length = i := by rw [hOrd.out.1.length_eq, upI_len]
      by_cases h0 : i = 0
      · subst h0
        obtain rfl := hnil.out (by simp)
        go_wp2_with fail
        refine wp_loop_rounds 1 ?_
        rw [rounds_succ]
        go_wp2_with fail
        have dd : decide ((0 : Int) < 0) = false := by simp
        obtain rfl : es = [] := List.length_eq_zero_iff.1 hel
        go_quiet (fail)
        go_wp2_with fail
        obtain ⟨W0, hW0⟩ : ∃ W0, wr.drewN nq = W0 := ⟨_, rfl⟩
        rw [hW0]
        obtain ⟨s, hs⟩ : ∃ s, w.heap.size = s := ⟨_, rfl⟩
        rw [hs] at hB
        have B0 : Below s w W0 := by rw [← hW0]; exact hB.out.trans ⟨rfl, rfl, rfl, Nat.le_refl _, fun _ _ => rfl⟩
        have sl : s ≤ W0.heap.size := by have := B0.size; omega
        have SA : Hid (St8 w ((W0.alloc (.cells #[.int .i64 0] 3)).alloc (.cells #[] 3)).drew s (.slice none 0 0) (.slice (some ⟨W0.heap.size + 1, 0, none⟩) 0 0) [] []) := Lib.hid
          ⟨by have := own_empty (W0.alloc (.cells #[.int .i64 0] 3)) s (by simp; omega); rw [show (W0.alloc (.cells #[.int .i64 0] 3)).heap.size = W0.heap.size + 1 from by simp] at this; exact this, OwnI.nil _ _, .inl rfl, by simp [World.drew]; omega, ((B0.alloc sl _).alloc (by simp; omega) _).drew⟩
        have XA : Hid (OwnI ((W0.alloc (.cells #[.int .i64 0] 3)).alloc (.cells #[] 3)).drew s (.slice (some ⟨W0.heap.size, 0, none⟩) 1 1) [0]) := Lib.hid ((own_box W0 s 0 sl).alloc _)
        have SB : Hid (St8 w ((W0.alloc (.cells #[] 3)).alloc (.cells #[.int .i64 0] 3)).drew s (.slice none 0 0) (.slice (some ⟨W0.heap.size, 0, none⟩) 0 0) [] []) := Lib.hid
          ⟨(own_empty W0 s sl).alloc _, OwnI.nil _ _, .inl rfl, by simp [World.drew]; omega, ((B0.alloc sl _).alloc (by simp; omega) _).drew⟩
        have XB : Hid (OwnI ((W0.alloc (.cells #[] 3)).alloc (.cells #[.int .i64 0] 3)).drew s (.slice (some ⟨W0.heap.size + 1, 0, none⟩) 1 1) [0]) := Lib.hid (by have := own_box (W0.alloc (.cells #[] 3)) s 0 (by simp; omega); rw [show (W0.alloc (.cells #[] 3)).heap.size = W0.heap.size + 1 from by simp] at this; exact this)
        clear B0 hB hO hW0 hnil
        have HS := Lib.hid hs
        clear hs
        go_region_law (first
          | (refine step_app rfl (.tmp 37) (.tmp 39) rfl s (.slice (some ⟨W0.heap.size + 1, 0, none⟩) 0 0) [] [0] rfl SA.out.own ⟨W0.heap.size, 0, none⟩ 1 1 rfl rfl (fun j hj => XA.out.cell0 j hj) (by simp) SA.out.sz (fun v2 w2 o2 g2 => ?_)
             have S2 := Lib.hid (SA.out.grew (L' := [0]) o2 g2)
             clear g2
             obtain ⟨g2, c2, rfl, hc2, _, _, _, _, _⟩ := o2.at (by simp)
             have hc2 : 1 ≤ c2 := by simpa using hc2
             clear o2)
          | (refine step_app rfl (.tmp 37) (.tmp 39) rfl s (.slice (some ⟨W0.heap.size, 0, none⟩) 0 0) [] [0] rfl SB.out.own ⟨W0.heap.size + 1, 0, none⟩ 1 1 rfl rfl (fun j hj => XB.out.cell0 j hj) (by simp) SB.out.sz (fun v2 w2 o2 g2 => ?_)
             have S2 := Lib.hid (SB.out.grew (L' := [0]) o2 g2)
             clear g2
             obtain ⟨g2, c2, rfl, hc2, _, _, _, _, _⟩ := o2.at (by simp)
             have hc2 : 1 ≤ c2 := by simpa using hc2
             clear o2))
        all_goals clear SA SB XA XB
        all_goals go_wp2_with fail
        all_goals go_roundw
        all_goals try (case rel => exact ⟨1, [0], rfl, by omega, Lib.hid (fun h => by omega), Lib.hid (by rw [HS.out]; exact S2.out.own), Lib.hid (ins_ordered hOrd.out (Nat.le_refl 0) (fun q hq => by omega) (fun h => by omega)), Lib.hid (by rw [HS.out]; exact S2.out.be)⟩)
        all_goals try (simp [intOf]; omega)
      · obtain ⟨g, c, rfl, hic, _, hgs, hgl, hcells, _⟩ := hO.out.at (by omega)
        rw [hel] at hic
        have HCM := hO.out.cap.2.2
        obtain ⟨s, hs⟩ : ∃ s, w.heap.size = s := ⟨_, rfl⟩
        rw [hs] at hgs hB hO
        have HS := Lib.hid hs
        rw [hel]
        have HEL := Lib.hid hel
        have HCE := Lib.hid hcells
        have HGL := Lib.hid hgl
        have HGS := Lib.hid hgs
        have hi0 : 0 < i := by omega
        have HB := hB
        have HO := hO
        clear hs hel hcells hgl hgs hnil hO hB h0
        go_wp2_with fail
        go_loopw [5] (fun vk wr2 => ∃ k : Nat, vk = .int .i64 k ∧ k ≤ i ∧ Hid (∀ q, q < k → kAt xs i ≤ kAt xs (es.getD q 0).toNat) ∧ Hid (∃ nd, wr2 = wr.drewN nd)) (fun vk _ => i - (intOf vk).toNat)
        case atStart => exact ⟨0, rfl, Nat.zero_le _, Lib.hid (fun q hq => by omega), Lib.hid ⟨0, rfl⟩⟩
        case round =>
          rename_i wr0 _
          obtain ⟨k, rfl, hk, HL, hW⟩ := hrel
          obtain ⟨nd, rfl⟩ := hW.out
          clear hW
          by_cases hki : k < i
          · obtain ⟨z, hz, hzi⟩ : ∃ z : Nat, es.getD k 0 = z ∧ z < i := ordered_at hOrd.out hki
            obtain ⟨b, off, rfl, hb, hc⟩ := HX.out.2.resolve_left (by omega)
            have cx : ∀ j, j < len → wr.cell? ⟨b, off + j, none⟩ = some (.int .u64 (xs.getD j 0)) := fun j hj => (HB.out.cell (p := ⟨b, off + j, none⟩) (by have := HS.out; simp; omega)).trans (hc j hj)
            have c1 : (wr.drewN nd).cell? ⟨g, k, none⟩ = some (.int .i64 z) := by rw [← hz]; exact HCE.out k (by have := HEL.out; omega)
            have c2 : (wr.drewN nd).cell? ⟨b, off + z, none⟩ = some (.int .u64 (xs.getD z 0)) := cx z (by omega)
            have c3 : (wr.drewN nd).cell? ⟨b, off + i, none⟩ = some (.int .u64 (xs.getD i 0)) := cx i (by omega)
            have HC := Lib.hid (fun w => rCompare_any (xs.getD z 0) (xs.getD i 0) w (u64_at HU.out z) (u64_at HU.out i))
            have HF : Hid (fcmpAt xs z i < 0 ↔ kAt xs z < kAt xs i) := Lib.hid fcmpAt_neg
            have e0 : fcmpAt xs z i = fcmp (xs.getD z 0).toNat (xs.getD i 0).toNat := rfl
            rw [← e0] at HC
            clear e0 cx hc hb
            generalize hW : wr.drewN nd = W at *
            have HW := Lib.hid hW
            clear hW
            have HZ := Lib.hid hz
            clear hz
            have hki' : decide (k < i) = true := decide_eq_true hki
            have zl : (z : Int) < (len : Int) := by omega
            have il : (i : Int) < (len : Int) := by omega
            generalize fcmpAt xs z i = q at *
            cases hf : decide (0 ≤ q) with
            | true =>
              have HQ : Hid (kAt xs i ≤ kAt xs z) := Lib.hid (by have := HF.out; have := of_decide_eq_true hf; omega)
              generalize xs.getD z 0 = x at *
              generalize xs.getD i 0 = y at *
              go_wp2_with fail
              go_quiet ((go_at_call 13; exact Calls.quiet_of_same (HC.out _)))
              go_wp2_with fail
              go_roundw
              case rel =>
                refine ⟨k + 1, by go_num, by omega, Lib.hid (fun q' hq' => ?_), Lib.hid ⟨nd + nq, by rw [← HW.out, World.drewN_drewN]⟩⟩
                by_cases e : q' = k
                · rw [e, HZ.out]; exact HQ.out
                · exact HL.out q' (by omega)
              case measure => simp [intOf]; omega
            | false =>
              have hend := Lib.hid (show k < i → kAt xs (es.getD k 0).toNat < kAt xs i from fun _ => by
                rw [HZ.out]
                exact HF.out.1 (by have := of_decide_eq_false hf; omega))
              generalize xs.getD z 0 = x at *
              generalize xs.getD i 0 = y at *
              go_wp2_with fail
              go_quiet ((go_at_call 13; exact Calls.quiet_of_same (HC.out _)))
              clear c1 c2 c3
              go_wp2_with fail
              tail8
          · have hend := Lib.hid (show k < i → kAt xs (es.getD k 0).toNat < kAt xs i from fun h => absurd h hki)
            have dd : decide (k < i) = false := decide_eq_false (by omega)
            clear hki
            generalize hW : wr.drewN nd = W at *
            have HW := Lib.hid hW
            clear hW
            go_wp2_with fail
            go_quiet (fail)
            go_wp2_with fail
            tail8
    · obtain rfl : i = len := by omega
      go_wp2_with fail
      go_ret
      exact ⟨_, es, rfl, hOrd.out, hO.out, by rw [hOrd.out.1.length_eq, upI_len], hB.out⟩
end Go.Proofs.Ytbihcdjamdkinaa
