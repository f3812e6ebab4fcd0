/-
  put: its walk.
-/
import Derived.Test.YtngegkgmenfelaaWh
namespace Go.Proofs.Ytngegkgmenfelaa
open Go.RowKit Go.Lib
attribute [local go_sem ↓] Go.wp_at_zero Go.wp_at_succ

/-- The loop over the first two literals: k of them are done. -/
def PutRel (B : Nat → Prop) (w : World) (T : Tr) (c : List Int) (i b p m g ql oc k : Nat) (wr : World) : Prop :=
  (∃ val' ct', Mem wr (fun k => B k ∨ k = p) b (boxOf val' 0) val' ct' ∧ Tie { putL T (swC c i) with W := pushN T.W (swC c i) m k } val' ct' ∧ val' (.C m) = .slice (some ⟨g, 0, none⟩) ql oc ∧ ct' (.C m) = ints (swC c i)) ∧ Keep B w wr

theorem put_round {B : Nat → Prop} {w : World} {T : Tr} {c : List Int} {i b p m g ql oc k : Nat} {wr : World} (H : PutRel B w T c i b p m g ql oc k wr) (hlt : k < 2) (hi1 : 1 ≤ i) (hi2 : i < ql) (hql : c.length = ql)
    (hSW : ∀ x ∈ c, sideN x < T.W.length) (hZB : ∀ x ∈ c, x ≠ 0 ∧ -20000 ≤ x ∧ x ≤ 20000) (hWL : ∀ j, (T.W.getD j []).length ≤ 800000) :
    ∃ (z : Int) (s0 gw cw wl wn wc : Nat) (wa : Option Addr) (xs : List Value), wr.cell? ⟨g, k, none⟩ = some (.int .i64 z) ∧ g < wr.heap.size ∧ b < wr.heap.size ∧ gw < wr.heap.size ∧
      wr.cell? ⟨b, 1, none⟩ = some (.slice (some ⟨gw, 0, none⟩) wl cw) ∧ wr.cell? ⟨gw, s0, none⟩ = some (.slice wa wn wc) ∧ wr.frozen? ⟨gw, s0, none⟩ = false ∧ (0 : Int) ≤ (s0 : Int) ∧ (s0 : Int) < (wl : Int) ∧
      Hid (Row (wr.drew.alloc (.cells #[.int .i64 m] 3)) 3 1 (.slice wa wn wc) xs) ∧ Hid (xs.length + 1 ≤ 1000000) ∧
      Hid (∀ w', Below wr.heap.size wr w' → w'.cell? ⟨b, 1, none⟩ = some (.slice (some ⟨gw, 0, none⟩) wl cw)) ∧
      Hid (∀ w, Calls Try.prog 59 #[.int .i64 z] w fun e w' => e = .returned (.int .i64 (s0 : Nat)) ∧ w' = w) ∧
      Hid (∀ v3 w3, Row w3 3 1 v3 (xs ++ [.int .i64 (m : Nat)]) → Grew (wr.drew.alloc (.cells #[.int .i64 (m : Nat)] 3)) w3 (.slice wa wn wc) v3 →
              ∃ a1 l1 n1, v3 = .slice a1 l1 n1 ∧ w3.cell? ⟨b, 1, none⟩ = some (.slice (some ⟨gw, 0, none⟩) wl cw) ∧ w3.cell? ⟨gw, s0, none⟩ = some (.slice wa wn wc) ∧ w3.frozen? ⟨gw, s0, none⟩ = false ∧
              PutRel B w T c i b p m g ql oc (k + 1) (w3.setCell ⟨gw, s0, none⟩ (.slice a1 l1 n1)) ∧ Hid ((w3.setCell ⟨gw, s0, none⟩ (.slice a1 l1 n1)).cell? ⟨b, 1, none⟩ = some (.slice (some ⟨gw, 0, none⟩) wl cw))) := by
  obtain ⟨⟨val', ct', h1, h2, h3, h4⟩, HK8⟩ := H
  have hln : (swC c i).length = ql := by unfold swC; rw [List.length_set, List.length_set]; exact hql
  have R5 := h1.row (.C m)
  rw [h3, h4] at R5
  obtain ⟨_, _, e3, _, _, hgl, hc3, _⟩ := R5.at (by rw [ints_len, hln]; omega)
  injection e3 with e3 n1 n2
  injection e3 with e3
  injection e3 with e3 _ _
  subst e3
  clear n1 n2
  have q0 := hc3 k _ (ints_at (by rw [hln]; omega))
  have hz := swC_mem hql hi1 hi2 k (by omega)
  have HN : pushN T.W (swC c i) m (k + 1) = push (pushN T.W (swC c i) m k) (sideN ((swC c i).getD k 0)) m := rfl
  generalize (swC c i).getD k 0 = z at q0 hz HN
  have hzb := hZB z hz
  obtain ⟨s0, hs0⟩ : ∃ s0, sideI z = ((s0 : Nat) : Int) := ⟨(sideI z).toNat, by have := hzb; unfold sideI; split <;> omega⟩
  have hs1 : sideN z = s0 := by unfold sideN; rw [hs0]; rfl
  have hsw' : s0 < ({ putL T (swC c i) with W := pushN T.W (swC c i) m k } : Tr).W.length := by rw [← hs1]; show _ < (pushN T.W (swC c i) m k).length; rw [pushN_len]; exact hSW _ hz
  obtain ⟨gw, cw, wa, wn, wc, ew, cw1, ewj, cwj, ewl, hgw⟩ := watch_at h1 h2 s0 hsw'
  obtain ⟨wl, hwl⟩ : ∃ wl, ({ putL T (swC c i) with W := pushN T.W (swC c i) m k } : Tr).W.length = wl := ⟨_, rfl⟩
  rw [hwl] at cw1 ew
  have RR : Row (wr.drew.alloc (.cells #[.int .i64 m] 3)) 3 1 (.slice wa wn wc) (ints (({ putL T (swC c i) with W := pushN T.W (swC c i) m k } : Tr).W.getD s0 [])) := by
    have R0 := (h1.drew.alloc (.cells #[.int .i64 m] 3)).row (.W s0)
    rw [ewj, h2.W s0] at R0
    exact R0
  have fw := (h1.waCell ew (show (ct' .wa)[s0]? = some (.slice wa wn wc) from by rw [h2.wa, List.getElem?_map, List.getElem?_range hsw', ← ewj]; rfl)).2
  have hwn : wn ≤ 900000 := by
    rw [← ewl]
    have q1 := pushN_row T.W (swC c i) m s0 k
    have q2 := hWL s0
    show ((pushN T.W (swC c i) m k).getD s0 []).length ≤ _
    omega
  refine ⟨z, s0, gw, cw, wl, wn, wc, wa, _, q0, hgl, lt_of_block h1.box, hgw, cw1, cwj, fw, by omega, by omega, Lib.hid RR, Lib.hid (by rw [ints_len, ewl]; omega), Lib.hid (fun w' hb => ((h1.below hb (Nat.le_refl _)).bcell 1).trans (by rw [← ew]; rfl)), Lib.hid (fun w => by rw [← hs0]; exact side_any z w (by omega)), Lib.hid ?_⟩
  intro v3 w3 R1 G1
  obtain ⟨a1, l1, n1, e1, e2, e3, e4, hh⟩ := push_fact h1 h2 hsw' ew ewj v3 w3 R1 G1
  obtain ⟨k1, ct3, m1, t1, q1⟩ := hh.out
  refine ⟨a1, l1, n1, e1, e2, e3, e4, ⟨⟨_, ct3, m1, ?_, ?_, (q1 m).trans h4⟩, HK8.trans (k1.mono fun k hk => .inl hk)⟩, Lib.hid ((m1.bcell 1).trans (by rw [← ew]; simp [boxOf, upS]))⟩
  · rw [HN, hs1]; exact t1
  · rw [upS_other _ _ (by simp)]; exact h3

set_option maxRecDepth 100000 in
set_option maxHeartbeats 4000000 in
theorem put_push {w : World} {R : World → Prop} {b m : Nat} {z : Int} {s0 gw cw wl wn wc : Nat} {wa : Option Addr} {xs : List Value} (u1 u2 u3 u5 u6 u7 u9 u10 u11 u12 u13 u14 u15 u16 u17 u18 u19 u20 u21 u22 u23 u24 u25 u26 u27 u28 u29 u30 u31 u32 u33 u34 u35 u36 u37 u38 u39 u40 u41 u42 u43 u44 u45 u46 u47 u48 u49 u50 u51 u52 u53 u54 u55 u56 u57 u58 u59 u60 u61 u62 u63 u64 u65 u66 u67 u68 u69 u70 u71 u72 u73 u74 u75 u76 u77 u78 u79 u80 u81 : Value) (Q : Exit → Act → World → Prop) (hbW : b < w.heap.size) (hgw : gw < w.heap.size) (cw1 : w.cell? ⟨b, 1, none⟩ = some (.slice (some ⟨gw, 0, none⟩) wl cw)) (cwj : w.cell? ⟨gw, s0, none⟩ = some (.slice wa wn wc)) (fw : w.frozen? ⟨gw, s0, none⟩ = false) (hb0 : (0 : Int) ≤ (s0 : Int)) (hb1 : (s0 : Int) < (wl : Int))
    (RR : Hid (Row (w.drew.alloc (.cells #[.int .i64 m] 3)) 3 1 (.slice wa wn wc) xs)) (RL : Hid (xs.length + 1 ≤ 1000000)) (HA : Hid (∀ w', Below w.heap.size w w' → w'.cell? ⟨b, 1, none⟩ = some (.slice (some ⟨gw, 0, none⟩) wl cw)))
    (HSD : Hid (∀ w, Calls Try.prog 59 #[.int .i64 z] w fun e w' => e = .returned (.int .i64 (s0 : Nat)) ∧ w' = w))
    (PK : Hid (∀ v3 w3, Row w3 3 1 v3 (xs ++ [.int .i64 (m : Nat)]) → Grew (w.drew.alloc (.cells #[.int .i64 (m : Nat)] 3)) w3 (.slice wa wn wc) v3 →
              ∃ a1 l1 n1, v3 = .slice a1 l1 n1 ∧ w3.cell? ⟨b, 1, none⟩ = some (.slice (some ⟨gw, 0, none⟩) wl cw) ∧ w3.cell? ⟨gw, s0, none⟩ = some (.slice wa wn wc) ∧ w3.frozen? ⟨gw, s0, none⟩ = false ∧
              R (w3.setCell ⟨gw, s0, none⟩ (.slice a1 l1 n1)) ∧ Hid ((w3.setCell ⟨gw, s0, none⟩ (.slice a1 l1 n1)).cell? ⟨b, 1, none⟩ = some (.slice (some ⟨gw, 0, none⟩) wl cw))))
    (hQ : ∀ (v63 v64 v65 v66 v67 v68 v69 v70 v71 v72 v73 v74 v75 v76 v77 v78 v79 v80 : Value) (w' : World), R w' → Q .normal ⟨#[.pointer (some ⟨b, 0, none⟩), u1, u2, u3, .int .i64 (m : Nat), u5, u6, u7, .int .i64 z, u9, u10, u11, u12, u13, u14, u15, u16, u17, u18, u19, u20, u21, u22, u23, u24, u25, u26, u27, u28, u29, u30, u31, u32, u33, u34, u35, u36, u37, u38, u39, u40, u41, u42, u43, u44, u45, u46, u47, u48, u49, u50, u51, u52, u53, u54, u55, u56, u57, u58, u59, u60, u61, u62, v63, v64, v65, v66, v67, v68, v69, v70, v71, v72, v73, v74, v75, v76, v77, v78, v79, v80, u81], []⟩ w') :
    (Code.region 10 #[{ dst := some 63, op := Op.move (Operand.tmp 0), type := 26, pos := "trail.go:64", after := #[], guard := none }, { dst := some 64, op := Op.nilCheck (Operand.tmp 63), type := 0, pos := "trail.go:64", after := #[{ on := 0, ground := Ground.data }], guard := none }, { dst := some 65, op := Op.fieldAddr 62 (Operand.tmp 64) 1, type := 0, pos := "trail.go:64", after := #[{ on := 1, ground := Ground.data }], guard := none }, { dst := some 66, op := Op.load 22 (Operand.tmp 65), type := 22, pos := "trail.go:64", after := #[{ on := 2, ground := Ground.data }], guard := none }, { dst := some 67, op := Op.move (Operand.tmp 8), type := 3, pos := "trail.go:64", after := #[], guard := none }, { dst := some 68, op := Op.call { callee := Callee.value (Operand.func 59), args := #[Operand.tmp 67], argTypes := #[3] }, type := 3, pos := "trail.go:64", after := #[{ on := 4, ground := Ground.data }], guard := none }, { dst := some 69, op := Op.move (Operand.tmp 0), type := 26, pos := "trail.go:64", after := #[], guard := none }, { dst := some 70, op := Op.nilCheck (Operand.tmp 69), type := 0, pos := "trail.go:64", after := #[{ on := 6, ground := Ground.data }], guard := none }, { dst := some 71, op := Op.fieldAddr 62 (Operand.tmp 70) 1, type := 0, pos := "trail.go:64", after := #[{ on := 7, ground := Ground.data }], guard := none }, { dst := some 72, op := Op.load 22 (Operand.tmp 71), type := 22, pos := "trail.go:64", after := #[{ on := 8, ground := Ground.data }], guard := none }, { dst := some 73, op := Op.move (Operand.tmp 8), type := 3, pos := "trail.go:64", after := #[], guard := none }, { dst := some 74, op := Op.call { callee := Callee.value (Operand.func 59), args := #[Operand.tmp 73], argTypes := #[3] }, type := 3, pos := "trail.go:64", after := #[{ on := 10, ground := Ground.data }, { on := 5, ground := Ground.chain }], guard := none }, { dst := some 75, op := Op.indexAddr 22 (Operand.tmp 72) (Operand.tmp 74), type := 0, pos := "trail.go:64", after := #[{ on := 9, ground := Ground.data }, { on := 11, ground := Ground.data }], guard := none }, { dst := some 76, op := Op.load 23 (Operand.tmp 75), type := 23, pos := "trail.go:64", after := #[{ on := 12, ground := Ground.data }], guard := none }, { dst := some 77, op := Op.move (Operand.tmp 4), type := 3, pos := "trail.go:64", after := #[], guard := none }, { dst := some 78, op := Op.buildSlice 23 1 #[(0, Operand.tmp 77)], type := 23, pos := "trail.go:64", after := #[{ on := 14, ground := Ground.data }], guard := none }, { dst := some 79, op := Op.call { callee := Callee.builtin Builtin.append, args := #[Operand.tmp 76, Operand.tmp 78], argTypes := #[23, 23] }, type := 23, pos := "trail.go:64", after := #[{ on := 13, ground := Ground.data }, { on := 15, ground := Ground.data }, { on := 11, ground := Ground.chain }], guard := none }, { dst := some 80, op := Op.indexAddr 22 (Operand.tmp 66) (Operand.tmp 68), type := 0, pos := "trail.go:64", after := #[{ on := 3, ground := Ground.data }, { on := 5, ground := Ground.data }, { on := 0, ground := Ground.phase }, { on := 1, ground := Ground.phase }, { on := 2, ground := Ground.phase }, { on := 3, ground := Ground.phase }, { on := 4, ground := Ground.phase }, { on := 5, ground := Ground.phase }, { on := 6, ground := Ground.phase }, { on := 7, ground := Ground.phase }, { on := 8, ground := Ground.phase }, { on := 9, ground := Ground.phase }, { on := 10, ground := Ground.phase }, { on := 11, ground := Ground.phase }, { on := 12, ground := Ground.phase }, { on := 13, ground := Ground.phase }, { on := 14, ground := Ground.phase }, { on := 15, ground := Ground.phase }, { on := 16, ground := Ground.phase }], guard := none }, { dst := none, op := Op.store 23 (Operand.tmp 80) (Operand.tmp 79), type := 0, pos := "trail.go:64", after := #[{ on := 17, ground := Ground.data }, { on := 16, ground := Ground.data }, { on := 16, ground := Ground.chain }, { on := 0, ground := Ground.phase }, { on := 1, ground := Ground.phase }, { on := 2, ground := Ground.phase }, { on := 3, ground := Ground.phase }, { on := 4, ground := Ground.phase }, { on := 5, ground := Ground.phase }, { on := 6, ground := Ground.phase }, { on := 7, ground := Ground.phase }, { on := 8, ground := Ground.phase }, { on := 9, ground := Ground.phase }, { on := 10, ground := Ground.phase }, { on := 11, ground := Ground.phase }, { on := 12, ground := Ground.phase }, { on := 13, ground := Ground.phase }, { on := 14, ground := Ground.phase }, { on := 15, ground := Ground.phase }, { on := 16, ground := Ground.phase }], guard := none }] true).wp Try.prog Q ⟨#[.pointer (some ⟨b, 0, none⟩), u1, u2, u3, .int .i64 (m : Nat), u5, u6, u7, .int .i64 z, u9, u10, u11, u12, u13, u14, u15, u16, u17, u18, u19, u20, u21, u22, u23, u24, u25, u26, u27, u28, u29, u30, u31, u32, u33, u34, u35, u36, u37, u38, u39, u40, u41, u42, u43, u44, u45, u46, u47, u48, u49, u50, u51, u52, u53, u54, u55, u56, u57, u58, u59, u60, u61, u62, u63, u64, u65, u66, u67, u68, u69, u70, u71, u72, u73, u74, u75, u76, u77, u78, u79, u80, u81], []⟩ w := by
  refine wp_region_noPanic ?_
  refine wp_region_held_drew (S := (fun w' => w'.cell? ⟨b, 1, none⟩ = some (.slice (some ⟨gw, 0, none⟩) wl cw))) (by kernel_rfl) ?_ (fun hHeld => ?_)
  · (try dsimp only)
    first | (with_reducible assumption) | (with_reducible exact HFB.out) | (with_reducible exact HA.out _ (((Below.refl _ _).alloc (Nat.le_refl _) _).drew)) | (with_reducible exact HA.out _ ((Below.refl _ _).drew)) | (with_reducible exact HA.out _ (Below.refl _ _))
  refine wpAnyH_take (i := 0) (v := ?_) rfl (by kernel_rfl) (by kernel_rfl) (by kernel_rfl) (fun _ _ _ h => h) (Or.inl ⟨by rfl, ?_⟩) (by assumption) ?_
  rotate_left
  · intro w hSw
    (try dsimp only at hSw)
    go_simp
    (try with_reducible rfl)
  (try simp only [Act.put, List.setIfInBounds_toArray, List.set_cons_zero, List.set_cons_succ])
  refine wpAnyH_take (i := 1) (v := ?_) rfl (by kernel_rfl) (by kernel_rfl) (by kernel_rfl) (fun _ _ _ h => h) (Or.inl ⟨by rfl, ?_⟩) (by assumption) ?_
  rotate_left
  · intro w hSw
    (try dsimp only at hSw)
    go_simp
    (try with_reducible rfl)
  (try simp only [Act.put, List.setIfInBounds_toArray, List.set_cons_zero, List.set_cons_succ])
  refine wpAnyH_take (i := 2) (v := ?_) rfl (by kernel_rfl) (by kernel_rfl) (by kernel_rfl) (fun _ _ _ h => h) (Or.inl ⟨by rfl, ?_⟩) (by assumption) ?_
  rotate_left
  · intro w hSw
    (try dsimp only at hSw)
    go_simp
    (try with_reducible rfl)
  (try simp only [Act.put, List.setIfInBounds_toArray, List.set_cons_zero, List.set_cons_succ])
  refine wpAnyH_take (i := 3) (v := ?_) rfl (by kernel_rfl) (by kernel_rfl) (by kernel_rfl) (fun _ _ _ h => h) (Or.inl ⟨by rfl, ?_⟩) (by assumption) ?_
  rotate_left
  · intro w hSw
    (try dsimp only at hSw)
    go_simp
    (try with_reducible rfl)
  (try simp only [Act.put, List.setIfInBounds_toArray, List.set_cons_zero, List.set_cons_succ])
  refine wpAnyH_take (i := 4) (v := ?_) rfl (by kernel_rfl) (by kernel_rfl) (by kernel_rfl) (fun _ _ _ h => h) (Or.inl ⟨by rfl, ?_⟩) (by assumption) ?_
  rotate_left
  · intro w hSw
    (try dsimp only at hSw)
    go_simp
    (try with_reducible rfl)
  (try simp only [Act.put, List.setIfInBounds_toArray, List.set_cons_zero, List.set_cons_succ])
  refine wpAnyH_take (i := 6) (v := ?_) rfl (by kernel_rfl) (by kernel_rfl) (by kernel_rfl) (fun _ _ _ h => h) (Or.inl ⟨by rfl, ?_⟩) (by assumption) ?_
  rotate_left
  · intro w hSw
    (try dsimp only at hSw)
    go_simp
    (try with_reducible rfl)
  (try simp only [Act.put, List.setIfInBounds_toArray, List.set_cons_zero, List.set_cons_succ])
  refine wpAnyH_take (i := 7) (v := ?_) rfl (by kernel_rfl) (by kernel_rfl) (by kernel_rfl) (fun _ _ _ h => h) (Or.inl ⟨by rfl, ?_⟩) (by assumption) ?_
  rotate_left
  · intro w hSw
    (try dsimp only at hSw)
    go_simp
    (try with_reducible rfl)
  (try simp only [Act.put, List.setIfInBounds_toArray, List.set_cons_zero, List.set_cons_succ])
  refine wpAnyH_take (i := 8) (v := ?_) rfl (by kernel_rfl) (by kernel_rfl) (by kernel_rfl) (fun _ _ _ h => h) (Or.inl ⟨by rfl, ?_⟩) (by assumption) ?_
  rotate_left
  · intro w hSw
    (try dsimp only at hSw)
    go_simp
    (try with_reducible rfl)
  (try simp only [Act.put, List.setIfInBounds_toArray, List.set_cons_zero, List.set_cons_succ])
  refine wpAnyH_take (i := 9) (v := ?_) rfl (by kernel_rfl) (by kernel_rfl) (by kernel_rfl) (fun _ _ _ h => h) (Or.inl ⟨by rfl, ?_⟩) (by assumption) ?_
  rotate_left
  · intro w hSw
    (try dsimp only at hSw)
    go_simp
    (try with_reducible rfl)
  (try simp only [Act.put, List.setIfInBounds_toArray, List.set_cons_zero, List.set_cons_succ])
  refine wpAnyH_take (i := 10) (v := ?_) rfl (by kernel_rfl) (by kernel_rfl) (by kernel_rfl) (fun _ _ _ h => h) (Or.inl ⟨by rfl, ?_⟩) (by assumption) ?_
  rotate_left
  · intro w hSw
    (try dsimp only at hSw)
    go_simp
    (try with_reducible rfl)
  (try simp only [Act.put, List.setIfInBounds_toArray, List.set_cons_zero, List.set_cons_succ])
  refine wpAnyH_take (i := 14) (v := ?_) rfl (by kernel_rfl) (by kernel_rfl) (by kernel_rfl) (fun _ _ _ h => h) (Or.inl ⟨by rfl, ?_⟩) (by assumption) ?_
  rotate_left
  · intro w hSw
    (try dsimp only at hSw)
    go_simp
    (try with_reducible rfl)
  (try simp only [Act.put, List.setIfInBounds_toArray, List.set_cons_zero, List.set_cons_succ])
  refine wpAnyH_ready (rs := [5, 15]) (by kernel_rfl) (by simp) ?_
  refine AllReadyH.cons rfl (fun K hK => ?_) ?_
  rotate_left
  refine AllReadyH.cons rfl (fun K hK => ?_) ?_
  rotate_left
  exact AllReadyH.nil
  · go_simp
    go_at_call 59
    refine (HSD.out _).mono ?_
    rintro e w' ⟨rfl, rfl⟩
    (try go_wp2_with fail)
    refine hK.out _ _ ?_ (fun hHeld => ?_)
    · (try dsimp only)
      first | (with_reducible assumption) | (with_reducible exact HFB.out) | (with_reducible exact HA.out _ (((Below.refl _ _).alloc (Nat.le_refl _) _).drew)) | (with_reducible exact HA.out _ ((Below.refl _ _).drew)) | (with_reducible exact HA.out _ (Below.refl _ _))
    clear hK K
    (try simp only [Act.put, List.setIfInBounds_toArray, List.set_cons_zero, List.set_cons_succ])
    refine wpAnyH_ready (rs := [11, 15]) (by kernel_rfl) (by simp) ?_
    refine AllReadyH.cons rfl (fun K hK => ?_) ?_
    rotate_left
    refine AllReadyH.cons rfl (fun K hK => ?_) ?_
    rotate_left
    exact AllReadyH.nil
    · go_simp
      go_at_call 59
      refine (HSD.out _).mono ?_
      rintro e w' ⟨rfl, rfl⟩
      (try go_wp2_with fail)
      refine hK.out _ _ ?_ (fun hHeld => ?_)
      · (try dsimp only)
        first | (with_reducible assumption) | (with_reducible exact HFB.out) | (with_reducible exact HA.out _ (((Below.refl _ _).alloc (Nat.le_refl _) _).drew)) | (with_reducible exact HA.out _ ((Below.refl _ _).drew)) | (with_reducible exact HA.out _ (Below.refl _ _))
      clear hK K
      (try simp only [Act.put, List.setIfInBounds_toArray, List.set_cons_zero, List.set_cons_succ])
      refine wpAnyH_take (i := 12) (v := ?_) rfl (by kernel_rfl) (by kernel_rfl) (by kernel_rfl) (fun _ _ _ h => h) (Or.inl ⟨by rfl, ?_⟩) (by assumption) ?_
      rotate_left
      · intro w hSw
        (try dsimp only at hSw)
        go_simp
        (try with_reducible rfl)
      (try simp only [Act.put, List.setIfInBounds_toArray, List.set_cons_zero, List.set_cons_succ])
      refine wpAnyH_ready (rs := [13, 15]) (by kernel_rfl) (by simp) ?_
      refine AllReadyH.cons rfl (fun K hK => ?_) ?_
      rotate_left
      refine AllReadyH.cons rfl (fun K hK => ?_) ?_
      rotate_left
      exact AllReadyH.nil
      · go_simp
        refine hK.out _ _ ?_ (fun hHeld => ?_)
        · (try dsimp only)
          first | (with_reducible assumption) | (with_reducible exact HFB.out) | (with_reducible exact HA.out _ (((Below.refl _ _).alloc (Nat.le_refl _) _).drew)) | (with_reducible exact HA.out _ ((Below.refl _ _).drew)) | (with_reducible exact HA.out _ (Below.refl _ _))
        clear hK K
        (try simp only [Act.put, List.setIfInBounds_toArray, List.set_cons_zero, List.set_cons_succ])
        refine wpAnyH_ready (rs := [15]) (by kernel_rfl) (by simp) ?_
        refine AllReadyH.cons rfl (fun K hK => ?_) ?_
        rotate_left
        exact AllReadyH.nil
        · go_simp
          refine hK.out _ _ ?_ (fun hHeld => ?_)
          · (try dsimp only)
            first | (with_reducible assumption) | (with_reducible exact HFB.out) | (with_reducible exact HA.out _ (((Below.refl _ _).alloc (Nat.le_refl _) _).drew)) | (with_reducible exact HA.out _ ((Below.refl _ _).drew)) | (with_reducible exact HA.out _ (Below.refl _ _))
          clear hK K
          (try simp only [Act.put, List.setIfInBounds_toArray, List.set_cons_zero, List.set_cons_succ])
          refine wpAnyH_ready (rs := [16]) (by kernel_rfl) (by simp) ?_
          refine AllReadyH.cons rfl (fun K hK => ?_) ?_
          rotate_left
          exact AllReadyH.nil
          · refine step_app rfl (.tmp 76) (.tmp 78) rfl (.slice wa wn wc) xs [.int .i64 m] rfl RR.out ⟨_, 0, none⟩ 1 1 rfl rfl (fun j u hj => one_at ((Row.one w 3 (.int .i64 m))) hj) (by simp [Value.oneCell']) RL.out ?_
            intro v3 w3 R1 G1
            obtain ⟨a1, l1, n1, rfl, cw3, cu3, fu3, HS9, HFB⟩ := PK.out v3 w3 R1 G1
            clear R1 G1
            refine hK.out _ _ ?_ (fun hHeld => ?_)
            · (try dsimp only)
              first | (with_reducible assumption) | (with_reducible exact HFB.out) | (with_reducible exact HA.out _ (((Below.refl _ _).alloc (Nat.le_refl _) _).drew)) | (with_reducible exact HA.out _ ((Below.refl _ _).drew)) | (with_reducible exact HA.out _ (Below.refl _ _))
            clear hK K
            (try simp only [Act.put, List.setIfInBounds_toArray, List.set_cons_zero, List.set_cons_succ])
            refine wpAnyH_take (i := 17) (v := ?_) rfl (by kernel_rfl) (by kernel_rfl) (by kernel_rfl) (fun _ _ _ h => h) (Or.inl ⟨by rfl, ?_⟩) (by assumption) ?_
            rotate_left
            · intro w hSw
              (try dsimp only at hSw)
              go_simp
              (try with_reducible rfl)
            (try simp only [Act.put, List.setIfInBounds_toArray, List.set_cons_zero, List.set_cons_succ])
            refine wpAnyH_ready (rs := [18]) (by kernel_rfl) (by simp) ?_
            refine AllReadyH.cons rfl (fun K hK => ?_) ?_
            rotate_left
            exact AllReadyH.nil
            · go_simp
              refine hK.out _ _ ?_ (fun hHeld => ?_)
              · (try dsimp only)
                first | (with_reducible assumption) | (with_reducible exact HFB.out) | (with_reducible exact HA.out _ (((Below.refl _ _).alloc (Nat.le_refl _) _).drew)) | (with_reducible exact HA.out _ ((Below.refl _ _).drew)) | (with_reducible exact HA.out _ (Below.refl _ _))
              clear hK K
              (try simp only [Act.put, List.setIfInBounds_toArray, List.set_cons_zero, List.set_cons_succ])
              refine wpAnyH_done (by kernel_rfl) ?_ _
              refine NoPanic.normal ?_
              exact hQ _ _ _ _ _ _ _ _ _ _ _ _ _ _ _ _ _ _ _ HS9
      · go_simp
        refine hK.out _ _ ?_ (fun hHeld => ?_)
        · (try dsimp only)
          first | (with_reducible assumption) | (with_reducible exact HFB.out) | (with_reducible exact HA.out _ (((Below.refl _ _).alloc (Nat.le_refl _) _).drew)) | (with_reducible exact HA.out _ ((Below.refl _ _).drew)) | (with_reducible exact HA.out _ (Below.refl _ _))
        clear hK K
        (try simp only [Act.put, List.setIfInBounds_toArray, List.set_cons_zero, List.set_cons_succ])
        refine wpAnyH_ready (rs := [13]) (by kernel_rfl) (by simp) ?_
        refine AllReadyH.cons rfl (fun K hK => ?_) ?_
        rotate_left
        exact AllReadyH.nil
        · go_simp
          refine hK.out _ _ ?_ (fun hHeld => ?_)
          · (try dsimp only)
            first | (with_reducible assumption) | (with_reducible exact HFB.out) | (with_reducible exact HA.out _ (((Below.refl _ _).alloc (Nat.le_refl _) _).drew)) | (with_reducible exact HA.out _ ((Below.refl _ _).drew)) | (with_reducible exact HA.out _ (Below.refl _ _))
          clear hK K
          (try simp only [Act.put, List.setIfInBounds_toArray, List.set_cons_zero, List.set_cons_succ])
          refine wpAnyH_ready (rs := [16]) (by kernel_rfl) (by simp) ?_
          refine AllReadyH.cons rfl (fun K hK => ?_) ?_
          rotate_left
          exact AllReadyH.nil
          · refine step_app rfl (.tmp 76) (.tmp 78) rfl (.slice wa wn wc) xs [.int .i64 m] rfl RR.out ⟨_, 0, none⟩ 1 1 rfl rfl (fun j u hj => one_at ((Row.one w 3 (.int .i64 m))) hj) (by simp [Value.oneCell']) RL.out ?_
            intro v3 w3 R1 G1
            obtain ⟨a1, l1, n1, rfl, cw3, cu3, fu3, HS9, HFB⟩ := PK.out v3 w3 R1 G1
            clear R1 G1
            refine hK.out _ _ ?_ (fun hHeld => ?_)
            · (try dsimp only)
              first | (with_reducible assumption) | (with_reducible exact HFB.out) | (with_reducible exact HA.out _ (((Below.refl _ _).alloc (Nat.le_refl _) _).drew)) | (with_reducible exact HA.out _ ((Below.refl _ _).drew)) | (with_reducible exact HA.out _ (Below.refl _ _))
            clear hK K
            (try simp only [Act.put, List.setIfInBounds_toArray, List.set_cons_zero, List.set_cons_succ])
            refine wpAnyH_take (i := 17) (v := ?_) rfl (by kernel_rfl) (by kernel_rfl) (by kernel_rfl) (fun _ _ _ h => h) (Or.inl ⟨by rfl, ?_⟩) (by assumption) ?_
            rotate_left
            · intro w hSw
              (try dsimp only at hSw)
              go_simp
              (try with_reducible rfl)
            (try simp only [Act.put, List.setIfInBounds_toArray, List.set_cons_zero, List.set_cons_succ])
            refine wpAnyH_ready (rs := [18]) (by kernel_rfl) (by simp) ?_
            refine AllReadyH.cons rfl (fun K hK => ?_) ?_
            rotate_left
            exact AllReadyH.nil
            · go_simp
              refine hK.out _ _ ?_ (fun hHeld => ?_)
              · (try dsimp only)
                first | (with_reducible assumption) | (with_reducible exact HFB.out) | (with_reducible exact HA.out _ (((Below.refl _ _).alloc (Nat.le_refl _) _).drew)) | (with_reducible exact HA.out _ ((Below.refl _ _).drew)) | (with_reducible exact HA.out _ (Below.refl _ _))
              clear hK K
              (try simp only [Act.put, List.setIfInBounds_toArray, List.set_cons_zero, List.set_cons_succ])
              refine wpAnyH_done (by kernel_rfl) ?_ _
              refine NoPanic.normal ?_
              exact hQ _ _ _ _ _ _ _ _ _ _ _ _ _ _ _ _ _ _ _ HS9
    · go_simp
      refine hK.out _ _ ?_ (fun hHeld => ?_)
      · (try dsimp only)
        first | (with_reducible assumption) | (with_reducible exact HFB.out) | (with_reducible exact HA.out _ (((Below.refl _ _).alloc (Nat.le_refl _) _).drew)) | (with_reducible exact HA.out _ ((Below.refl _ _).drew)) | (with_reducible exact HA.out _ (Below.refl _ _))
      clear hK K
      (try simp only [Act.put, List.setIfInBounds_toArray, List.set_cons_zero, List.set_cons_succ])
      refine wpAnyH_ready (rs := [11]) (by kernel_rfl) (by simp) ?_
      refine AllReadyH.cons rfl (fun K hK => ?_) ?_
      rotate_left
      exact AllReadyH.nil
      · go_simp
        go_at_call 59
        refine (HSD.out _).mono ?_
        rintro e w' ⟨rfl, rfl⟩
        (try go_wp2_with fail)
        refine hK.out _ _ ?_ (fun hHeld => ?_)
        · (try dsimp only)
          first | (with_reducible assumption) | (with_reducible exact HFB.out) | (with_reducible exact HA.out _ (((Below.refl _ _).alloc (Nat.le_refl _) _).drew)) | (with_reducible exact HA.out _ ((Below.refl _ _).drew)) | (with_reducible exact HA.out _ (Below.refl _ _))
        clear hK K
        (try simp only [Act.put, List.setIfInBounds_toArray, List.set_cons_zero, List.set_cons_succ])
        refine wpAnyH_take (i := 12) (v := ?_) rfl (by kernel_rfl) (by kernel_rfl) (by kernel_rfl) (fun _ _ _ h => h) (Or.inl ⟨by rfl, ?_⟩) (by assumption) ?_
        rotate_left
        · intro w hSw
          (try dsimp only at hSw)
          go_simp
          (try with_reducible rfl)
        (try simp only [Act.put, List.setIfInBounds_toArray, List.set_cons_zero, List.set_cons_succ])
        refine wpAnyH_ready (rs := [13]) (by kernel_rfl) (by simp) ?_
        refine AllReadyH.cons rfl (fun K hK => ?_) ?_
        rotate_left
        exact AllReadyH.nil
        · go_simp
          refine hK.out _ _ ?_ (fun hHeld => ?_)
          · (try dsimp only)
            first | (with_reducible assumption) | (with_reducible exact HFB.out) | (with_reducible exact HA.out _ (((Below.refl _ _).alloc (Nat.le_refl _) _).drew)) | (with_reducible exact HA.out _ ((Below.refl _ _).drew)) | (with_reducible exact HA.out _ (Below.refl _ _))
          clear hK K
          (try simp only [Act.put, List.setIfInBounds_toArray, List.set_cons_zero, List.set_cons_succ])
          refine wpAnyH_ready (rs := [16]) (by kernel_rfl) (by simp) ?_
          refine AllReadyH.cons rfl (fun K hK => ?_) ?_
          rotate_left
          exact AllReadyH.nil
          · refine step_app rfl (.tmp 76) (.tmp 78) rfl (.slice wa wn wc) xs [.int .i64 m] rfl RR.out ⟨_, 0, none⟩ 1 1 rfl rfl (fun j u hj => one_at ((Row.one w 3 (.int .i64 m))) hj) (by simp [Value.oneCell']) RL.out ?_
            intro v3 w3 R1 G1
            obtain ⟨a1, l1, n1, rfl, cw3, cu3, fu3, HS9, HFB⟩ := PK.out v3 w3 R1 G1
            clear R1 G1
            refine hK.out _ _ ?_ (fun hHeld => ?_)
            · (try dsimp only)
              first | (with_reducible assumption) | (with_reducible exact HFB.out) | (with_reducible exact HA.out _ (((Below.refl _ _).alloc (Nat.le_refl _) _).drew)) | (with_reducible exact HA.out _ ((Below.refl _ _).drew)) | (with_reducible exact HA.out _ (Below.refl _ _))
            clear hK K
            (try simp only [Act.put, List.setIfInBounds_toArray, List.set_cons_zero, List.set_cons_succ])
            refine wpAnyH_take (i := 17) (v := ?_) rfl (by kernel_rfl) (by kernel_rfl) (by kernel_rfl) (fun _ _ _ h => h) (Or.inl ⟨by rfl, ?_⟩) (by assumption) ?_
            rotate_left
            · intro w hSw
              (try dsimp only at hSw)
              go_simp
              (try with_reducible rfl)
            (try simp only [Act.put, List.setIfInBounds_toArray, List.set_cons_zero, List.set_cons_succ])
            refine wpAnyH_ready (rs := [18]) (by kernel_rfl) (by simp) ?_
            refine AllReadyH.cons rfl (fun K hK => ?_) ?_
            rotate_left
            exact AllReadyH.nil
            · go_simp
              refine hK.out _ _ ?_ (fun hHeld => ?_)
              · (try dsimp only)
                first | (with_reducible assumption) | (with_reducible exact HFB.out) | (with_reducible exact HA.out _ (((Below.refl _ _).alloc (Nat.le_refl _) _).drew)) | (with_reducible exact HA.out _ ((Below.refl _ _).drew)) | (with_reducible exact HA.out _ (Below.refl _ _))
              clear hK K
              (try simp only [Act.put, List.setIfInBounds_toArray, List.set_cons_zero, List.set_cons_succ])
              refine wpAnyH_done (by kernel_rfl) ?_ _
              refine NoPanic.normal ?_
              exact hQ _ _ _ _ _ _ _ _ _ _ _ _ _ _ _ _ _ _ _ HS9
  · go_simp
    refine hK.out _ _ ?_ (fun hHeld => ?_)
    · (try dsimp only)
      first | (with_reducible assumption) | (with_reducible exact HFB.out) | (with_reducible exact HA.out _ (((Below.refl _ _).alloc (Nat.le_refl _) _).drew)) | (with_reducible exact HA.out _ ((Below.refl _ _).drew)) | (with_reducible exact HA.out _ (Below.refl _ _))
    clear hK K
    (try simp only [Act.put, List.setIfInBounds_toArray, List.set_cons_zero, List.set_cons_succ])
    refine wpAnyH_ready (rs := [5]) (by kernel_rfl) (by simp) ?_
    refine AllReadyH.cons rfl (fun K hK => ?_) ?_
    rotate_left
    exact AllReadyH.nil
    · go_simp
      go_at_call 59
      refine (HSD.out _).mono ?_
      rintro e w' ⟨rfl, rfl⟩
      (try go_wp2_with fail)
      refine hK.out _ _ ?_ (fun hHeld => ?_)
      · (try dsimp only)
        first | (with_reducible assumption) | (with_reducible exact HFB.out) | (with_reducible exact HA.out _ (((Below.refl _ _).alloc (Nat.le_refl _) _).drew)) | (with_reducible exact HA.out _ ((Below.refl _ _).drew)) | (with_reducible exact HA.out _ (Below.refl _ _))
      clear hK K
      (try simp only [Act.put, List.setIfInBounds_toArray, List.set_cons_zero, List.set_cons_succ])
      refine wpAnyH_ready (rs := [11]) (by kernel_rfl) (by simp) ?_
      refine AllReadyH.cons rfl (fun K hK => ?_) ?_
      rotate_left
      exact AllReadyH.nil
      · go_simp
        go_at_call 59
        refine (HSD.out _).mono ?_
        rintro e w' ⟨rfl, rfl⟩
        (try go_wp2_with fail)
        refine hK.out _ _ ?_ (fun hHeld => ?_)
        · (try dsimp only)
          first | (with_reducible assumption) | (with_reducible exact HFB.out) | (with_reducible exact HA.out _ (((Below.refl _ _).alloc (Nat.le_refl _) _).drew)) | (with_reducible exact HA.out _ ((Below.refl _ _).drew)) | (with_reducible exact HA.out _ (Below.refl _ _))
        clear hK K
        (try simp only [Act.put, List.setIfInBounds_toArray, List.set_cons_zero, List.set_cons_succ])
        refine wpAnyH_take (i := 12) (v := ?_) rfl (by kernel_rfl) (by kernel_rfl) (by kernel_rfl) (fun _ _ _ h => h) (Or.inl ⟨by rfl, ?_⟩) (by assumption) ?_
        rotate_left
        · intro w hSw
          (try dsimp only at hSw)
          go_simp
          (try with_reducible rfl)
        (try simp only [Act.put, List.setIfInBounds_toArray, List.set_cons_zero, List.set_cons_succ])
        refine wpAnyH_ready (rs := [13]) (by kernel_rfl) (by simp) ?_
        refine AllReadyH.cons rfl (fun K hK => ?_) ?_
        rotate_left
        exact AllReadyH.nil
        · go_simp
          refine hK.out _ _ ?_ (fun hHeld => ?_)
          · (try dsimp only)
            first | (with_reducible assumption) | (with_reducible exact HFB.out) | (with_reducible exact HA.out _ (((Below.refl _ _).alloc (Nat.le_refl _) _).drew)) | (with_reducible exact HA.out _ ((Below.refl _ _).drew)) | (with_reducible exact HA.out _ (Below.refl _ _))
          clear hK K
          (try simp only [Act.put, List.setIfInBounds_toArray, List.set_cons_zero, List.set_cons_succ])
          refine wpAnyH_ready (rs := [16]) (by kernel_rfl) (by simp) ?_
          refine AllReadyH.cons rfl (fun K hK => ?_) ?_
          rotate_left
          exact AllReadyH.nil
          · refine step_app rfl (.tmp 76) (.tmp 78) rfl (.slice wa wn wc) xs [.int .i64 m] rfl RR.out ⟨_, 0, none⟩ 1 1 rfl rfl (fun j u hj => one_at ((Row.one w 3 (.int .i64 m))) hj) (by simp [Value.oneCell']) RL.out ?_
            intro v3 w3 R1 G1
            obtain ⟨a1, l1, n1, rfl, cw3, cu3, fu3, HS9, HFB⟩ := PK.out v3 w3 R1 G1
            clear R1 G1
            refine hK.out _ _ ?_ (fun hHeld => ?_)
            · (try dsimp only)
              first | (with_reducible assumption) | (with_reducible exact HFB.out) | (with_reducible exact HA.out _ (((Below.refl _ _).alloc (Nat.le_refl _) _).drew)) | (with_reducible exact HA.out _ ((Below.refl _ _).drew)) | (with_reducible exact HA.out _ (Below.refl _ _))
            clear hK K
            (try simp only [Act.put, List.setIfInBounds_toArray, List.set_cons_zero, List.set_cons_succ])
            refine wpAnyH_take (i := 17) (v := ?_) rfl (by kernel_rfl) (by kernel_rfl) (by kernel_rfl) (fun _ _ _ h => h) (Or.inl ⟨by rfl, ?_⟩) (by assumption) ?_
            rotate_left
            · intro w hSw
              (try dsimp only at hSw)
              go_simp
              (try with_reducible rfl)
            (try simp only [Act.put, List.setIfInBounds_toArray, List.set_cons_zero, List.set_cons_succ])
            refine wpAnyH_ready (rs := [18]) (by kernel_rfl) (by simp) ?_
            refine AllReadyH.cons rfl (fun K hK => ?_) ?_
            rotate_left
            exact AllReadyH.nil
            · go_simp
              refine hK.out _ _ ?_ (fun hHeld => ?_)
              · (try dsimp only)
                first | (with_reducible assumption) | (with_reducible exact HFB.out) | (with_reducible exact HA.out _ (((Below.refl _ _).alloc (Nat.le_refl _) _).drew)) | (with_reducible exact HA.out _ ((Below.refl _ _).drew)) | (with_reducible exact HA.out _ (Below.refl _ _))
              clear hK K
              (try simp only [Act.put, List.setIfInBounds_toArray, List.set_cons_zero, List.set_cons_succ])
              refine wpAnyH_done (by kernel_rfl) ?_ _
              refine NoPanic.normal ?_
              exact hQ _ _ _ _ _ _ _ _ _ _ _ _ _ _ _ _ _ _ _ HS9
set_option maxRecDepth 100000 in
set_option maxHeartbeats 4000000 in
theorem put_any {T : Tr} {w : World} {B : Nat → Prop} {b : Nat} (h : TrailAt w B b T) {s : Value} {c : List Int} (hr : Reads w s c) (hcl : c.length ≤ 20000) (hL : T.L.length ≤ 900000) (hS : T.short.length ≤ 900000) (hSW : ∀ x ∈ c, sideN x < T.W.length) (hZB : ∀ x ∈ c, x ≠ 0 ∧ -20000 ≤ x ∧ x ≤ 20000) (hWL : ∀ j, (T.W.getD j []).length ≤ 800000) :
    Calls Try.prog 34 #[.pointer (some ⟨b, 0, none⟩), s] w fun e w' => e = .returned (.tuple #[]) ∧ Keep B w w' ∧ TrailAt w' B b (putT T c) := by
  obtain ⟨val, ct, hm, ht⟩ := h
  have HC := Lib.hid (Clone_any hr (by omega))
  have HSW := Lib.hid hSW
  have HZB := Lib.hid hZB
  have HWL := Lib.hid hWL
  clear hSW hZB hWL
  obtain ⟨ca, cc, ec⟩ : ∃ a c', val .cl = .slice a T.L.length c' := by
    obtain ⟨a, c', e, _, _⟩ := (hm.row .cl).form
    rw [ht.cl, List.length_map, List.length_range] at e
    exact ⟨a, c', e⟩
  obtain ⟨m, hm'⟩ : ∃ m, T.L.length = m := ⟨_, rfl⟩
  rw [hm'] at ec hL
  have HMM := Lib.hid hm'
  have c0 : w.cell? ⟨b, 0, none⟩ = some (val .cl) := hm.bcell 0
  have HM := Lib.hid hm
  have HT := Lib.hid ht
  have HCL := Lib.hid hcl
  rw [ec] at c0
  have HEC := Lib.hid ec
  clear hm ht ec hr hm' hcl
  go_enter Try.func34, Try.ntmps34
  go_wp2_with (go_at_call 35; refine HC.out.mono ?_; rintro e w1 ⟨v, rfl, r1, f1, b1⟩; obtain ⟨oa, oc, hv, _, _⟩ := r1.form; rw [ints_len] at hv; obtain ⟨ql, hql⟩ : ∃ ql, c.length = ql := ⟨_, rfl⟩; rw [hql] at hv; subst hv; have HQL := Lib.hid hql; clear hql; have R1 := Lib.hid r1; have F1 := Lib.hid f1; have B1 := Lib.hid b1; clear r1 f1 b1)
  have M1 := (HM.out.fresh (.C m) B1.out R1.out F1.out).guard (.cells #[.slice oa ql oc] 23)
  have KB : Hid (Keep B w (w1.alloc (.cells #[.slice oa ql oc] 23))) := Lib.hid ((Keep.refl B w).below (B1.out.alloc B1.out.size _) HM.out.lt)
  have cp : (w1.alloc (.cells #[.slice oa ql oc] 23)).cell? ⟨w1.heap.size, 0, none⟩ = some (.slice oa ql oc) := cell_of_one (heap_alloc_new _ _)
  have lp : w1.heap.size < (w1.alloc (.cells #[.slice oa ql oc] 23)).heap.size := by simp
  generalize w1.heap.size = p at *
  generalize w1.alloc (.cells #[.slice oa ql oc] 23) = W at *
  have cb : W.cell? ⟨b, 0, none⟩ = some (val .cl) := M1.bcell 0
  rw [HEC.out] at cb
  have cx : W.cell? ⟨b, 5, none⟩ = some (.int .i64 T.nx) := M1.bcell 5
  have hbW : b < W.heap.size := lt_of_block M1.box
  have fb0 := M1.bfr 0
  have fb5 := M1.bfr 5
  have RX := Lib.hid (Row.one W 23 (.slice oa ql oc))
  have R0 := (M1.drew.alloc (.cells #[.slice oa ql oc] 23)).row .cl
  rw [show upS val (.C m) (.slice oa ql oc) .cl = .slice ca m cc from HEC.out] at R0
  have RR := Lib.hid R0
  have MM := Lib.hid M1
  clear R0 M1 c0 HC F1 R1 B1
  generalize T.nx = nx0 at *
  go_cut [] (fun wx => Hid (∃ v1, Mem wx (fun k => B k ∨ k = p) b (boxOf (upS (upS val (.C m) (.slice oa ql oc)) .cl v1) 0) (upS (upS val (.C m) (.slice oa ql oc)) .cl v1) (upS (upS ct (.C m) (ints c)) .cl (ct .cl ++ [.slice oa ql oc]))) ∧ Hid (Keep (fun k => B k ∨ k = p) W wx))
  case first =>
    go_region_law (refine step_apps rfl (.tmp 21) (.tmp 23) rfl (.slice ca m cc) (upS ct (.C m) (ints c) .cl) [.slice oa ql oc] rfl RR.out ⟨W.heap.size, 0, none⟩ 1 1 rfl rfl (fun j u hj => one_at (RX.out) hj) (by simp [Value.oneCell']) (by rw [upS_other _ _ (by simp), HT.out.cl, List.length_map, List.length_range, HMM.out]; omega) ?_; intro v1 w2 Q1 G1; obtain ⟨a1, n1, hv1, _, _⟩ := Q1.form; obtain ⟨l1, hl1⟩ : ∃ l1, (upS ct (.C m) (ints c) .cl ++ [Value.slice oa ql oc]).length = l1 := ⟨_, rfl⟩; rw [hl1] at hv1; subst hv1; clear hl1; have M3 := (MM.out.drew.alloc _).grew .cl (by rw [show upS val (.C m) (.slice oa ql oc) .cl = .slice ca m cc from HEC.out]; exact G1) Q1; have c4' : w2.cell? ⟨b, 0, none⟩ = some (val .cl) := M3.bcell 0; have c5' : w2.cell? ⟨b, 5, none⟩ = some (.int .i64 nx0) := M3.bcell 5; have f4' := M3.bfr 0; have f5' := M3.bfr 5; have HM3 := Lib.hid M3; have K3 : Hid (Keep (fun k => B k ∨ k = p) W w2) := Lib.hid (((Keep.refl _ W).drew.alloc MM.out.lt _).grown G1.1 (MM.out.drew.alloc _).lt (fun k hk => MM.out.nB .cl k (by rw [show upS val (.C m) (.slice oa ql oc) .cl = .slice ca m cc from HEC.out]; exact hk))); clear Q1 G1 M3)
    all_goals
      go_wp2_with fail
      go_meet
      exact ⟨Lib.hid ⟨.slice a1 l1 n1, by
        have := (HM3.out.setBox 0 (.slice a1 l1 n1)).setBox 5 (.int .i64 0)
        rw [boxOf_cl] at this
        exact this⟩, Lib.hid ((K3.out.setCell HM3.out.base _).setCell HM3.out.base _)⟩
  case rest =>
    obtain ⟨h1, h2⟩ := hcut
    obtain ⟨v1, M2⟩ := h1.out
    have T2 := tie_putL HT.out c (.slice oa ql oc) v1
    rw [HMM.out] at T2
    have cp2 : wc.cell? ⟨p, 0, none⟩ = some (.slice oa ql oc) := (h2.out.cell (p := ⟨p, 0, none⟩) (.inr rfl)).trans cp
    have K2 : Hid (Keep B w wc) := Lib.hid (KB.out.trans (h2.out.mono fun k hk => .inl hk))
    have e2 : upS (upS val (.C m) (.slice oa ql oc)) .cl v1 (.C m) = .slice oa ql oc := by rw [upS_other _ _ (by simp), upS_same]
    have ec2 : upS (upS ct (.C m) (ints c)) .cl (ct .cl ++ [.slice oa ql oc]) (.C m) = ints c := by rw [upS_other _ _ (by simp), upS_same]
    generalize upS (upS val (.C m) (.slice oa ql oc)) .cl v1 = val2 at *
    generalize upS (upS ct (.C m) (ints c)) .cl (ct .cl ++ [.slice oa ql oc]) = ct2 at *
    have R2 := M2.row (.C m)
    rw [e2, ec2] at R2
    have HU := Lib.hid (index_unlike R2 (by have := HCL.out; omega) cp2)
    have HM2 := Lib.hid M2
    have HT2 := Lib.hid T2
    have HE2 := Lib.hid e2
    have HEC2 := Lib.hid ec2
    have HR2 := Lib.hid R2
    clear h1 h2 M2 T2 e2 ec2 R2 MM RR RX cb cx fb0 fb5 cp lp KB HM HT HEC hbW
    generalize wc = W2 at *
    cases hu : unlike c with
    | none =>
      have HU2 : Hid (Calls Try.prog 57 #[.slice oa ql oc, .func (.func 58) #[] #[.pointer (some ⟨p, 0, none⟩)]] W2 fun e w' => e = .returned (.int .i64 (-1)) ∧ w' = W2) := Lib.hid (HU.out.mono fun e w' h => by
        obtain ⟨⟨r, e1, h1⟩, e2⟩ := h
        rw [hu] at h1
        rcases h1 with ⟨_, e3⟩ | ⟨i, e3, _⟩
        · rw [e1, e3]; exact ⟨rfl, e2⟩
        · cases e3)
      have hput : putT T c = { putL T c with short := T.short ++ [((T.L.length : Nat) : Int)] } := by unfold putT; rw [hu]
      have HPUT := Lib.hid hput
      obtain ⟨sa, sc, es, _, _⟩ := (HM2.out.row .sh).form
      rw [HT2.out.sh, ints_len] at es
      have hsl0 : (putL T c).short.length ≤ 900000 := hS
      obtain ⟨sl, hsl⟩ : ∃ sl, (putL T c).short.length = sl := ⟨_, rfl⟩
      rw [hsl] at es hsl0
      have c6 : W2.cell? ⟨b, 6, none⟩ = some (val2 .sh) := HM2.out.bcell 6
      rw [es] at c6
      have R0 := (HM2.out.alloc (.cells #[.int .i64 m] 3)).row .sh
      rw [es, HT2.out.sh] at R0
      have RR := Lib.hid R0
      have RX := Lib.hid (Row.one W2 3 (.int .i64 m))
      have HES := Lib.hid es
      have HSL := Lib.hid hsl
      clear R0 es hsl hu hput HU
      go_wp2_with (first
        | (go_at_call 57; refine HU2.out.mono ?_; rintro e w' ⟨rfl, rfl⟩)
        | (at_builtin; refine wpList_app rfl (.tmp 38) (.tmp 40) rfl (.slice sa sl sc) (ints (putL T c).short) [.int .i64 m] rfl RR.out ⟨_, 0, none⟩ 1 1 rfl rfl (fun j u hj => one_at (RX.out) hj) (by simp [Value.oneCell']) (by rw [ints_len, HSL.out]; omega) ?_; intro v3 w3 R1 G1 _; obtain ⟨a1, n1, hv1, _, _⟩ := R1.form; obtain ⟨l1, hl1⟩ : ∃ l1, (ints (putL T c).short ++ [Value.int .i64 m]).length = l1 := ⟨_, rfl⟩; rw [hl1] at hv1; subst hv1; clear hl1; have M3 := (HM2.out.alloc _).grew .sh (by rw [HES.out]; exact G1) R1; have c6' : w3.cell? ⟨b, 6, none⟩ = some (val2 .sh) := M3.bcell 6; have f6' := M3.bfr 6; have HM3 := Lib.hid M3; have K3 : Hid (Keep B w w3) := Lib.hid ((K2.out.below ((Below.refl _ _).alloc (Nat.le_refl _) _) (fun k hk => HM2.out.lt k (.inl hk))).grown G1.1 (fun k hk => (HM2.out.alloc _).lt k (.inl hk)) (fun k hk => fun hB => HM2.out.nB .sh k (by rw [HES.out]; exact hk) (.inl hB))); clear R1 G1 M3))
      (try simp only [Exit.inBlock, Exit.then])
      refine bodyPost_ret (v := .tuple #[]) (results_none rfl _ _ _) rfl ?_
      have M4 := HM3.out.setBox 6 (.slice a1 l1 n1)
      rw [boxOf_sh] at M4
      refine ⟨rfl, K3.out.setCell (fun hB => HM3.out.base (.inl hB)) _, _, _, (by rw [HPUT.out]; exact M4.less fun k hk => .inl hk), ?_⟩
      rw [HPUT.out, HMM.out]
      have T3 := HT2.out
      exact { cl := T3.cl, wa := T3.wa, fa := T3.fa, li := T3.li, st := T3.st, sh := (by rw [upS_same]; simp [ints, putL]), C := T3.C, W := T3.W }
    | some i =>
      have HU2 : Hid (Calls Try.prog 57 #[.slice oa ql oc, .func (.func 58) #[] #[.pointer (some ⟨p, 0, none⟩)]] W2 fun e w' => e = .returned (.int .i64 (i : Nat)) ∧ w' = W2) := Lib.hid (HU.out.mono fun e w' h => by
        obtain ⟨⟨r, e1, h1⟩, e2⟩ := h
        rw [hu] at h1
        rcases h1 with ⟨e3, _⟩ | ⟨j, e3, e4⟩
        · cases e3
        · injection e3 with e3; subst e3; rw [e1, e4]; exact ⟨rfl, e2⟩)
      have hput : putT T c = { putL T (swC c i) with W := push (push T.W (sideN ((swC c i).getD 0 0)) T.L.length) (sideN ((swC c i).getD 1 0)) T.L.length } := by unfold putT; rw [hu]
      have HPUT := Lib.hid hput
      obtain ⟨hi1, hi2⟩ : 1 ≤ i ∧ i < ql := unlike_some hu HQL.out
      have HUI := Lib.hid hu
      clear hput hu HU
      obtain ⟨g, c', e, _, _, hgl, hc, hfr⟩ := HR2.out.at (by rw [ints_len, HQL.out]; omega)
      injection e with e1 n1 n2
      subst e1
      clear n1 n2
      have x1 := hc 1 _ (ints_at (by rw [HQL.out]; omega))
      have x2 := hc i _ (ints_at (by rw [HQL.out]; omega))
      have f1 := hfr 1
      have f2 := hfr i
      have M3 := HM2.out.store (.C m) HE2.out 1 (.int .i64 (c.getD i 0))
      have R3 := M3.row (.C m)
      rw [HE2.out, upS_same, HEC2.out, show (ints c).set 1 (.int .i64 (c.getD i 0)) = ints (c.set 1 (c.getD i 0)) from by simp [ints]] at R3
      obtain ⟨_, _, e3, _, _, _, hc3, hfr3⟩ := R3.at (by rw [ints_len, List.length_set, HQL.out]; omega)
      injection e3 with e3 n1 n2
      injection e3 with e3
      injection e3 with e3 _ _
      subst e3
      clear n1 n2
      have y2 := hc3 i _ (ints_at (by rw [List.length_set, HQL.out]; omega))
      have g2 := hfr3 i
      have M4 := Lib.hid (M3.store (.C m) HE2.out i (.int .i64 (c.getD 1 0)))
      have gp : ¬ (B g ∨ g = p) := fun hB => HM2.out.nB (.C m) g (by rw [HE2.out]; rfl) hB
      have HGP := Lib.hid gp
      have gne : g ≠ p := fun e => gp (.inr e)
      have b1 : (1 : Int) < (ql : Int) := by omega
      have b2 : (i : Int) < (ql : Int) := by omega
      clear gp hc hfr hc3 hfr3 R3 M3
      generalize (c.set 1 (c.getD i 0)).getD i 0 = z at *
      generalize hx : c.getD 1 0 = x at *
      generalize hy : c.getD i 0 = y at *
      have HXX := Lib.hid hx
      have HYY := Lib.hid hy
      clear hx hy
      go_wp2_with (go_at_call 57; refine HU2.out.mono ?_; rintro e W2 ⟨rfl, rfl⟩)
      go_big_region
      have M5 := M4.out.drew
      have K5 : Hid (Keep (fun k => B k ∨ k = p) W2 ((W2.setCell ⟨g, 1, none⟩ (.int .i64 y)).setCell ⟨g, i, none⟩ (.int .i64 x)).drew) := Lib.hid ((((Keep.refl _ W2).setCell (p := ⟨g, 1, none⟩) HGP.out _).setCell (p := ⟨g, i, none⟩) HGP.out _).drew)
      have cp5 := (K5.out.cell (p := ⟨p, 0, none⟩) (.inr rfl)).trans cp2
      have K6 : Hid (Keep B w ((W2.setCell ⟨g, 1, none⟩ (.int .i64 y)).setCell ⟨g, i, none⟩ (.int .i64 x)).drew) := Lib.hid (K2.out.trans (K5.out.mono fun k hk => .inl hk))
      clear x1 x2 f1 f2 y2 g2 M4 K5 gne cp2
      generalize ((W2.setCell ⟨g, 1, none⟩ (.int .i64 y)).setCell ⟨g, i, none⟩ (.int .i64 x)).drew = W3 at *
      rw [upS_upS, upS_same] at M5
      have hsw : ((ct2 (.C m)).set 1 (.int .i64 y)).set i (.int .i64 x) = ints (swC c i) := by
        rw [HEC2.out, ← HXX.out, ← HYY.out]; simp [ints, swC]
      rw [hsw] at M5
      clear hsw
      have R5 := M5.row (.C m)
      rw [HE2.out, upS_same] at R5
      have hln : (swC c i).length = ql := by unfold swC; rw [List.length_set, List.length_set]; exact HQL.out
      obtain ⟨_, _, e3, hoc, _, _, hc3, _⟩ := R5.at (by rw [ints_len, hln]; omega)
      injection e3 with e3 n1 n2
      injection e3 with e3
      injection e3 with e3 _ _
      subst e3
      rw [← n2, ints_len, hln] at hoc
      clear n1 n2
      have q0 := hc3 0 _ (ints_at (by rw [hln]; omega))
      have q1 := hc3 1 _ (ints_at (by rw [hln]; omega))
      have hoc2 : 2 ≤ oc := by omega
      have HM5 := Lib.hid M5
      clear hc3 R5 M5 hln
      clear q0 q1
      have HT5 : Hid (Tie (putL T (swC c i)) val2 (upS ct2 (.C m) (ints (swC c i)))) := Lib.hid (tie_clause HMM.out HT2.out)
      have HC5 : Hid (upS ct2 (.C m) (ints (swC c i)) (.C m) = ints (swC c i)) := Lib.hid (upS_same _ _ _)
      generalize upS ct2 (.C m) (ints (swC c i)) = ct5 at *
      have HR0 : PutRel B w T c i b p m g ql oc 0 W3 := ⟨⟨val2, ct5, HM5.out, HT5.out, HE2.out, HC5.out⟩, K6.out⟩
      clear hS hL HCL HT2 HEC2 HUI HGP HXX HYY HM2 HR2 HU2 HM5 HT5 HC5 HE2 K6 K2 hgl
      go_wp2_with fail
      clear cp5
      as_aux_lemma =>
      go_loopw [8, 59] (fun _ vk wr => ∃ k : Nat, vk = .int .i64 k ∧ k ≤ 2 ∧ PutRel B w T c i b p m g ql oc k wr) (fun _ vk _ => 2 - (intOf vk).toNat)
      case atStart => exact ⟨0, rfl, by omega, HR0⟩
      case round =>
        clear HR0
        obtain ⟨k, rfl, hk, HS8⟩ := hrel
        by_cases hlt : k < 2
        · obtain ⟨z, s0, gw, cw, wl, wn, wc, wa, xs, q0, hgl, hbW, hgw, cw1, cwj, fw, hb0, hb1, RR, RL, HA, HSD, PK⟩ := put_round HS8 hlt hi1 hi2 HQL.out HSW.out HZB.out HWL.out
          clear HS8 HSW HZB HWL HQL HPUT HMM
          go_wp2_with fail
          refine put_push _ _ _ _ _ _ _ _ _ _ _ _ _ _ _ _ _ _ _ _ _ _ _ _ _ _ _ _ _ _ _ _ _ _ _ _ _ _ _ _ _ _ _ _ _ _ _ _ _ _ _ _ _ _ _ _ _ _ _ _ _ _ _ _ _ _ _ _ _ _ _ _ _ _ _ _ _ _ _ _ hbW hgw cw1 cwj fw hb0 hb1 RR RL HA HSD PK ?_
          intro v63 v64 v65 v66 v67 v68 v69 v70 v71 v72 v73 v74 v75 v76 v77 v78 v79 v80 w9 HS9
          clear q0 cw1 cwj fw RR RL HA HSD PK
          go_wp2_with fail
          go_roundw
          case rel => exact ⟨k + 1, by go_num, by omega, HS9⟩
          case measure => simp [intOf]; omega
        · obtain rfl : k = 2 := by omega
          clear HSW HZB HWL HQL
          go_wp2_with fail
          go_end0
          obtain ⟨⟨val', ct', h1, h2, _, _⟩, HK8⟩ := HS8
          refine ⟨rfl, HK8, val', ct', ?_, ?_⟩
          · rw [HPUT.out]; exact h1.less fun k hk => .inl hk
          · rw [HPUT.out, HMM.out]; exact h2
end Go.Proofs.Ytngegkgmenfelaa
