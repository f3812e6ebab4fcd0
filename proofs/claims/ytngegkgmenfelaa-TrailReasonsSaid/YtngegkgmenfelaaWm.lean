/-
  look: its walk.
-/
import Derived.Test.YtngegkgmenfelaaWkl
namespace Go.Proofs.Ytngegkgmenfelaa
open Go.RowKit Go.Lib
attribute [local go_sem ↓] Go.wp_at_zero Go.wp_at_succ

/-- 'append(s, k)' where there is room. -/
theorem wpList_app_room {w : World} {ops : Array Oper} {rest : List Oper} {o : Oper} {a : Act} {Q : Exit → Act → World → Prop} (hgd : o.guard = none) (s x : Operand)
    (ho : o.op = .call { callee := .builtin .append, args := #[s, x], argTypes := #[23, 23] }) (g n c : Nat) (hs : a.eval s = .slice (some ⟨g, 0, none⟩) n c) (k : Int) (p : Nat) (hx : a.eval x = .slice (some ⟨p, 0, none⟩) 1 1) (hn : w.cell? ⟨p, 0, none⟩ = some (.int .i64 k))
    (hroom : n + 1 ≤ c) (hc : (w.cell? ⟨g, n, none⟩).isSome = true) (hf : w.frozen? ⟨g, n, none⟩ = false)
    (hK : wpList Try.prog ops Q rest (a.put o.dst (.slice (some ⟨g, 0, none⟩) (n + 1) c)) (w.setCell ⟨g, n, none⟩ (.int .i64 k))) : wpList Try.prog ops Q (o :: rest) a w := by
  obtain ⟨i0, hi0, hz0, hz1, hz2⟩ := info_parts info3
  refine wpList_plain hgd fun K hK' => ?_
  have hc' : ∀ j, j < [Value.int .i64 k].length → (w.cell? ⟨g, 0 + n * i0.size + j, none⟩).isSome = true := fun j hj => by
    obtain rfl : j = 0 := by simp at hj; omega
    rw [hz1, Nat.mul_one, Nat.zero_add, Nat.add_zero]; exact hc
  have hf' : ∀ j, j < [Value.int .i64 k].length → w.frozen? ⟨g, 0 + n * i0.size + j, none⟩ = false := fun j hj => by
    obtain rfl : j = 0 := by simp at hj; omega
    rw [hz1, Nat.mul_one, Nat.zero_add, Nat.add_zero]; exact hf
  have hrun := run_append_room_cells (P := Try.prog) w 23 o.type 3 i0 Try.underlying23 hi0 g 0 n c ⟨p, 0, none⟩ 1 1 [.int .i64 k] (by rw [hz1]; rfl) (fun j u hu => by
    match j, hu with
    | 0, hu => simp at hu; subst hu; exact hn) (by simp [Value.oneCell']) hroom hc' hf'
  rw [hz1, Nat.mul_one, Nat.zero_add] at hrun
  unfold Oper.wp
  simp [execOp, ho, resolve, invoke, builtin, hs, hx, hrun, Result.andThen, World.setCells]
  exact hK' _ _ hK
/-- 'append(s, x...)' where there is room, as one step of a region that draws. -/
theorem step_app_room {ops : Array Oper} {o : Oper} {a : Act} {w : World} {K : Act → World → Prop} {Q : Exit → Act → World → Prop} {E : Prop} (hgd : o.guard = none) (s x : Operand)
    (ho : o.op = .call { callee := .builtin .append, args := #[s, x], argTypes := #[23, 23] }) (g n c : Nat) (hs : a.eval s = .slice (some ⟨g, 0, none⟩) n c) (ad : Addr) (m cx : Nat) (ys : List Int) (hx : a.eval x = .slice (some ad) m cx) (hm : ys.length = m) (hn : ∀ j u, (ints ys)[j]? = some u → w.cell? (ad.add j) = some u)
    (hroom : n + m ≤ c) (hc : ∀ j, j < m → (w.cell? ⟨g, n + j, none⟩).isSome = true ∧ w.frozen? ⟨g, n + j, none⟩ = false)
    (hK : K (a.put o.dst (.slice (some ⟨g, 0, none⟩) (n + m) c)) (w.setCells g n (ints ys))) : if Region.wanted o (yielded ops a.tmps) = true then Oper.wp Try.prog o a w K Q else E := by
  have hw : Region.wanted o (yielded ops a.tmps) = true := by simp [Region.wanted, hgd]
  rw [if_pos hw]
  obtain ⟨i0, hi0, hz0, hz1, hz2⟩ := info_parts info3
  have hrun := run_append_room_cells (P := Try.prog) w 23 o.type 3 i0 Try.underlying23 hi0 g 0 n c ad m cx (ints ys) (by rw [hz1, ints_len]; omega) hn (ints_one ys) hroom
    (by rw [hz1]; intro j hj; rw [ints_len, hm] at hj; simpa using (hc j hj).1) (by rw [hz1]; intro j hj; rw [ints_len, hm] at hj; simpa using (hc j hj).2)
  rw [hz1, Nat.mul_one, Nat.zero_add] at hrun
  unfold Oper.wp
  simp [execOp, ho, resolve, invoke, builtin, hs, hx, hrun, Result.andThen]
  exact hK

set_option maxRecDepth 100000 in
set_option maxHeartbeats 4000000 in
theorem look_store {w : World} {b : Nat} {x : Int} {s0 gw cw wl : Nat} {u0 : Value} {ua : Option Addr} {un uc : Nat} (u2 u3 u4 u5 u7 u8 u9 u10 u11 u12 u13 u14 u15 u16 u17 u18 u19 u20 u21 u22 u23 u24 u25 u26 u27 u28 u29 u30 u31 u32 u33 u34 u35 u36 u37 u38 u39 u40 u41 u42 u43 u44 u45 u46 u47 u48 u49 u50 u51 u52 u53 u54 u55 u56 u57 u58 u59 u60 u61 u62 u63 u64 u65 u66 u67 u68 u69 u70 u71 u72 u73 u74 u75 u76 u77 u78 u79 u80 u81 u82 u83 u84 u85 u86 u87 u88 u89 u90 u91 u92 u93 u94 u95 u96 u97 u98 u99 u100 u101 : Value) (Q : Exit → Act → World → Prop) (hbW : b < w.heap.size) (hgw : gw < w.heap.size) (cw1 : w.cell? ⟨b, 1, none⟩ = some (.slice (some ⟨gw, 0, none⟩) wl cw)) (cwj : w.cell? ⟨gw, s0, none⟩ = some u0) (fw : w.frozen? ⟨gw, s0, none⟩ = false) (hb0 : (0 : Int) ≤ (s0 : Int)) (hb1 : (s0 : Int) < (wl : Int))
    (HA : Hid (∀ w', Below w.heap.size w w' → w'.cell? ⟨b, 1, none⟩ = some (.slice (some ⟨gw, 0, none⟩) wl cw))) (HFB : Hid (((w.setCell ⟨gw, s0, none⟩ (.slice ua un uc)).drew).cell? ⟨b, 1, none⟩ = some (.slice (some ⟨gw, 0, none⟩) wl cw)))
    (HSD : Hid (∀ w, Calls Try.prog 59 #[.int .i64 x] w fun e w' => e = .returned (.int .i64 (s0 : Nat)) ∧ w' = w))
    (hQ : ∀ (v94 v95 v96 v97 v98 v99 v100 v101 : Value) (w' : World), w' = (w.setCell ⟨gw, s0, none⟩ (.slice ua un uc)).drew → Q .normal ⟨#[.pointer (some ⟨b, 0, none⟩), .int .i64 x, u2, u3, u4, u5, .slice ua un uc, u7, u8, u9, u10, u11, u12, u13, u14, u15, u16, u17, u18, u19, u20, u21, u22, u23, u24, u25, u26, u27, u28, u29, u30, u31, u32, u33, u34, u35, u36, u37, u38, u39, u40, u41, u42, u43, u44, u45, u46, u47, u48, u49, u50, u51, u52, u53, u54, u55, u56, u57, u58, u59, u60, u61, u62, u63, u64, u65, u66, u67, u68, u69, u70, u71, u72, u73, u74, u75, u76, u77, u78, u79, u80, u81, u82, u83, u84, u85, u86, u87, u88, u89, u90, u91, u92, u93, v94, v95, v96, v97, v98, v99, v100, v101], []⟩ w') :
    (Code.region 18 #[{ dst := some 94, op := Op.move (Operand.tmp 0), type := 26, pos := "trail.go:133", after := #[], guard := none }, { dst := some 95, op := Op.nilCheck (Operand.tmp 94), type := 0, pos := "trail.go:133", after := #[{ on := 0, ground := Ground.data }], guard := none }, { dst := some 96, op := Op.fieldAddr 62 (Operand.tmp 95) 1, type := 0, pos := "trail.go:133", after := #[{ on := 1, ground := Ground.data }], guard := none }, { dst := some 97, op := Op.load 22 (Operand.tmp 96), type := 22, pos := "trail.go:133", after := #[{ on := 2, ground := Ground.data }], guard := none }, { dst := some 98, op := Op.move (Operand.tmp 1), type := 3, pos := "trail.go:133", after := #[], guard := none }, { dst := some 99, op := Op.call { callee := Callee.value (Operand.func 59), args := #[Operand.tmp 98], argTypes := #[3] }, type := 3, pos := "trail.go:133", after := #[{ on := 4, ground := Ground.data }], guard := none }, { dst := some 100, op := Op.move (Operand.tmp 6), type := 23, pos := "trail.go:133", after := #[], guard := none }, { dst := some 101, op := Op.indexAddr 22 (Operand.tmp 97) (Operand.tmp 99), type := 0, pos := "trail.go:133", after := #[{ on := 3, ground := Ground.data }, { on := 5, ground := Ground.data }, { on := 0, ground := Ground.phase }, { on := 1, ground := Ground.phase }, { on := 2, ground := Ground.phase }, { on := 3, ground := Ground.phase }, { on := 4, ground := Ground.phase }, { on := 5, ground := Ground.phase }, { on := 6, ground := Ground.phase }], guard := none }, { dst := none, op := Op.store 23 (Operand.tmp 101) (Operand.tmp 100), type := 0, pos := "trail.go:133", after := #[{ on := 7, ground := Ground.data }, { on := 6, ground := Ground.data }, { on := 5, ground := Ground.chain }, { on := 0, ground := Ground.phase }, { on := 1, ground := Ground.phase }, { on := 2, ground := Ground.phase }, { on := 3, ground := Ground.phase }, { on := 4, ground := Ground.phase }, { on := 5, ground := Ground.phase }, { on := 6, ground := Ground.phase }], guard := none }] true).wp Try.prog Q ⟨#[.pointer (some ⟨b, 0, none⟩), .int .i64 x, u2, u3, u4, u5, .slice ua un uc, u7, u8, u9, u10, u11, u12, u13, u14, u15, u16, u17, u18, u19, u20, u21, u22, u23, u24, u25, u26, u27, u28, u29, u30, u31, u32, u33, u34, u35, u36, u37, u38, u39, u40, u41, u42, u43, u44, u45, u46, u47, u48, u49, u50, u51, u52, u53, u54, u55, u56, u57, u58, u59, u60, u61, u62, u63, u64, u65, u66, u67, u68, u69, u70, u71, u72, u73, u74, u75, u76, u77, u78, u79, u80, u81, u82, u83, u84, u85, u86, u87, u88, u89, u90, u91, u92, u93, u94, u95, u96, u97, u98, u99, u100, u101], []⟩ w := by
  refine wp_region_noPanic ?_
  refine wp_region_held_drew (S := (fun w' => w'.cell? ⟨b, 1, none⟩ = some (.slice (some ⟨gw, 0, none⟩) wl cw))) (by kernel_rfl) ?_ (fun hHeld => ?_)
  · (try dsimp only)
    first | (with_reducible exact HA.out _ ((Below.refl _ _).drew)) | (with_reducible assumption) | (with_reducible exact HFB.out)
  refine wpAnyH_take (i := 0) (v := ?_) rfl (by kernel_rfl) (by kernel_rfl) (by kernel_rfl) (fun _ _ _ h => h) (Or.inl ⟨by kernel_rfl, ?_⟩) (by assumption) ?_
  rotate_left
  · intro w hSw
    (try dsimp only at hSw)
    go_simp
    (try with_reducible rfl)
  (try simp only [Act.put, List.getElem_toArray, List.getElem_cons_zero, List.getElem_cons_succ, List.setIfInBounds_toArray, List.set_cons_zero, List.set_cons_succ])
  refine wpAnyH_take (i := 1) (v := ?_) rfl (by kernel_rfl) (by kernel_rfl) (by kernel_rfl) (fun _ _ _ h => h) (Or.inl ⟨by kernel_rfl, ?_⟩) (by assumption) ?_
  rotate_left
  · intro w hSw
    (try dsimp only at hSw)
    go_simp
    (try with_reducible rfl)
  (try simp only [Act.put, List.getElem_toArray, List.getElem_cons_zero, List.getElem_cons_succ, List.setIfInBounds_toArray, List.set_cons_zero, List.set_cons_succ])
  refine wpAnyH_take (i := 2) (v := ?_) rfl (by kernel_rfl) (by kernel_rfl) (by kernel_rfl) (fun _ _ _ h => h) (Or.inl ⟨by kernel_rfl, ?_⟩) (by assumption) ?_
  rotate_left
  · intro w hSw
    (try dsimp only at hSw)
    go_simp
    (try with_reducible rfl)
  (try simp only [Act.put, List.getElem_toArray, List.getElem_cons_zero, List.getElem_cons_succ, List.setIfInBounds_toArray, List.set_cons_zero, List.set_cons_succ])
  refine wpAnyH_take (i := 3) (v := ?_) rfl (by kernel_rfl) (by kernel_rfl) (by kernel_rfl) (fun _ _ _ h => h) (Or.inl ⟨by kernel_rfl, ?_⟩) (by assumption) ?_
  rotate_left
  · intro w hSw
    (try dsimp only at hSw)
    go_simp
    (try with_reducible rfl)
  (try simp only [Act.put, List.getElem_toArray, List.getElem_cons_zero, List.getElem_cons_succ, List.setIfInBounds_toArray, List.set_cons_zero, List.set_cons_succ])
  refine wpAnyH_take (i := 4) (v := ?_) rfl (by kernel_rfl) (by kernel_rfl) (by kernel_rfl) (fun _ _ _ h => h) (Or.inl ⟨by kernel_rfl, ?_⟩) (by assumption) ?_
  rotate_left
  · intro w hSw
    (try dsimp only at hSw)
    go_simp
    (try with_reducible rfl)
  (try simp only [Act.put, List.getElem_toArray, List.getElem_cons_zero, List.getElem_cons_succ, List.setIfInBounds_toArray, List.set_cons_zero, List.set_cons_succ])
  refine wpAnyH_take (i := 6) (v := ?_) rfl (by kernel_rfl) (by kernel_rfl) (by kernel_rfl) (fun _ _ _ h => h) (Or.inl ⟨by kernel_rfl, ?_⟩) (by assumption) ?_
  rotate_left
  · intro w hSw
    (try dsimp only at hSw)
    go_simp
    (try with_reducible rfl)
  (try simp only [Act.put, List.getElem_toArray, List.getElem_cons_zero, List.getElem_cons_succ, List.setIfInBounds_toArray, List.set_cons_zero, List.set_cons_succ])
  refine wpAnyH_ready (rs := [5]) (by kernel_rfl) (by simp) ?_
  refine AllReadyH.cons rfl (fun K hK => ?_) ?_
  rotate_left
  exact AllReadyH.nil
  · go_simp
    go_at_call 59
    refine (HSD.out _).mono ?_
    rintro e w' ⟨rfl, rfl⟩
    (try go_wp2_with fail)
    refine hK.out _ _ ?_ (fun hHeld => ?_)
    · (try dsimp only)
      first | (with_reducible exact HA.out _ ((Below.refl _ _).drew)) | (with_reducible assumption) | (with_reducible exact HFB.out)
    clear hK K
    (try simp only [Act.put, List.getElem_toArray, List.getElem_cons_zero, List.getElem_cons_succ, List.setIfInBounds_toArray, List.set_cons_zero, List.set_cons_succ])
    refine wpAnyH_take (i := 7) (v := ?_) rfl (by kernel_rfl) (by kernel_rfl) (by kernel_rfl) (fun _ _ _ h => h) (Or.inl ⟨by kernel_rfl, ?_⟩) (by assumption) ?_
    rotate_left
    · intro w hSw
      (try dsimp only at hSw)
      go_simp
      (try with_reducible rfl)
    (try simp only [Act.put, List.getElem_toArray, List.getElem_cons_zero, List.getElem_cons_succ, List.setIfInBounds_toArray, List.set_cons_zero, List.set_cons_succ])
    refine wpAnyH_ready (rs := [8]) (by kernel_rfl) (by simp) ?_
    refine AllReadyH.cons rfl (fun K hK => ?_) ?_
    rotate_left
    exact AllReadyH.nil
    · go_simp
      refine hK.out _ _ ?_ (fun hHeld => ?_)
      · (try dsimp only)
        first | (with_reducible exact HA.out _ ((Below.refl _ _).drew)) | (with_reducible assumption) | (with_reducible exact HFB.out)
      clear hK K
      (try simp only [Act.put, List.getElem_toArray, List.getElem_cons_zero, List.getElem_cons_succ, List.setIfInBounds_toArray, List.set_cons_zero, List.set_cons_succ])
      refine wpAnyH_done (by kernel_rfl) ?_ _
      refine NoPanic.normal ?_
      exact hQ _ _ _ _ _ _ _ _ _ rfl

set_option maxRecDepth 100000 in
set_option maxHeartbeats 4000000 in
theorem look_rest {w : World} {b : Nat} {x : Int} {s0 gw cw wl g n c cnt i m : Nat} {u0 : Value} {ad : Addr} {ys : List Int} (u2 u3 u4 u8 u9 u10 u11 u12 u13 u14 u15 u16 u17 u18 u19 u20 u21 u22 u23 u24 u25 u26 u27 u28 u29 u30 u31 u32 u33 u34 u35 u36 u37 u38 u39 u40 u41 u42 u43 u44 u45 u46 u47 u48 u49 u50 u51 u52 u53 u54 u55 u56 u57 u58 u59 u60 u61 u62 u63 u64 u65 u66 u67 u68 u69 u70 u71 u72 u73 u74 u75 u76 u77 u78 u79 u80 u81 u82 u83 u84 u85 u86 u87 u88 u89 u90 u91 u92 u93 u94 u95 u96 u97 u98 u99 u100 u101 : Value) (Q : Exit → Act → World → Prop) (hbW : b < w.heap.size) (hgw : gw < w.heap.size) (hgW : g < w.heap.size) (cw1 : w.cell? ⟨b, 1, none⟩ = some (.slice (some ⟨gw, 0, none⟩) wl cw)) (hb0 : (0 : Int) ≤ (s0 : Int)) (hb1 : (s0 : Int) < (wl : Int)) (hw1 : IntKind.i64.wrap ((i : Int) + 1) = (m : Nat)) (hin : m ≤ n) (hnc : n ≤ c)
    (HA : Hid (∀ w', Below w.heap.size w w' → w'.cell? ⟨b, 1, none⟩ = some (.slice (some ⟨gw, 0, none⟩) wl cw))) (had : (if c = m then some (⟨g, 0, none⟩ : Addr) else some ⟨g, m, none⟩) = some ad)
    (HN : Hid (∀ j u, (ints ys)[j]? = some u → w.cell? (ad.add j) = some u)) (HYL : Hid (ys.length = n - m)) (HRM : Hid (cnt + (n - m) ≤ c)) (HC : Hid (∀ j, j < n - m → (w.cell? ⟨g, cnt + j, none⟩).isSome = true ∧ w.frozen? ⟨g, cnt + j, none⟩ = false))
    (HW3 : (w.drew.setCells g cnt (ints ys)).cell? ⟨b, 1, none⟩ = some (.slice (some ⟨gw, 0, none⟩) wl cw)) (HW4 : (w.drew.setCells g cnt (ints ys)).cell? ⟨gw, s0, none⟩ = some u0) (HW5 : (w.drew.setCells g cnt (ints ys)).frozen? ⟨gw, s0, none⟩ = false)
    (HFB : Hid (((w.drew.setCells g cnt (ints ys)).setCell ⟨gw, s0, none⟩ (.slice (some ⟨g, 0, none⟩) (cnt + (n - m)) c)).cell? ⟨b, 1, none⟩ = some (.slice (some ⟨gw, 0, none⟩) wl cw)))
    (HSD : Hid (∀ w, Calls Try.prog 59 #[.int .i64 x] w fun e w' => e = .returned (.int .i64 (s0 : Nat)) ∧ w' = w))
    (hQ : ∀ (v79 v80 v81 v82 v83 v84 v85 v86 v87 v88 v89 v90 v91 : Value) (w' : World), w' = (w.drew.setCells g cnt (ints ys)).setCell ⟨gw, s0, none⟩ (.slice (some ⟨g, 0, none⟩) (cnt + (n - m)) c) → Q .normal ⟨#[.pointer (some ⟨b, 0, none⟩), .int .i64 x, u2, u3, u4, .slice (some ⟨g, 0, none⟩) n c, .slice (some ⟨g, 0, none⟩) cnt c, .int .i64 (i : Nat), u8, u9, u10, u11, u12, u13, u14, u15, u16, u17, u18, u19, u20, u21, u22, u23, u24, u25, u26, u27, u28, u29, u30, u31, u32, u33, u34, u35, u36, u37, u38, u39, u40, u41, u42, u43, u44, u45, u46, u47, u48, u49, u50, u51, u52, u53, u54, u55, u56, u57, u58, u59, u60, u61, u62, u63, u64, u65, u66, u67, u68, u69, u70, u71, u72, u73, u74, u75, u76, u77, u78, v79, v80, v81, v82, v83, v84, v85, v86, v87, v88, v89, v90, v91, u92, u93, u94, u95, u96, u97, u98, u99, u100, u101], []⟩ w') :
    (Code.region 15 #[{ dst := some 79, op := Op.move (Operand.tmp 0), type := 26, pos := "trail.go:129", after := #[], guard := none }, { dst := some 80, op := Op.nilCheck (Operand.tmp 79), type := 0, pos := "trail.go:129", after := #[{ on := 0, ground := Ground.data }], guard := none }, { dst := some 81, op := Op.fieldAddr 62 (Operand.tmp 80) 1, type := 0, pos := "trail.go:129", after := #[{ on := 1, ground := Ground.data }], guard := none }, { dst := some 82, op := Op.load 22 (Operand.tmp 81), type := 22, pos := "trail.go:129", after := #[{ on := 2, ground := Ground.data }], guard := none }, { dst := some 83, op := Op.move (Operand.tmp 1), type := 3, pos := "trail.go:129", after := #[], guard := none }, { dst := some 84, op := Op.call { callee := Callee.value (Operand.func 59), args := #[Operand.tmp 83], argTypes := #[3] }, type := 3, pos := "trail.go:129", after := #[{ on := 4, ground := Ground.data }], guard := none }, { dst := some 85, op := Op.move (Operand.tmp 6), type := 23, pos := "trail.go:129", after := #[], guard := none }, { dst := some 86, op := Op.move (Operand.tmp 5), type := 23, pos := "trail.go:129", after := #[], guard := none }, { dst := some 87, op := Op.move (Operand.tmp 7), type := 3, pos := "trail.go:129", after := #[], guard := none }, { dst := some 88, op := Op.binOp BinOp.add 3 (Operand.tmp 87) (Operand.const (Value.int IntKind.i64 1)) 3, type := 3, pos := "trail.go:129", after := #[{ on := 8, ground := Ground.data }], guard := none }, { dst := some 89, op := Op.slice 23 (Operand.tmp 86) (some (Operand.tmp 88)) none none, type := 23, pos := "trail.go:129", after := #[{ on := 7, ground := Ground.data }, { on := 9, ground := Ground.data }], guard := none }, { dst := some 90, op := Op.call { callee := Callee.builtin Builtin.append, args := #[Operand.tmp 85, Operand.tmp 89], argTypes := #[23, 23] }, type := 23, pos := "trail.go:129", after := #[{ on := 6, ground := Ground.data }, { on := 10, ground := Ground.data }, { on := 5, ground := Ground.chain }], guard := none }, { dst := some 91, op := Op.indexAddr 22 (Operand.tmp 82) (Operand.tmp 84), type := 0, pos := "trail.go:129", after := #[{ on := 3, ground := Ground.data }, { on := 5, ground := Ground.data }, { on := 0, ground := Ground.phase }, { on := 1, ground := Ground.phase }, { on := 2, ground := Ground.phase }, { on := 3, ground := Ground.phase }, { on := 4, ground := Ground.phase }, { on := 5, ground := Ground.phase }, { on := 6, ground := Ground.phase }, { on := 7, ground := Ground.phase }, { on := 8, ground := Ground.phase }, { on := 9, ground := Ground.phase }, { on := 10, ground := Ground.phase }, { on := 11, ground := Ground.phase }], guard := none }, { dst := none, op := Op.store 23 (Operand.tmp 91) (Operand.tmp 90), type := 0, pos := "trail.go:129", after := #[{ on := 12, ground := Ground.data }, { on := 11, ground := Ground.data }, { on := 11, ground := Ground.chain }, { on := 0, ground := Ground.phase }, { on := 1, ground := Ground.phase }, { on := 2, ground := Ground.phase }, { on := 3, ground := Ground.phase }, { on := 4, ground := Ground.phase }, { on := 5, ground := Ground.phase }, { on := 6, ground := Ground.phase }, { on := 7, ground := Ground.phase }, { on := 8, ground := Ground.phase }, { on := 9, ground := Ground.phase }, { on := 10, ground := Ground.phase }, { on := 11, ground := Ground.phase }], guard := none }] true).wp Try.prog Q ⟨#[.pointer (some ⟨b, 0, none⟩), .int .i64 x, u2, u3, u4, .slice (some ⟨g, 0, none⟩) n c, .slice (some ⟨g, 0, none⟩) cnt c, .int .i64 (i : Nat), u8, u9, u10, u11, u12, u13, u14, u15, u16, u17, u18, u19, u20, u21, u22, u23, u24, u25, u26, u27, u28, u29, u30, u31, u32, u33, u34, u35, u36, u37, u38, u39, u40, u41, u42, u43, u44, u45, u46, u47, u48, u49, u50, u51, u52, u53, u54, u55, u56, u57, u58, u59, u60, u61, u62, u63, u64, u65, u66, u67, u68, u69, u70, u71, u72, u73, u74, u75, u76, u77, u78, u79, u80, u81, u82, u83, u84, u85, u86, u87, u88, u89, u90, u91, u92, u93, u94, u95, u96, u97, u98, u99, u100, u101], []⟩ w := by
  refine wp_region_noPanic ?_
  refine wp_region_held_drew (S := (fun w' => w'.cell? ⟨b, 1, none⟩ = some (.slice (some ⟨gw, 0, none⟩) wl cw))) (by kernel_rfl) ?_ (fun hHeld => ?_)
  · (try dsimp only)
    first | (with_reducible exact HA.out _ ((Below.refl _ _).drew)) | (with_reducible exact HW3) | (with_reducible assumption) | (with_reducible exact HFB.out)
  refine wpAnyH_take (i := 0) (v := ?_) rfl (by kernel_rfl) (by kernel_rfl) (by kernel_rfl) (fun _ _ _ h => h) (Or.inl ⟨by kernel_rfl, ?_⟩) (by assumption) ?_
  rotate_left
  · intro w hSw
    (try dsimp only at hSw)
    go_simp
    (try with_reducible rfl)
  (try simp only [Act.put, List.getElem_toArray, List.getElem_cons_zero, List.getElem_cons_succ, List.setIfInBounds_toArray, List.set_cons_zero, List.set_cons_succ])
  refine wpAnyH_take (i := 1) (v := ?_) rfl (by kernel_rfl) (by kernel_rfl) (by kernel_rfl) (fun _ _ _ h => h) (Or.inl ⟨by kernel_rfl, ?_⟩) (by assumption) ?_
  rotate_left
  · intro w hSw
    (try dsimp only at hSw)
    go_simp
    (try with_reducible rfl)
  (try simp only [Act.put, List.getElem_toArray, List.getElem_cons_zero, List.getElem_cons_succ, List.setIfInBounds_toArray, List.set_cons_zero, List.set_cons_succ])
  refine wpAnyH_take (i := 2) (v := ?_) rfl (by kernel_rfl) (by kernel_rfl) (by kernel_rfl) (fun _ _ _ h => h) (Or.inl ⟨by kernel_rfl, ?_⟩) (by assumption) ?_
  rotate_left
  · intro w hSw
    (try dsimp only at hSw)
    go_simp
    (try with_reducible rfl)
  (try simp only [Act.put, List.getElem_toArray, List.getElem_cons_zero, List.getElem_cons_succ, List.setIfInBounds_toArray, List.set_cons_zero, List.set_cons_succ])
  refine wpAnyH_take (i := 3) (v := ?_) rfl (by kernel_rfl) (by kernel_rfl) (by kernel_rfl) (fun _ _ _ h => h) (Or.inl ⟨by kernel_rfl, ?_⟩) (by assumption) ?_
  rotate_left
  · intro w hSw
    (try dsimp only at hSw)
    go_simp
    (try with_reducible rfl)
  (try simp only [Act.put, List.getElem_toArray, List.getElem_cons_zero, List.getElem_cons_succ, List.setIfInBounds_toArray, List.set_cons_zero, List.set_cons_succ])
  refine wpAnyH_take (i := 4) (v := ?_) rfl (by kernel_rfl) (by kernel_rfl) (by kernel_rfl) (fun _ _ _ h => h) (Or.inl ⟨by kernel_rfl, ?_⟩) (by assumption) ?_
  rotate_left
  · intro w hSw
    (try dsimp only at hSw)
    go_simp
    (try with_reducible rfl)
  (try simp only [Act.put, List.getElem_toArray, List.getElem_cons_zero, List.getElem_cons_succ, List.setIfInBounds_toArray, List.set_cons_zero, List.set_cons_succ])
  refine wpAnyH_take (i := 6) (v := ?_) rfl (by kernel_rfl) (by kernel_rfl) (by kernel_rfl) (fun _ _ _ h => h) (Or.inl ⟨by kernel_rfl, ?_⟩) (by assumption) ?_
  rotate_left
  · intro w hSw
    (try dsimp only at hSw)
    go_simp
    (try with_reducible rfl)
  (try simp only [Act.put, List.getElem_toArray, List.getElem_cons_zero, List.getElem_cons_succ, List.setIfInBounds_toArray, List.set_cons_zero, List.set_cons_succ])
  refine wpAnyH_take (i := 7) (v := ?_) rfl (by kernel_rfl) (by kernel_rfl) (by kernel_rfl) (fun _ _ _ h => h) (Or.inl ⟨by kernel_rfl, ?_⟩) (by assumption) ?_
  rotate_left
  · intro w hSw
    (try dsimp only at hSw)
    go_simp
    (try with_reducible rfl)
  (try simp only [Act.put, List.getElem_toArray, List.getElem_cons_zero, List.getElem_cons_succ, List.setIfInBounds_toArray, List.set_cons_zero, List.set_cons_succ])
  refine wpAnyH_take (i := 8) (v := ?_) rfl (by kernel_rfl) (by kernel_rfl) (by kernel_rfl) (fun _ _ _ h => h) (Or.inl ⟨by kernel_rfl, ?_⟩) (by assumption) ?_
  rotate_left
  · intro w hSw
    (try dsimp only at hSw)
    go_simp
    (try with_reducible rfl)
  (try simp only [Act.put, List.getElem_toArray, List.getElem_cons_zero, List.getElem_cons_succ, List.setIfInBounds_toArray, List.set_cons_zero, List.set_cons_succ])
  refine wpAnyH_take (i := 9) (v := ?_) rfl (by kernel_rfl) (by kernel_rfl) (by kernel_rfl) (fun _ _ _ h => h) (Or.inl ⟨by kernel_rfl, ?_⟩) (by assumption) ?_
  rotate_left
  · intro w hSw
    (try dsimp only at hSw)
    go_simp
    (try with_reducible rfl)
  (try simp only [Act.put, List.getElem_toArray, List.getElem_cons_zero, List.getElem_cons_succ, List.setIfInBounds_toArray, List.set_cons_zero, List.set_cons_succ])
  refine wpAnyH_take (i := 10) (v := ?_) rfl (by kernel_rfl) (by kernel_rfl) (by kernel_rfl) (fun _ _ _ h => h) (Or.inl ⟨by kernel_rfl, ?_⟩) (by assumption) ?_
  rotate_left
  · intro w hSw
    (try dsimp only at hSw)
    go_simp
    (try with_reducible rfl)
  (try simp only [Act.put, List.getElem_toArray, List.getElem_cons_zero, List.getElem_cons_succ, List.setIfInBounds_toArray, List.set_cons_zero, List.set_cons_succ])
  refine wpAnyH_ready (rs := [5]) (by kernel_rfl) (by simp) ?_
  refine AllReadyH.cons rfl (fun K hK => ?_) ?_
  rotate_left
  exact AllReadyH.nil
  · go_simp
    go_at_call 59
    refine (HSD.out _).mono ?_
    rintro e w' ⟨rfl, rfl⟩
    (try go_wp2_with fail)
    refine hK.out _ _ ?_ (fun hHeld => ?_)
    · (try dsimp only)
      first | (with_reducible exact HA.out _ ((Below.refl _ _).drew)) | (with_reducible exact HW3) | (with_reducible assumption) | (with_reducible exact HFB.out)
    clear hK K
    (try simp only [Act.put, List.getElem_toArray, List.getElem_cons_zero, List.getElem_cons_succ, List.setIfInBounds_toArray, List.set_cons_zero, List.set_cons_succ])
    refine wpAnyH_ready (rs := [11]) (by kernel_rfl) (by simp) ?_
    refine AllReadyH.cons rfl (fun K hK => ?_) ?_
    rotate_left
    exact AllReadyH.nil
    · refine step_app_room rfl (.tmp 85) (.tmp 89) rfl g cnt c rfl ad (n - m) (c - m) ys rfl HYL.out HN.out HRM.out HC.out ?_
      refine hK.out _ _ ?_ (fun hHeld => ?_)
      · (try dsimp only)
        first | (with_reducible exact HA.out _ ((Below.refl _ _).drew)) | (with_reducible exact HW3) | (with_reducible assumption) | (with_reducible exact HFB.out)
      clear hK K
      (try simp only [Act.put, List.getElem_toArray, List.getElem_cons_zero, List.getElem_cons_succ, List.setIfInBounds_toArray, List.set_cons_zero, List.set_cons_succ])
      refine wpAnyH_take (i := 12) (v := ?_) rfl (by kernel_rfl) (by kernel_rfl) (by kernel_rfl) (fun _ _ _ h => h) (Or.inl ⟨by kernel_rfl, ?_⟩) (by assumption) ?_
      rotate_left
      · intro w hSw
        (try dsimp only at hSw)
        go_simp
        (try with_reducible rfl)
      (try simp only [Act.put, List.getElem_toArray, List.getElem_cons_zero, List.getElem_cons_succ, List.setIfInBounds_toArray, List.set_cons_zero, List.set_cons_succ])
      refine wpAnyH_ready (rs := [13]) (by kernel_rfl) (by simp) ?_
      refine AllReadyH.cons rfl (fun K hK => ?_) ?_
      rotate_left
      exact AllReadyH.nil
      · go_simp
        refine hK.out _ _ ?_ (fun hHeld => ?_)
        · (try dsimp only)
          first | (with_reducible exact HA.out _ ((Below.refl _ _).drew)) | (with_reducible exact HW3) | (with_reducible assumption) | (with_reducible exact HFB.out)
        clear hK K
        (try simp only [Act.put, List.getElem_toArray, List.getElem_cons_zero, List.getElem_cons_succ, List.setIfInBounds_toArray, List.set_cons_zero, List.set_cons_succ])
        refine wpAnyH_done (by kernel_rfl) ?_ _
        refine NoPanic.normal ?_
        exact hQ _ _ _ _ _ _ _ _ _ _ _ _ _ _ rfl

theorem wrap_i64 {a : Int} (h : -9223372036854775808 ≤ a ∧ a ≤ 9223372036854775807) : IntKind.i64.wrap a = a := by simp [IntKind.wrap, IntKind.signed, IntKind.bits]; omega

/-- look's answer. -/
def LookPost (w : World) (B : Nat → Prop) (b : Nat) (R : Int × List Int × Tr) (x : Int) (e : Ending) (w' : World) : Prop :=
  e = .returned (.int .i64 R.1) ∧ Keep B w w' ∧ TrailAt w' B b (setW R.2.2 (sideN x) R.2.1)

/-- Nothing may be watched in the place: said of the trail as it lies. -/
theorem other_facts {w0 w : World} {B : Nat → Prop} {b : Nat} {T : Tr} {val : Sl → Value} {n : Nat} (h : TrailV w B b T val) (hb : Below w0.heap.size w0 w) (hok : Ok n T) (hr : ∀ j, (T.W.getD j []).length ≤ 900000) (k : Nat) (hk : k < T.L.length) (h2 : 2 ≤ (T.L.getD k []).length) :
    Calls Try.prog 63 #[.pointer (some ⟨b, 0, none⟩), .int .i64 (k : Nat)] w fun e w' => OtherPost w B b T val k (otherI T (T.L.getD k [])) (T.L.getD k []).length e w' := by
  obtain ⟨s1, s2, s3, s4⟩ := otherI_spec T (T.L.getD k []) h2
  have hc := hok.clause k
  have hn2 := hok.n2
  exact other_any h k _ _ hk rfl h2 hc.1 (by rw [hok.fl]; exact hok.n2) hok.small
    (fun x hx => by have := hc.2 x hx; omega) (fun x hx => by rw [hok.wl]; exact side_lt (hc.2 x hx)) hr (by have := hok.ll; omega) s1 s2 s3 s4

/-- What a round of look meets at its head. -/
theorem look_round {w0 wr : World} {B : Nat → Prop} {b n M N : Nat} {x : Int} {l : List Int} {g c : Nat} {R : Int × List Int × Tr} {i cnt j ln : Nat} (H : LookRel w0 B b n M N x l g c R i cnt wr) (hj : sideN x = j) (hln : l.length = ln) (hlt : i < ln) :
    ∃ (kept : List Int) (T : Tr) (val : Sl → Value) (k gl cl ll gc q oc : Nat), l.getD i 0 = (k : Nat) ∧ kept.length = cnt ∧ cnt ≤ i ∧ Hid (LookInv n M N x l i kept T) ∧ Hid (lookGo x ((k : Int) :: l.drop (i + 1)) kept T = R) ∧ Hid (Keep B w0 wr) ∧
      Hid (TrailV wr B b (setW T j (kept ++ l.drop kept.length)) val) ∧ Hid (val (.W j) = .slice (some ⟨g, 0, none⟩) ln c) ∧ Hid (val (.C k) = .slice (some ⟨gc, 0, none⟩) q oc) ∧ Hid (k < T.L.length) ∧ Hid ((T.L.getD k []).length = q) ∧ 2 ≤ q ∧ q ≤ oc ∧
      wr.cell? ⟨g, i, none⟩ = some (.int .i64 (k : Nat)) ∧ wr.cell? ⟨b, 0, none⟩ = some (.slice (some ⟨gl, 0, none⟩) ll cl) ∧ wr.cell? ⟨gl, k, none⟩ = some (.slice (some ⟨gc, 0, none⟩) q oc) ∧ (k : Int) < (ll : Int) ∧
      wr.cell? ⟨gc, 0, none⟩ = some (.int .i64 ((T.L.getD k []).getD 0 0)) ∧ wr.cell? ⟨gc, 1, none⟩ = some (.int .i64 ((T.L.getD k []).getD 1 0)) ∧ wr.frozen? ⟨gc, 0, none⟩ = false ∧ wr.frozen? ⟨gc, 1, none⟩ = false := by
  subst hj hln
  obtain ⟨kept, T, val, hcnt, hgo, hinv, htr, hv, hkp⟩ := H
  obtain ⟨k, ek, hk, h2k⟩ := hinv.rest i (Nat.le_refl _) hlt
  have hkl := hinv.kl
  have hjw : sideN x < T.W.length := by rw [hinv.ok.wl]; exact side_lt hinv.xok
  obtain ⟨r1, r2, r3, r4⟩ := htr.rowW hv
  have e := (r4 i hlt).1
  rw [setW_get _ _ _ hjw, List.getD_eq_getElem?_getD, List.getElem?_append_right hkl, List.getElem?_drop, show kept.length + (i - kept.length) = i from by omega, ← List.getD_eq_getElem?_getD, ek] at e
  have hd : l.drop i = (k : Int) :: l.drop (i + 1) := by
    rw [List.drop_eq_getElem_cons hlt]
    congr 1
    rw [← ek, List.getD_eq_getElem?_getD, List.getElem?_eq_getElem hlt, Option.getD_some]
  rw [hd] at hgo
  obtain ⟨gl, cl, gc, oc, cb, ck, hvC, hoc⟩ := htr.clause (show k < (setW T (sideN x) _).L.length from hk) rfl (show 1 ≤ (T.L.getD k []).length by omega)
  have l0 := htr.lit rfl hvC 0 (show 0 < (T.L.getD k []).length by omega)
  have l1 := htr.lit rfl hvC 1 (show 1 < (T.L.getD k []).length by omega)
  have hkz : (k : Int) < ((setW T (sideN x) (kept ++ l.drop kept.length)).L.length : Int) := by show (k : Int) < (T.L.length : Int); omega
  exact ⟨kept, T, val, k, gl, cl, _, gc, _, oc, ek, hcnt, by omega, Lib.hid hinv, Lib.hid hgo, Lib.hid hkp, Lib.hid htr, Lib.hid hv, Lib.hid hvC, Lib.hid hk, Lib.hid rfl, h2k, hoc, e, cb, ck, hkz, l0.1, l1.1, l0.2.1, l1.2.1⟩

/-- look's rounds, behind the change of places. -/
def lookMid (x : Int) (k : Nat) (rest kept : List Int) (T : Tr) : Int × List Int × Tr :=
  if valOf T ((T.L.getD k []).getD 0 0) < 1 then
    if otherI T (T.L.getD k []) < (T.L.getD k []).length then lookGo x rest kept (otherT T k (otherI T (T.L.getD k [])))
    else if valOf T ((T.L.getD k []).getD 0 0) = 0 then lookGo x rest (kept ++ [(k : Int)]) (makeT T ((T.L.getD k []).getD 0 0) k)
    else (k, kept ++ (k : Int) :: rest, T)
  else lookGo x rest (kept ++ [(k : Int)]) T
theorem lookGo_mid (x : Int) (k : Nat) (rest kept : List Int) (T : Tr) : lookGo x ((k : Int) :: rest) kept T = lookMid x k rest kept (look1 x k T) := rfl

/-- A clause is kept: the store. -/
theorem look_kept {w : World} {B : Nat → Prop} {b : Nat} {T : Tr} {val : Sl → Value} {j g ln c cnt : Nat} {kept l : List Int} (h : TrailV w B b (setW T j (kept ++ l.drop kept.length)) val) (hv : val (.W j) = .slice (some ⟨g, 0, none⟩) ln c) (hjw : j < T.W.length) (hln : l.length = ln) (hk : kept.length = cnt) (hlt : cnt < ln) (k : Int) :
    (∀ o, ((w.alloc o).cell? ⟨g, cnt, none⟩).isSome = true ∧ (w.alloc o).frozen? ⟨g, cnt, none⟩ = false) ∧ ∀ o, TrailV ((w.alloc o).setCell ⟨g, cnt, none⟩ (.int .i64 k)) B b (setW T j ((kept ++ [k]) ++ l.drop (kept ++ [k]).length)) val ∧ Keep B w ((w.alloc o).setCell ⟨g, cnt, none⟩ (.int .i64 k)) := by
  subst hk hln
  have ha : ∀ o, TrailV (w.alloc o) B b (setW T j (kept ++ l.drop kept.length)) val := fun o => h.below ((Below.refl w.heap.size w).alloc (Nat.le_refl _) o) (Nat.le_refl _)
  refine ⟨fun o => ?_, fun o => ?_⟩
  · obtain ⟨_, _, _, r4⟩ := (ha o).rowW hv
    obtain ⟨r5, r6⟩ := r4 kept.length hlt
    exact ⟨by rw [r5]; rfl, r6⟩
  · obtain ⟨s1, s2⟩ := (ha o).storeW (show j < (setW T j _).W.length by show j < (T.W.set _ _).length; rw [List.length_set]; exact hjw) hv kept.length k
    rw [setW_get _ _ _ hjw, keep_step hlt, setW_setW] at s1
    refine ⟨s1, ?_⟩
    obtain ⟨ct, hm, _⟩ := h
    exact ((Keep.refl B w).alloc hm.lt o).trans s2

theorem LookRel.of {w0 w : World} {B : Nat → Prop} {b n M N : Nat} {x : Int} {l : List Int} {g c : Nat} {R : Int × List Int × Tr} {i j ln : Nat} {kept : List Int} {T : Tr} {val : Sl → Value} (hj : sideN x = j) (hln : l.length = ln) (h1 : lookGo x (l.drop i) kept T = R) (h2 : LookInv n M N x l i kept T) (h3 : TrailV w B b (setW T j (kept ++ l.drop kept.length)) val) (h4 : val (.W j) = .slice (some ⟨g, 0, none⟩) ln c) (h5 : Keep B w0 w) {cnt : Nat} (h6 : kept.length = cnt) :
    LookRel w0 B b n M N x l g c R i cnt w := by
  subst hj hln
  exact ⟨kept, T, val, h6, h1, h2, h3, h4, h5⟩

/-- What stands behind the change of places. -/
theorem look_mid {wc : World} {B : Nat → Prop} {b n M N : Nat} {x : Int} {l : List Int} {i j k gc q oc : Nat} {kept : List Int} {T : Tr} {val : Sl → Value} (HI : LookInv n M N x l i kept T) (hk : k < T.L.length) (hq : (T.L.getD k []).length = q) (h2 : 2 ≤ q) (H : TrailV wc B b (look1 x k (setW T j (kept ++ l.drop kept.length))) val) (hvC : val (.C k) = .slice (some ⟨gc, 0, none⟩) q oc) (hM : M + l.length ≤ 800000) (hil : i < l.length) (hj : sideN x = j) :
    ∃ (T1 : Tr) (y : Int), Hid (T1 = look1 x k T) ∧ Hid (LookInv n M N x l i kept T1) ∧ Hid ((T1.L.getD k []).getD 0 0 = y) ∧ Hid (TrailV wc B b (setW T1 j (kept ++ l.drop kept.length)) val) ∧ (1 ≤ y.natAbs ∧ y.natAbs ≤ n) ∧ Hid (k < T1.L.length ∧ (T1.L.getD k []).length = q) ∧
      Hid (∀ w' T2 val2, TrailV w' B b T2 val2 → T2.L = T1.L → val2 (.C k) = .slice (some ⟨gc, 0, none⟩) q oc → w'.cell? ⟨gc, 0, none⟩ = some (.int .i64 y)) ∧
      Hid (∀ w' ms val2, TrailV w' B b (setW T1 j ms) val2 → Calls Try.prog 24 #[.pointer (some ⟨b, 0, none⟩), .int .i64 y] w' fun e w2 => e = .returned (.int .i64 (valOf T1 y)) ∧ Below w'.heap.size w' w2) ∧
      Hid (∀ w', TrailV w' B b (setW T1 j (kept ++ l.drop kept.length)) val → Calls Try.prog 63 #[.pointer (some ⟨b, 0, none⟩), .int .i64 (k : Nat)] w' fun e w2 => OtherPost w' B b (setW T1 j (kept ++ l.drop kept.length)) val k (otherI T1 (T1.L.getD k [])) q e w2) := by
  subst hq
  have I1 := HI.look1 (k := k) h2
  have hl : ((look1 x k T).L.getD k []).length = (T.L.getD k []).length := look1_len x T k k
  have hk1 : k < (look1 x k T).L.length := by rw [look1_ll]; exact hk
  rw [look1_setW] at H
  have hy := (I1.ok.clause k).2 _ (mem_getD (d := 0) (show 0 < ((look1 x k T).L.getD k []).length by omega))
  have hjw : j < (look1 x k T).W.length := by rw [← hj, I1.ok.wl]; exact side_lt I1.xok
  refine ⟨look1 x k T, _, Lib.hid rfl, Lib.hid I1, Lib.hid rfl, Lib.hid H, hy, Lib.hid ⟨hk1, hl⟩, Lib.hid ?_, Lib.hid ?_, Lib.hid ?_⟩
  · intro w' T2 val2 h e1 e2
    have := (h.lit (c := (look1 x k T).L.getD k []) (by rw [e1]) e2 0 (by omega)).1
    exact this
  · intro w' ms val2 h
    have h20 := I1.ok.n2
    have := val_facts h ((( look1 x k T).L.getD k []).getD 0 0) (by unfold In64; omega) (by rw [show (setW (look1 x k T) j ms).F = (look1 x k T).F from rfl, I1.ok.fl]; exact h20) I1.ok.small w' (Below.refl _ _)
    exact this
  · intro w' h
    have := other_facts (w0 := w') h (Below.refl _ _) (I1.ok.setW j _) (fun p => by
      by_cases e : p = j
      · subst e
        rw [setW_get _ _ _ hjw, List.length_append, List.length_drop]
        have := I1.kl; omega
      · show (((look1 x k T).W.set j _).getD p []).length ≤ _
        rw [getD_set_ne _ _ _ (Ne.symm e)]
        have := I1.rows p; omega) k hk1 (show 2 ≤ ((look1 x k T).L.getD k []).length by omega)
    rw [show (setW (look1 x k T) j (kept ++ l.drop kept.length)).L = (look1 x k T).L from rfl, hl, otherI_F (T := look1 x k T) (T' := setW (look1 x k T) j (kept ++ l.drop kept.length)) rfl] at this
    exact this

/-- A clause is false: the rest of the row is kept. -/
theorem rest_facts {w : World} {B : Nat → Prop} {b : Nat} {T : Tr} {val : Sl → Value} {j g ln c cnt m : Nat} {kept l : List Int} (h : TrailV w B b (setW T j (kept ++ l.drop kept.length)) val) (hv : val (.W j) = .slice (some ⟨g, 0, none⟩) ln c) (hjw : j < T.W.length) (hln : l.length = ln) (hlc : ln ≤ c) (hk : kept.length = cnt) (hcm : cnt ≤ m) (hm : m ≤ ln) (hl0 : 0 < ln) :
    ∃ (gw cw wl : Nat) (ad : Addr) (u0 : Value), b < w.heap.size ∧ gw < w.heap.size ∧ g < w.heap.size ∧ w.cell? ⟨b, 1, none⟩ = some (.slice (some ⟨gw, 0, none⟩) wl cw) ∧ (0 : Int) ≤ (j : Int) ∧ (j : Int) < (wl : Int) ∧
      Hid (∀ w', Below w.heap.size w w' → w'.cell? ⟨b, 1, none⟩ = some (.slice (some ⟨gw, 0, none⟩) wl cw)) ∧ (if c = m then some (⟨g, 0, none⟩ : Addr) else some ⟨g, m, none⟩) = some ad ∧
      Hid (∀ q u, (ints (l.drop m))[q]? = some u → w.cell? (ad.add q) = some u) ∧ Hid ((l.drop m).length = ln - m) ∧ Hid (cnt + (ln - m) ≤ c) ∧ Hid (∀ q, q < ln - m → (w.cell? ⟨g, cnt + q, none⟩).isSome = true ∧ w.frozen? ⟨g, cnt + q, none⟩ = false) ∧
      (w.drew.setCells g cnt (ints (l.drop m))).cell? ⟨b, 1, none⟩ = some (.slice (some ⟨gw, 0, none⟩) wl cw) ∧ (w.drew.setCells g cnt (ints (l.drop m))).cell? ⟨gw, j, none⟩ = some u0 ∧ (w.drew.setCells g cnt (ints (l.drop m))).frozen? ⟨gw, j, none⟩ = false ∧
      Hid (((w.drew.setCells g cnt (ints (l.drop m))).setCell ⟨gw, j, none⟩ (.slice (some ⟨g, 0, none⟩) (cnt + (ln - m)) c)).cell? ⟨b, 1, none⟩ = some (.slice (some ⟨gw, 0, none⟩) wl cw)) ∧
      Hid (TrailAt ((w.drew.setCells g cnt (ints (l.drop m))).setCell ⟨gw, j, none⟩ (.slice (some ⟨g, 0, none⟩) (cnt + (ln - m)) c)) B b (setW T j (kept ++ l.drop m)) ∧ Keep B w ((w.drew.setCells g cnt (ints (l.drop m))).setCell ⟨gw, j, none⟩ (.slice (some ⟨g, 0, none⟩) (cnt + (ln - m)) c))) := by
  subst hk hln
  have hjs : j < (setW T j (kept ++ l.drop kept.length)).W.length := by show j < (T.W.set _ _).length; rw [List.length_set]; exact hjw
  obtain ⟨r1, r2, r3, r4⟩ := h.rowW hv
  rw [setW_get _ _ _ hjw] at r4
  have hd : TrailV w.drew B b (setW T j (kept ++ l.drop kept.length)) val := h.below (Below.refl w.heap.size w).drew (Nat.le_refl _)
  obtain ⟨s1, s2⟩ := TrailV.storesW hv (l.drop m) kept.length w.drew _ hd hjs
  rw [setW_get _ _ _ hjw, setW_setW] at s1
  have hol : (over (kept ++ l.drop kept.length) kept.length (l.drop m)).length = l.length := by rw [over_len, List.length_append, List.length_drop]; omega
  have hjs2 : j < (setW T j (over (kept ++ l.drop kept.length) kept.length (l.drop m))).W.length := by show j < (T.W.set _ _).length; rw [List.length_set]; exact hjw
  obtain ⟨gw, cw, c1, f1, cj, hgw, hb, H1, H2, H3, EW⟩ := s1.cutW (m := kept.length + (l.length - m)) hjs2 hv (by rw [setW_get _ _ _ hjw, hol]; omega)
  obtain ⟨t1, k1⟩ := H1.out
  have hwl : (setW T j (over (kept ++ l.drop kept.length) kept.length (l.drop m))).W.length = T.W.length := by show (T.W.set _ _).length = _; rw [List.length_set]
  rw [hwl] at c1 H2 H3 EW
  obtain ⟨b1, b2⟩ := h.boxW
  rw [EW.out] at b1
  have hgw0 : gw < w.heap.size := by
    obtain ⟨ct, M, ht⟩ := h
    exact (M.row .wa).lt gw (by rw [EW.out]; rfl)
  have e3 : (over (kept ++ l.drop kept.length) kept.length (l.drop m)).take (kept.length + (l.length - m)) = kept ++ l.drop m := by
    have := over_take (kept ++ l.drop kept.length) kept.length (l.drop m) (by rw [List.length_append, List.length_drop, List.length_drop]; omega)
    rw [List.length_drop] at this
    rw [this, List.take_left]
  rw [setW_get _ _ _ hjw, e3, setW_setW] at t1
  have kd : Keep B w w.drew := (Keep.refl B w).drew
  refine ⟨gw, cw, T.W.length, if c = m then ⟨g, 0, none⟩ else ⟨g, m, none⟩, _, b2, hgw0, r3 hl0, b1, by omega, by omega, Lib.hid (fun w' hb => ?_), by split <;> rfl, Lib.hid ?_, Lib.hid (List.length_drop ..), Lib.hid (by omega), Lib.hid (fun q hq => ?_), c1, cj, f1, H3, Lib.hid ⟨t1.any, kd.trans (s2.trans k1)⟩⟩
  · have := (h.below hb (Nat.le_refl _)).boxW.1
    rw [EW.out] at this
    exact this
  · intro q u hu
    obtain ⟨hq, rfl⟩ := ints_get hu
    rw [List.length_drop] at hq
    have hcm' : ¬ c = m := by omega
    rw [if_neg hcm', add_off]
    rw [(r4 (m + q) (by omega)).1]
    congr 2
    rw [List.getD_eq_getElem?_getD, List.getElem?_append_right (by omega), List.getElem?_drop, List.getD_eq_getElem?_getD, List.getElem?_drop]
    congr 2
    omega
  · obtain ⟨a1, a2⟩ := r4 (kept.length + q) (by omega)
    exact ⟨by rw [a1]; rfl, a2⟩

/-- All are looked at: the row is cut. -/
theorem end_facts {w : World} {B : Nat → Prop} {b : Nat} {T : Tr} {val : Sl → Value} {j g ln c cnt : Nat} {kept l : List Int} (h : TrailV w B b (setW T j (kept ++ l.drop kept.length)) val) (hv : val (.W j) = .slice (some ⟨g, 0, none⟩) ln c) (hjw : j < T.W.length) (hln : l.length = ln) (hk : kept.length = cnt) (hcm : cnt ≤ ln) :
    ∃ (gw cw wl : Nat) (u0 : Value), b < w.heap.size ∧ gw < w.heap.size ∧ w.cell? ⟨b, 1, none⟩ = some (.slice (some ⟨gw, 0, none⟩) wl cw) ∧ w.cell? ⟨gw, j, none⟩ = some u0 ∧ w.frozen? ⟨gw, j, none⟩ = false ∧ (0 : Int) ≤ (j : Int) ∧ (j : Int) < (wl : Int) ∧
      Hid (∀ w', Below w.heap.size w w' → w'.cell? ⟨b, 1, none⟩ = some (.slice (some ⟨gw, 0, none⟩) wl cw)) ∧
      Hid ((w.setCell ⟨gw, j, none⟩ (.slice (some ⟨g, 0, none⟩) cnt c)).drew.cell? ⟨b, 1, none⟩ = some (.slice (some ⟨gw, 0, none⟩) wl cw)) ∧
      Hid (TrailAt (w.setCell ⟨gw, j, none⟩ (.slice (some ⟨g, 0, none⟩) cnt c)).drew B b (setW T j kept) ∧ Keep B w (w.setCell ⟨gw, j, none⟩ (.slice (some ⟨g, 0, none⟩) cnt c)).drew) := by
  subst hk hln
  have hjs : j < (setW T j (kept ++ l.drop kept.length)).W.length := by show j < (T.W.set _ _).length; rw [List.length_set]; exact hjw
  obtain ⟨gw, cw, c1, f1, cj, hgw, hb, H1, H2, H3, EW⟩ := h.cutW (m := kept.length) hjs hv (by rw [setW_get _ _ _ hjw, List.length_append]; omega)
  obtain ⟨t1, k1⟩ := H1.out
  have hwl : (setW T j (kept ++ l.drop kept.length)).W.length = T.W.length := by show (T.W.set _ _).length = _; rw [List.length_set]
  rw [hwl] at c1 H2 H3
  rw [setW_get _ _ _ hjw, List.take_left, setW_setW] at t1
  exact ⟨gw, cw, _, _, hb, hgw, c1, cj, f1, by omega, by omega, H2, H3, Lib.hid ⟨(t1.below (Below.refl _ _).drew (Nat.le_refl _)).any, k1.drew⟩⟩

set_option maxRecDepth 100000 in
set_option maxHeartbeats 4000000 in
theorem look_any {w : World} {B : Nat → Prop} {b : Nat} {T : Tr} {val : Sl → Value} (h : TrailV w B b T val) (x : Int) (n M N : Nat) (l : List Int) (hl : T.W.getD (sideN x) [] = l) (hl0 : 0 < l.length) (hinv : LookInv n M N x l 0 [] T) (hM : M + l.length ≤ 800000) (hN : N + l.length ≤ 800000) :
    Calls Try.prog 47 #[.pointer (some ⟨b, 0, none⟩), .int .i64 x] w fun e w' => LookPost w B b (lookGo x l [] T) x e w' := by
  obtain ⟨R, hR⟩ : ∃ R, lookGo x l [] T = R := ⟨_, rfl⟩
  rw [hR]
  obtain ⟨j, hj⟩ : ∃ j, sideN x = j := ⟨_, rfl⟩
  have hjw : j < T.W.length := by rw [← hj, hinv.ok.wl]; exact side_lt hinv.xok
  have hn2 := hinv.ok.n2
  have hxok := hinv.xok
  have hs0 : sideI x = ((j : Nat) : Int) := by rw [← hj]; unfold sideN; have : 0 ≤ sideI x := by unfold sideI; split <;> omega
                                               omega
  have HSD : Hid (∀ w, Calls Try.prog 59 #[.int .i64 x] w fun e w' => e = .returned (.int .i64 (j : Nat)) ∧ w' = w) := Lib.hid fun w => by rw [← hs0]; exact side_any x w (by omega)
  obtain ⟨ln, hln⟩ : ∃ ln, l.length = ln := ⟨_, rfl⟩
  obtain ⟨g, c, gw, cw, wl, hv, hlc, cw1, cwj, hgw, hwl⟩ : ∃ g c gw cw wl, val (.W j) = .slice (some ⟨g, 0, none⟩) ln c ∧ ln ≤ c ∧ w.cell? ⟨b, 1, none⟩ = some (.slice (some ⟨gw, 0, none⟩) wl cw) ∧ w.cell? ⟨gw, j, none⟩ = some (.slice (some ⟨g, 0, none⟩) ln c) ∧ gw < w.heap.size ∧ T.W.length = wl := by
    obtain ⟨ct, hm, ht⟩ := h
    obtain ⟨gw, cw, wa, wn, wc, ew, cw1, ewj, cwj, ewl, hgw⟩ := watch_at hm ht j hjw
    have h2 := hm.row (.W j)
    rw [ht.W j, ← hj, hl] at h2
    obtain ⟨g, c, e, hle, _⟩ := h2.at (by rw [ints_len]; exact hl0)
    rw [ints_len, hln] at e hle
    rw [hj] at e
    rw [e] at ewj
    injection ewj with e1 e2 e3
    subst e1 e2 e3
    exact ⟨g, c, gw, cw, _, e, hle, cw1, cwj, hgw, rfl⟩
  have hj1 : (j : Int) < (wl : Int) := by omega
  have hj0 : (0 : Int) ≤ (j : Int) := by omega
  have hW0 : TrailV w B b (setW T j ([] ++ l.drop ([] : List Int).length)) val := by
    have : setW T j l = T := by
      unfold setW
      have e : T.W.set j l = T.W := by rw [← hl, hj, List.getD_eq_getElem?_getD, List.getElem?_eq_getElem hjw, Option.getD_some, List.set_getElem_self]
      rw [e]
    show TrailV w B b (setW T j l) val
    rw [this]; exact h
  have REL0 : Hid (∀ nq, LookRel w B b n M N x l g c R 0 0 (w.drewN nq)) := Lib.hid fun nq => ⟨[], T, val, rfl, hR, hinv, by rw [hj]; exact hW0.below ((Below.refl w.heap.size w).trans ⟨rfl, rfl, rfl, Nat.le_refl _, fun _ _ => rfl⟩) (Nat.le_refl _), by rw [hj, hln]; exact hv, (Keep.refl B w).drewN nq⟩
  have HLN := Lib.hid hln
  have HJ := Lib.hid hj
  have HWL := Lib.hid hwl
  have hlnM : ln ≤ 800000 := by omega
  have hl0' : 0 < ln := by omega
  have HMN := Lib.hid (And.intro hM hN)
  clear hW0 hl hinv hR hln hj hwl hjw hs0 hM hN hv hl0 hn2 hxok h
  have hbW := World.block_lt_of_cell? w _ cw1
  go_enter Try.func47, Try.ntmps47
  go_wp2_with fail
  go_quiet ((go_at_call 59; exact Calls.quiet_of_same (HSD.out _)))
  go_wp2_with fail
  as_aux_lemma =>
  go_loopw [4, 6, 22] (fun _ v6 v22 wr => ∃ i cnt : Nat, v22 = .int .i64 i ∧ v6 = .slice (some ⟨g, 0, none⟩) cnt c ∧ LookRel w B b n M N x l g c R i cnt wr) (fun _ _ v22 _ => ln - (intOf v22).toNat)
  case atStart => exact ⟨0, 0, rfl, rfl, REL0.out _⟩
  case round =>
    clear REL0 cw1 cwj
    obtain ⟨i, cnt, rfl, rfl, HR⟩ := hrel
    by_cases hlt : i < ln
    · obtain ⟨kept, T', val', k, gl, cl, ll, gc, q, oc, ek, hcnt, hci, HI, HG, HKP, HT, HVW, HVC, HKL, HQ, h2q, hqo, ci, cb, ck, hkl, c0, c1, f0, f1⟩ := look_round HR HJ.out HLN.out hlt
      clear HR ek
      have HCN := Lib.hid hcnt
      clear hcnt
      have hi0 : (0 : Int) ≤ (i : Int) := by omega
      have hi1 : (i : Int) < (ln : Int) := by omega
      have hk0 : (0 : Int) ≤ (k : Int) := by omega
      have hq0 : 0 < q := by omega
      have hq1 : 1 < q := by omega
      have hq1' : (1 : Int) < (q : Int) := by omega
      obtain ⟨y0, hy0⟩ : ∃ y0, (T'.L.getD k []).getD 0 0 = y0 := ⟨_, rfl⟩
      obtain ⟨y1, hy1⟩ : ∃ y1, (T'.L.getD k []).getD 1 0 = y1 := ⟨_, rfl⟩
      rw [hy0] at c0
      rw [hy1] at c1
      have HY0 := Lib.hid hy0
      have HY1 := Lib.hid hy1
      clear hy0 hy1
      as_aux_lemma =>
      go_upto_if 38 with (fail)
      go_cut [] (fun wx => Hid (TrailV wx B b (look1 x k (setW T' j (kept ++ l.drop kept.length))) val' ∧ Keep B w wx))
      case first =>
        by_cases hx0 : y0 = x
        · subst hx0
          obtain ⟨T3, K3⟩ := HT.out.swap (show k < (setW T' j _).L.length from HKL.out) rfl HVC.out 0 1
          have H3 : Hid (TrailV ((wr.setCell ⟨gc, 0, none⟩ (.int .i64 y1)).setCell ⟨gc, 1, none⟩ (.int .i64 y0)).drew B b (look1 y0 k (setW T' j (kept ++ l.drop kept.length))) val' ∧ Keep B w ((wr.setCell ⟨gc, 0, none⟩ (.int .i64 y1)).setCell ⟨gc, 1, none⟩ (.int .i64 y0)).drew) := Lib.hid (by
            have e1 : look1 y0 k (setW T' j (kept ++ l.drop kept.length)) = swT (setW T' j (kept ++ l.drop kept.length)) k 0 1 := if_pos HY0.out
            rw [e1, ← HY0.out, ← HY1.out]
            exact ⟨T3, HKP.out.trans K3⟩)
          clear T3 K3
          go_wp2_with fail
          go_big_region
          go_wp2_with fail
          go_meet
          exact H3
        · have hd : (y0 == x) = false := by simpa using hx0
          have H3 : Hid (TrailV wr B b (look1 x k (setW T' j (kept ++ l.drop kept.length))) val' ∧ Keep B w wr) := Lib.hid (by
            have e1 : look1 x k (setW T' j (kept ++ l.drop kept.length)) = setW T' j (kept ++ l.drop kept.length) := if_neg (by rw [show (setW T' j (kept ++ l.drop kept.length)).L = T'.L from rfl, HY0.out]; exact hx0)
            rw [e1]; exact ⟨HT.out, HKP.out⟩)
          clear hx0
          go_wp2_with fail
          go_meet
          exact H3
      case rest =>
        obtain ⟨ht1, hk1⟩ := hcut.out
        obtain ⟨T1, y, ET, I1, EY, HTm, hy, HK2, HCY, HV, HO⟩ := look_mid HI.out HKL.out HQ.out h2q ht1 HVC.out HMN.out.1 (by rw [HLN.out]; exact hlt) HJ.out
        have HK1 := Lib.hid hk1
        have HB1 : Hid (There B wc) := Lib.hid (by obtain ⟨_, hm, _⟩ := HTm.out; exact hm.lt)
        have HG2 : Hid (lookMid x k (l.drop (i + 1)) kept T1 = R) := Lib.hid (by rw [ET.out, ← lookGo_mid]; exact HG.out)
        have HJW : Hid (j < T1.W.length) := Lib.hid (by rw [← HJ.out, I1.out.ok.wl]; exact side_lt I1.out.xok)
        have hc0 := HCY.out wc _ _ HTm.out rfl HVC.out
        have hil : Hid (i < l.length) := Lib.hid (by rw [HLN.out]; exact hlt)
        obtain ⟨v, hv⟩ : ∃ v, valOf T1 y = v := ⟨_, rfl⟩
        have HV1 : Hid (∀ w' ms val2, TrailV w' B b (setW T1 j ms) val2 → Calls Try.prog 24 #[.pointer (some ⟨b, 0, none⟩), .int .i64 y] w' fun e w2 => e = .returned (.int .i64 v) ∧ Below w'.heap.size w' w2) := Lib.hid (by rw [← hv]; exact HV.out)
        have h3 := valOf_three I1.out.ok.small y
        rw [hv] at h3
        have EV := Lib.hid hv
        have HYN := Lib.hid hy
        clear hcut ht1 hk1 ET HT HI HG HKP HY0 HY1 HV hv hy c0 c1 f0 f1 ci cb ck HKL HQ
        generalize wc = wc at *
        by_cases hv1 : v = 1
        · subst hv1
          have HGO : Hid (lookGo x (l.drop (i + 1)) (kept ++ [(k : Int)]) T1 = R) := Lib.hid (by
            have := HG2.out
            unfold lookMid at this
            rw [EY.out, EV.out, if_neg (by omega)] at this
            exact this)
          clear h3 HO HG2
          as_aux_lemma =>
          go_wp2_with fail
          go_at_call 24
          refine (HV1.out _ _ _ HTm.out).mono ?_
          rintro e w1 ⟨rfl, h1⟩
          have HT2 : Hid (TrailV w1 B b (setW T1 j (kept ++ l.drop kept.length)) val') := Lib.hid (HTm.out.below h1 (Nat.le_refl _))
          have HK3 : Hid (Keep B w w1) := Lib.hid (HK1.out.below h1 HB1.out)
          clear h1
          obtain ⟨ha, hs⟩ := look_kept HT2.out HVW.out HJW.out HLN.out HCN.out (by omega) (k : Int)
          have HA := Lib.hid ha
          have HS := Lib.hid hs
          clear ha hs
          go_wp2_with (at_builtin; refine wpList_app_room rfl (.tmp 60) (.tmp 62) rfl g cnt c rfl (k : Int) _ rfl (cell_of_one (heap_alloc_new _ _)) (by omega) (HA.out _).1 (HA.out _).2 ?_; obtain ⟨t5, k5⟩ := HS.out (.cells #[.int .i64 k] 3); have HT5 := Lib.hid t5; have HK5 : Hid (Keep B w ((w1.alloc (.cells #[.int .i64 k] 3)).setCell ⟨g, cnt, none⟩ (.int .i64 k))) := Lib.hid (HK3.out.trans k5); clear t5 k5 HS HA; generalize (w1.alloc (.cells #[.int .i64 k] 3)).setCell ⟨g, cnt, none⟩ (.int .i64 k) = w5 at *; have c05 := HCY.out w5 _ _ HT5.out rfl HVC.out)
          go_wp2_with fail
          go_at_call 24
          refine (HV1.out _ _ _ HT5.out).mono ?_
          rintro e w6 ⟨rfl, h6⟩
          have HT6 : Hid (TrailV w6 B b (setW T1 j ((kept ++ [(k : Int)]) ++ l.drop (kept ++ [(k : Int)]).length)) val') := Lib.hid (HT5.out.below h6 (Nat.le_refl _))
          have HK6 : Hid (Keep B w w6) := Lib.hid (HK5.out.below h6 (by obtain ⟨_, hm, _⟩ := HT5.out; exact hm.lt))
          have c06 := HCY.out w6 _ _ HT6.out rfl HVC.out
          clear h6 c05
          go_wp2_with fail
          go_roundw
          case rel => exact ⟨i + 1, cnt + 1, by go_num, rfl, LookRel.of HJ.out HLN.out HGO.out (I1.out.keep hil.out k) HT6.out HVW.out HK6.out (by rw [List.length_append, HCN.out]; rfl)⟩
          case measure => simp [intOf]; omega
        · have hvn : v < 1 := by omega
          by_cases hoth : otherI T1 (T1.L.getD k []) < q
          · obtain ⟨os1, os2, os3, os4⟩ := otherI_spec T1 (T1.L.getD k []) (by rw [HK2.out.2]; exact h2q)
            have hgood := os4 (by rw [HK2.out.2]; exact hoth)
            have HGO : Hid (lookGo x (l.drop (i + 1)) kept (otherT T1 k (otherI T1 (T1.L.getD k []))) = R) := Lib.hid (by
              have := HG2.out
              unfold lookMid at this
              rw [EY.out, EV.out, if_pos (by omega), HK2.out.2, if_pos hoth] at this
              exact this)
            have HI2 : Hid (LookInv n M N x l (i + 1) kept (otherT T1 k (otherI T1 (T1.L.getD k [])))) := Lib.hid (I1.out.next hil.out os1 (by rw [HK2.out.2]; exact hoth))
            have hne : sideN ((T1.L.getD k []).getD (otherI T1 (T1.L.getD k [])) 0) ≠ j := fun e => by
              have hz := (I1.out.ok.clause k).2 _ (mem_getD (d := 0) (show otherI T1 (T1.L.getD k []) < (T1.L.getD k []).length by rw [HK2.out.2]; exact hoth))
              have hxx := I1.out.xok
              have e2 := side_inj (by omega) (by omega) (e.trans HJ.out.symm)
              unfold goodI at hgood
              rw [e2, I1.out.neg] at hgood
              simp at hgood
            have HNE := Lib.hid hne
            have HOT := Lib.hid hoth
            clear h3 HG2 os1 os2 os3 os4 hgood hne hoth hv1
            as_aux_lemma =>
            go_wp2_with fail
            go_at_call 24
            refine (HV1.out _ _ _ HTm.out).mono ?_
            rintro e w1 ⟨rfl, h1⟩
            have HT2 : Hid (TrailV w1 B b (setW T1 j (kept ++ l.drop kept.length)) val') := Lib.hid (HTm.out.below h1 (Nat.le_refl _))
            have HK3 : Hid (Keep B w w1) := Lib.hid (HK1.out.below h1 HB1.out)
            clear h1
            go_wp2_with fail
            go_at_call 63
            refine (HO.out _ HT2.out).mono ?_
            rintro e w2 hp
            obtain ⟨rfl, k2, v2, t2⟩ := hp.2 HOT.out
            rw [otherT_setW _ _ _ _ _ HNE.out] at t2
            have HT3 := Lib.hid t2
            have HK4 : Hid (Keep B w w2) := Lib.hid (HK3.out.trans k2)
            clear t2 k2 hp
            go_wp2_with fail
            go_roundw
            case rel => exact ⟨i + 1, cnt, by go_num, rfl, LookRel.of HJ.out HLN.out HGO.out HI2.out HT3.out (by rw [upS_other _ _ (by intro e; injection e with e; exact HNE.out e.symm)]; exact HVW.out) HK4.out HCN.out⟩
            case measure => simp [intOf]; omega
          · have HOE : Hid (otherI T1 (T1.L.getD k []) = q) := Lib.hid (by
              have := (otherI_spec T1 (T1.L.getD k []) (by rw [HK2.out.2]; exact h2q)).2.1
              rw [HK2.out.2] at this; omega)
            by_cases hv0 : v = 0
            · subst hv0
              have HGO : Hid (lookGo x (l.drop (i + 1)) (kept ++ [(k : Int)]) (makeT T1 y k) = R) := Lib.hid (by
                have := HG2.out
                unfold lookMid at this
                rw [EY.out, EV.out, if_pos (by omega), HK2.out.2, HOE.out, if_neg (by omega), if_pos rfl] at this
                exact this)
              clear h3 HG2 hoth hv1 hvn
              as_aux_lemma =>
              go_wp2_with fail
              go_at_call 24
              refine (HV1.out _ _ _ HTm.out).mono ?_
              rintro e w1 ⟨rfl, h1⟩
              have HT2 : Hid (TrailV w1 B b (setW T1 j (kept ++ l.drop kept.length)) val') := Lib.hid (HTm.out.below h1 (Nat.le_refl _))
              have HK3 : Hid (Keep B w w1) := Lib.hid (HK1.out.below h1 HB1.out)
              clear h1
              go_wp2_with fail
              go_at_call 63
              refine (HO.out _ HT2.out).mono ?_
              rintro e w2 hp
              obtain ⟨rfl, h2⟩ := hp.1 HOE.out
              have HT3 : Hid (TrailV w2 B b (setW T1 j (kept ++ l.drop kept.length)) val') := Lib.hid (HT2.out.below h2 (Nat.le_refl _))
              have HK4 : Hid (Keep B w w2) := Lib.hid (HK3.out.below h2 (by obtain ⟨_, hm, _⟩ := HT2.out; exact hm.lt))
              clear h2 hp
              obtain ⟨ha, hs⟩ := look_kept HT3.out HVW.out HJW.out HLN.out HCN.out (by omega) (k : Int)
              have HA := Lib.hid ha
              have HS := Lib.hid hs
              clear ha hs
              go_wp2_with (at_builtin; refine wpList_app_room rfl (.tmp 60) (.tmp 62) rfl g cnt c rfl (k : Int) _ rfl (cell_of_one (heap_alloc_new _ _)) (by omega) (HA.out _).1 (HA.out _).2 ?_; obtain ⟨t5, k5⟩ := HS.out (.cells #[.int .i64 k] 3); have HT5 := Lib.hid t5; have HK5 : Hid (Keep B w ((w2.alloc (.cells #[.int .i64 k] 3)).setCell ⟨g, cnt, none⟩ (.int .i64 k))) := Lib.hid (HK4.out.trans k5); clear t5 k5 HS HA; generalize (w2.alloc (.cells #[.int .i64 k] 3)).setCell ⟨g, cnt, none⟩ (.int .i64 k) = w5 at *; have c05 := HCY.out w5 _ _ HT5.out rfl HVC.out)
              go_wp2_with fail
              go_at_call 24
              refine (HV1.out _ _ _ HT5.out).mono ?_
              rintro e w6 ⟨rfl, h6⟩
              have HT6 : Hid (TrailV w6 B b (setW T1 j ((kept ++ [(k : Int)]) ++ l.drop (kept ++ [(k : Int)]).length)) val') := Lib.hid (HT5.out.below h6 (Nat.le_refl _))
              have HK6 : Hid (Keep B w w6) := Lib.hid (HK5.out.below h6 (by obtain ⟨_, hm, _⟩ := HT5.out; exact hm.lt))
              have c06 := HCY.out w6 _ _ HT6.out rfl HVC.out
              clear h6 c05
              go_wp2_with fail
              go_at_call 45
              refine (make_val HT6.out y (k : Int) (by rw [show (setW T1 j _).F = T1.F from rfl, I1.out.ok.fl]; exact HYN.out) (by rw [show (setW T1 j _).F = T1.F from rfl, I1.out.ok.fl]; exact I1.out.ok.n2) (by have h1 := I1.out.lits; have h2 := HMN.out.2; have h3 := I1.out.il; show T1.lits.length ≤ 900000; omega)).mono ?_
              rintro e w7 ⟨rfl, k7, v7, t7⟩
              rw [makeT_setW] at t7
              have HT7 := Lib.hid t7
              have HK7 : Hid (Keep B w w7) := Lib.hid (HK6.out.trans k7)
              clear t7 k7 c06
              go_wp2_with fail
              go_roundw
              case rel => exact ⟨i + 1, cnt + 1, by go_num, rfl, LookRel.of HJ.out HLN.out HGO.out (I1.out.make hil.out y k HYN.out EV.out) HT7.out (by rw [upS_other _ _ (by simp)]; exact HVW.out) HK7.out (by rw [List.length_append, HCN.out]; rfl)⟩
              case measure => simp [intOf]; omega
            · obtain rfl : v = -1 := by omega
              have HGO : Hid ((((k : Nat) : Int), kept ++ (k : Int) :: l.drop (i + 1), T1) = R) := Lib.hid (by
                have := HG2.out
                unfold lookMid at this
                rw [EY.out, EV.out, if_pos (by omega), HK2.out.2, HOE.out, if_neg (by omega), if_neg (by omega)] at this
                exact this)
              clear h3 HG2 hoth hv1 hvn hv0
              as_aux_lemma =>
              go_wp2_with fail
              go_at_call 24
              refine (HV1.out _ _ _ HTm.out).mono ?_
              rintro e w1 ⟨rfl, h1⟩
              have HT2 : Hid (TrailV w1 B b (setW T1 j (kept ++ l.drop kept.length)) val') := Lib.hid (HTm.out.below h1 (Nat.le_refl _))
              have HK3 : Hid (Keep B w w1) := Lib.hid (HK1.out.below h1 HB1.out)
              clear h1
              go_wp2_with fail
              go_at_call 63
              refine (HO.out _ HT2.out).mono ?_
              rintro e w2 hp
              obtain ⟨rfl, h2⟩ := hp.1 HOE.out
              have HT3 : Hid (TrailV w2 B b (setW T1 j (kept ++ l.drop kept.length)) val') := Lib.hid (HT2.out.below h2 (Nat.le_refl _))
              have HK4 : Hid (Keep B w w2) := Lib.hid (HK3.out.below h2 (by obtain ⟨_, hm, _⟩ := HT2.out; exact hm.lt))
              clear h2 hp
              obtain ⟨ha, hs⟩ := look_kept HT3.out HVW.out HJW.out HLN.out HCN.out (by omega) (k : Int)
              have HA := Lib.hid ha
              have HS := Lib.hid hs
              clear ha hs
              go_wp2_with (at_builtin; refine wpList_app_room rfl (.tmp 60) (.tmp 62) rfl g cnt c rfl (k : Int) _ rfl (cell_of_one (heap_alloc_new _ _)) (by omega) (HA.out _).1 (HA.out _).2 ?_; obtain ⟨t5, k5⟩ := HS.out (.cells #[.int .i64 k] 3); have HT5 := Lib.hid t5; have HK5 : Hid (Keep B w ((w2.alloc (.cells #[.int .i64 k] 3)).setCell ⟨g, cnt, none⟩ (.int .i64 k))) := Lib.hid (HK4.out.trans k5); clear t5 k5 HS HA; generalize (w2.alloc (.cells #[.int .i64 k] 3)).setCell ⟨g, cnt, none⟩ (.int .i64 k) = w5 at *; have c05 := HCY.out w5 _ _ HT5.out rfl HVC.out)
              go_wp2_with fail
              go_at_call 24
              refine (HV1.out _ _ _ HT5.out).mono ?_
              rintro e w6 ⟨rfl, h6⟩
              have HT6 : Hid (TrailV w6 B b (setW T1 j ((kept ++ [(k : Int)]) ++ l.drop (kept ++ [(k : Int)]).length)) val') := Lib.hid (HT5.out.below h6 (Nat.le_refl _))
              have HK6 : Hid (Keep B w w6) := Lib.hid (HK5.out.below h6 (by obtain ⟨_, hm, _⟩ := HT5.out; exact hm.lt))
              have c06 := HCY.out w6 _ _ HT6.out rfl HVC.out
              clear h6 c05
              obtain ⟨gw5, cw5, wl5, ad, u0, hb5, hgw5, hg5, cw5', hj50, hj51, HA5, had, HN5, HYL, HRM, HC5, HW3, HW4, HW5, HFB, HF⟩ := rest_facts (m := i + 1) HT6.out HVW.out HJW.out HLN.out hlc (show (kept ++ [(k : Int)]).length = cnt + 1 from by rw [List.length_append, HCN.out]; rfl) (by omega) (by omega) (by omega)
              have hw1 : IntKind.i64.wrap ((i : Int) + 1) = ((i + 1 : Nat) : Int) := by rw [wrap_i64 (by omega)]; omega
              go_wp2_with fail
              refine look_rest _ _ _ _ _ _ _ _ _ _ _ _ _ _ _ _ _ _ _ _ _ _ _ _ _ _ _ _ _ _ _ _ _ _ _ _ _ _ _ _ _ _ _ _ _ _ _ _ _ _ _ _ _ _ _ _ _ _ _ _ _ _ _ _ _ _ _ _ _ _ _ _ _ _ _ _ _ _ _ _ _ _ _ _ _ _ _ _ _ _ _ _ _ _ _ _ _ _ hb5 hgw5 hg5 cw5' hj50 hj51 hw1 (by omega) hlc HA5 had HN5 HYL HRM HC5 HW3 HW4 HW5 HFB HSD ?_
              intro v79 v80 v81 v82 v83 v84 v85 v86 v87 v88 v89 v90 v91 w9 ew9
              subst ew9
              clear HW3 HW4 HW5 had hw1 cw5'
              go_wp2_with fail
              go_ret
              obtain ⟨t9, k9⟩ := HF.out
              refine ⟨by rw [← HGO.out]; rfl, HK6.out.trans k9, ?_⟩
              rw [← HGO.out, HJ.out]
              rw [List.append_assoc] at t9
              exact t9
    · obtain rfl : i = ln := by
        obtain ⟨_, _, _, _, _, hi, _⟩ := HR
        have := hi.il
        rw [HLN.out] at this
        omega
      obtain ⟨kept, T', val', hcnt, hgo, hi, htr, hv', hkp⟩ := HR
      rw [HJ.out] at htr hv'
      rw [HLN.out] at hv'
      have hjw : j < T'.W.length := by rw [← HJ.out, hi.ok.wl]; exact side_lt hi.xok
      rw [List.drop_of_length_le (by rw [HLN.out]; exact Nat.le_refl _)] at hgo
      have HGO : Hid (((-1 : Int), kept, T') = R) := Lib.hid hgo
      have hcl : cnt ≤ i := by have := hi.kl; omega
      obtain ⟨gw5, cw5, wl5, u0, hb5, hgw5, cw5', cj5, f5, hj50, hj51, HA5, HFB, HF⟩ := end_facts htr hv' hjw HLN.out hcnt hcl
      have HKP := Lib.hid hkp
      clear hcnt hgo hi htr hv' hkp hjw
      go_wp2_with fail
      refine look_store _ _ _ _ _ _ _ _ _ _ _ _ _ _ _ _ _ _ _ _ _ _ _ _ _ _ _ _ _ _ _ _ _ _ _ _ _ _ _ _ _ _ _ _ _ _ _ _ _ _ _ _ _ _ _ _ _ _ _ _ _ _ _ _ _ _ _ _ _ _ _ _ _ _ _ _ _ _ _ _ _ _ _ _ _ _ _ _ _ _ _ _ _ _ _ _ _ _ _ _ hb5 hgw5 cw5' cj5 f5 hj50 hj51 HA5 HFB HSD ?_
      intro v94 v95 v96 v97 v98 v99 v100 v101 w9 ew9
      subst ew9
      clear cw5' cj5 f5
      go_wp2_with fail
      go_ret
      obtain ⟨t9, k9⟩ := HF.out
      refine ⟨by rw [← HGO.out]; rfl, HKP.out.trans k9, ?_⟩
      rw [← HGO.out, HJ.out]
      exact t9
end Go.Proofs.Ytngegkgmenfelaa
