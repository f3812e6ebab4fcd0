/-
  The document's trail: Decide.
-/
import Derived.Test.YtngegkgmenfelaaRf
namespace Go.Proofs.Ytngegkgmenfelaa
open Go.RowKit Go.Lib
attribute [local go_sem ↓] Go.wp_at_zero Go.wp_at_succ

theorem step_appS {ops : Array Oper} {o : Oper} {A : Act} {w : World} {K : Act → World → Prop} {Q : Exit → Act → World → Prop} {E : Prop} (hgd : o.guard = none) (s x : Operand)
    (ho : o.op = .call { callee := .builtin .append, args := #[s, x], argTypes := #[23, 23] }) (v : Value) (xs news : List Value) (hs : A.eval s = v) (hr : Row w 3 1 v xs)
    (a : Option Addr) (m c : Nat) (hx : A.eval x = .slice a m c) (hsrc : Source w a m news) (hm : news.length = m) (h1 : ∀ u ∈ news, u.oneCell' = true) (hlen : xs.length + m ≤ 1000000)
    (h : ∀ v' w', Row w' 3 1 v' (xs ++ news) → Grew w w' v v' → K (A.put o.dst v') w') : if Region.wanted o (yielded ops A.tmps) = true then Oper.wp Try.prog o A w K Q else E := by
  have hw : Region.wanted o (yielded ops A.tmps) = true := by simp [Region.wanted, hgd]
  rw [if_pos hw]
  obtain ⟨v', w', hrun, q1, q2⟩ := runApp3 (c := c) o.type hr hsrc hm h1 hlen
  have := h v' w' q1 q2
  unfold Oper.wp
  simp [execOp, ho, resolve, invoke, builtin, hs, hx, hrun, Result.andThen]
  exact this

set_option maxRecDepth 100000 in
set_option maxHeartbeats 4000000 in
theorem decide_known {w : World} {p kl kc al ac : Nat} {ka aa : Option Addr} {xsA : List Value} {RP : World → Prop} (u1 u2 u3 u4 u5 u6 u7 u8 u9 u10 u11 u12 u13 u14 u15 u16 u17 u18 u19 u20 u21 u22 u23 u24 u25 u26 u27 u28 u29 u30 u31 u32 u33 u34 u35 u36 u37 u38 u39 u40 u41 u42 u43 u44 u45 u46 u47 u48 u49 u50 u51 u52 u53 u54 u55 u56 u57 u58 u59 u60 u61 u62 u63 u64 u65 u66 u67 u68 u69 u70 u71 : Value) (Q : Exit → Act → World → Prop) (hp : p < w.heap.size) (c3 : w.cell? ⟨p, 3, none⟩ = some (.slice ka kl kc)) (HC : Hid (∀ w', Below w.heap.size w w' → w'.cell? ⟨p, 4, none⟩ = some (.slice aa al ac)))
    (RE : Hid (Row (w.alloc (.cells #[] 3)).drew 3 1 (.slice (some ⟨w.heap.size, 0, none⟩) 0 0) [])) (HSRC : Hid (Source (w.alloc (.cells #[] 3)).drew aa al xsA)) (HAL : Hid (xsA.length = al)) (HA1 : Hid (∀ u ∈ xsA, u.oneCell' = true)) (HA2 : Hid (([] : List Value).length + al ≤ 1000000))
    (PK : Hid (∀ v1 w1, Row w1 3 1 v1 ([] ++ xsA) → Grew (w.alloc (.cells #[] 3)).drew w1 (.slice (some ⟨w.heap.size, 0, none⟩) 0 0) v1 → ∃ a1 l1 c1, v1 = .slice a1 l1 c1 ∧ Below w.heap.size w w1 ∧ w1.cell? ⟨p, 3, none⟩ = some (.slice ka kl kc) ∧ (w1.alloc (.cells #[.slice a1 l1 c1] 23)).cell? ⟨p, 3, none⟩ = some (.slice ka kl kc) ∧
      ∃ xs, Hid (Row (w1.alloc (.cells #[.slice a1 l1 c1] 23)) 23 1 (.slice ka kl kc) xs) ∧ Hid (xs.length + 1 ≤ 1000000) ∧ Hid (Row (w1.alloc (.cells #[.slice a1 l1 c1] 23)) 23 1 (.slice (some ⟨w1.heap.size, 0, none⟩) 1 1) [.slice a1 l1 c1]) ∧
      Hid (∀ v2 w2, Row w2 23 1 v2 (xs ++ [.slice a1 l1 c1]) → Grew (w1.alloc (.cells #[.slice a1 l1 c1] 23)) w2 (.slice ka kl kc) v2 → ∃ a2 l2 c2, v2 = .slice a2 l2 c2 ∧ w2.cell? ⟨p, 3, none⟩ = some (.slice ka kl kc) ∧ w2.frozen? ⟨p, 3, none⟩ = false ∧
        w2.cell? ⟨p, 4, none⟩ = some (.slice aa al ac) ∧ (w2.setCell ⟨p, 3, none⟩ (.slice a2 l2 c2)).cell? ⟨p, 4, none⟩ = some (.slice aa al ac) ∧ Hid (RP (w2.setCell ⟨p, 3, none⟩ (.slice a2 l2 c2))))))
    (hQ : ∀ (v32 v33 v34 v35 v36 v37 v38 v39 v40 v41 v42 v43 v44 v45 v46 : Value) (w' : World), RP w' → Q .normal ⟨#[.pointer (some ⟨p, 0, none⟩), u1, u2, u3, u4, u5, u6, u7, u8, u9, u10, u11, u12, u13, u14, u15, u16, u17, u18, u19, u20, u21, u22, u23, u24, u25, u26, u27, u28, u29, u30, u31, v32, v33, v34, v35, v36, v37, v38, v39, v40, v41, v42, v43, v44, v45, v46, u47, u48, u49, u50, u51, u52, u53, u54, u55, u56, u57, u58, u59, u60, u61, u62, u63, u64, u65, u66, u67, u68, u69, u70, u71], []⟩ w') :
    (Code.region 7 #[{ dst := some 32, op := Op.move (Operand.tmp 0), type := 38, pos := "ref.go:50", after := #[], guard := none }, { dst := some 33, op := Op.move (Operand.tmp 0), type := 38, pos := "ref.go:50", after := #[], guard := none }, { dst := some 34, op := Op.nilCheck (Operand.tmp 33), type := 0, pos := "ref.go:50", after := #[{ on := 1, ground := Ground.data }], guard := none }, { dst := some 35, op := Op.fieldAddr 48 (Operand.tmp 34) 3, type := 0, pos := "ref.go:50", after := #[{ on := 2, ground := Ground.data }], guard := none }, { dst := some 36, op := Op.load 22 (Operand.tmp 35), type := 22, pos := "ref.go:50", after := #[{ on := 3, ground := Ground.data }], guard := none }, { dst := some 37, op := Op.buildSlice 23 0 #[], type := 23, pos := "ref.go:50", after := #[], guard := none }, { dst := some 38, op := Op.move (Operand.tmp 0), type := 38, pos := "ref.go:50", after := #[], guard := none }, { dst := some 39, op := Op.nilCheck (Operand.tmp 38), type := 0, pos := "ref.go:50", after := #[{ on := 6, ground := Ground.data }], guard := none }, { dst := some 40, op := Op.fieldAddr 48 (Operand.tmp 39) 4, type := 0, pos := "ref.go:50", after := #[{ on := 7, ground := Ground.data }], guard := none }, { dst := some 41, op := Op.load 23 (Operand.tmp 40), type := 23, pos := "ref.go:50", after := #[{ on := 8, ground := Ground.data }], guard := none }, { dst := some 42, op := Op.call { callee := Callee.builtin Builtin.append, args := #[Operand.tmp 37, Operand.tmp 41], argTypes := #[23, 23] }, type := 23, pos := "ref.go:50", after := #[{ on := 5, ground := Ground.data }, { on := 9, ground := Ground.data }], guard := none }, { dst := some 43, op := Op.buildSlice 22 1 #[(0, Operand.tmp 42)], type := 22, pos := "ref.go:50", after := #[{ on := 10, ground := Ground.data }], guard := none }, { dst := some 44, op := Op.call { callee := Callee.builtin Builtin.append, args := #[Operand.tmp 36, Operand.tmp 43], argTypes := #[22, 22] }, type := 22, pos := "ref.go:50", after := #[{ on := 4, ground := Ground.data }, { on := 11, ground := Ground.data }, { on := 10, ground := Ground.chain }], guard := none }, { dst := some 45, op := Op.nilCheck (Operand.tmp 32), type := 0, pos := "ref.go:50", after := #[{ on := 0, ground := Ground.data }, { on := 0, ground := Ground.phase }, { on := 1, ground := Ground.phase }, { on := 2, ground := Ground.phase }, { on := 3, ground := Ground.phase }, { on := 4, ground := Ground.phase }, { on := 5, ground := Ground.phase }, { on := 6, ground := Ground.phase }, { on := 7, ground := Ground.phase }, { on := 8, ground := Ground.phase }, { on := 9, ground := Ground.phase }, { on := 10, ground := Ground.phase }, { on := 11, ground := Ground.phase }, { on := 12, ground := Ground.phase }], guard := none }, { dst := some 46, op := Op.fieldAddr 48 (Operand.tmp 45) 3, type := 0, pos := "ref.go:50", after := #[{ on := 13, ground := Ground.data }, { on := 0, ground := Ground.phase }, { on := 1, ground := Ground.phase }, { on := 2, ground := Ground.phase }, { on := 3, ground := Ground.phase }, { on := 4, ground := Ground.phase }, { on := 5, ground := Ground.phase }, { on := 6, ground := Ground.phase }, { on := 7, ground := Ground.phase }, { on := 8, ground := Ground.phase }, { on := 9, ground := Ground.phase }, { on := 10, ground := Ground.phase }, { on := 11, ground := Ground.phase }, { on := 12, ground := Ground.phase }], guard := none }, { dst := none, op := Op.store 22 (Operand.tmp 46) (Operand.tmp 44), type := 0, pos := "ref.go:50", after := #[{ on := 14, ground := Ground.data }, { on := 12, ground := Ground.data }, { on := 12, ground := Ground.chain }, { on := 0, ground := Ground.phase }, { on := 1, ground := Ground.phase }, { on := 2, ground := Ground.phase }, { on := 3, ground := Ground.phase }, { on := 4, ground := Ground.phase }, { on := 5, ground := Ground.phase }, { on := 6, ground := Ground.phase }, { on := 7, ground := Ground.phase }, { on := 8, ground := Ground.phase }, { on := 9, ground := Ground.phase }, { on := 10, ground := Ground.phase }, { on := 11, ground := Ground.phase }, { on := 12, ground := Ground.phase }], guard := none }] true).wp Try.prog Q ⟨#[.pointer (some ⟨p, 0, none⟩), u1, u2, u3, u4, u5, u6, u7, u8, u9, u10, u11, u12, u13, u14, u15, u16, u17, u18, u19, u20, u21, u22, u23, u24, u25, u26, u27, u28, u29, u30, u31, u32, u33, u34, u35, u36, u37, u38, u39, u40, u41, u42, u43, u44, u45, u46, u47, u48, u49, u50, u51, u52, u53, u54, u55, u56, u57, u58, u59, u60, u61, u62, u63, u64, u65, u66, u67, u68, u69, u70, u71], []⟩ w := by
  refine wp_region_noPanic ?_
  refine wp_region_held_drew (S := (fun w' => w'.cell? ⟨p, 4, none⟩ = some (.slice aa al ac))) (by kernel_rfl) ?_ (fun hHeld => ?_)
  · (try dsimp only)
    first | (with_reducible assumption) | (with_reducible exact HC.out _ (Below.refl _ _)) | (with_reducible exact HC.out _ ((Below.refl _ _).drew)) | (with_reducible exact HC.out _ (((Below.refl _ _).alloc (Nat.le_refl _) _).drew)) | (with_reducible exact HC.out _ b1) | (with_reducible exact HC.out _ (b1.alloc b1.size _))
  refine wpAnyH_take (i := 0) (v := ?_) rfl (by kernel_rfl) (by kernel_rfl) (by kernel_rfl) (fun _ _ _ h => h) (Or.inl ⟨by kernel_rfl, ?_⟩) (by assumption) ?_
  rotate_left
  · intro w hSw
    (try dsimp only at hSw)
    go_simp
    (try with_reducible rfl)
  (try simp only [Act.put, List.getElem_toArray, List.getElem_cons_zero, List.getElem_cons_succ, List.setIfInBounds_toArray, List.set_cons_zero, List.set_cons_succ])
  refine wpAnyH_take (i := 1) (v := ?_) rfl (by kernel_rfl) (by kernel_rfl) (by kernel_rfl) (fun _ _ _ h => h) (Or.inl ⟨by kernel_rfl, ?_⟩) (by assumption) ?_
  rotate_left
  · intro w hSw
    (try dsimp only at hSw)
    go_simp
    (try with_reducible rfl)
  (try simp only [Act.put, List.getElem_toArray, List.getElem_cons_zero, List.getElem_cons_succ, List.setIfInBounds_toArray, List.set_cons_zero, List.set_cons_succ])
  refine wpAnyH_take (i := 2) (v := ?_) rfl (by kernel_rfl) (by kernel_rfl) (by kernel_rfl) (fun _ _ _ h => h) (Or.inl ⟨by kernel_rfl, ?_⟩) (by assumption) ?_
  rotate_left
  · intro w hSw
    (try dsimp only at hSw)
    go_simp
    (try with_reducible rfl)
  (try simp only [Act.put, List.getElem_toArray, List.getElem_cons_zero, List.getElem_cons_succ, List.setIfInBounds_toArray, List.set_cons_zero, List.set_cons_succ])
  refine wpAnyH_take (i := 3) (v := ?_) rfl (by kernel_rfl) (by kernel_rfl) (by kernel_rfl) (fun _ _ _ h => h) (Or.inl ⟨by kernel_rfl, ?_⟩) (by assumption) ?_
  rotate_left
  · intro w hSw
    (try dsimp only at hSw)
    go_simp
    (try with_reducible rfl)
  (try simp only [Act.put, List.getElem_toArray, List.getElem_cons_zero, List.getElem_cons_succ, List.setIfInBounds_toArray, List.set_cons_zero, List.set_cons_succ])
  refine wpAnyH_take (i := 6) (v := ?_) rfl (by kernel_rfl) (by kernel_rfl) (by kernel_rfl) (fun _ _ _ h => h) (Or.inl ⟨by kernel_rfl, ?_⟩) (by assumption) ?_
  rotate_left
  · intro w hSw
    (try dsimp only at hSw)
    go_simp
    (try with_reducible rfl)
  (try simp only [Act.put, List.getElem_toArray, List.getElem_cons_zero, List.getElem_cons_succ, List.setIfInBounds_toArray, List.set_cons_zero, List.set_cons_succ])
  refine wpAnyH_take (i := 7) (v := ?_) rfl (by kernel_rfl) (by kernel_rfl) (by kernel_rfl) (fun _ _ _ h => h) (Or.inl ⟨by kernel_rfl, ?_⟩) (by assumption) ?_
  rotate_left
  · intro w hSw
    (try dsimp only at hSw)
    go_simp
    (try with_reducible rfl)
  (try simp only [Act.put, List.getElem_toArray, List.getElem_cons_zero, List.getElem_cons_succ, List.setIfInBounds_toArray, List.set_cons_zero, List.set_cons_succ])
  refine wpAnyH_take (i := 8) (v := ?_) rfl (by kernel_rfl) (by kernel_rfl) (by kernel_rfl) (fun _ _ _ h => h) (Or.inl ⟨by kernel_rfl, ?_⟩) (by assumption) ?_
  rotate_left
  · intro w hSw
    (try dsimp only at hSw)
    go_simp
    (try with_reducible rfl)
  (try simp only [Act.put, List.getElem_toArray, List.getElem_cons_zero, List.getElem_cons_succ, List.setIfInBounds_toArray, List.set_cons_zero, List.set_cons_succ])
  refine wpAnyH_take (i := 9) (v := ?_) rfl (by kernel_rfl) (by kernel_rfl) (by kernel_rfl) (fun _ _ _ h => h) (Or.inl ⟨by kernel_rfl, ?_⟩) (by assumption) ?_
  rotate_left
  · intro w hSw
    (try dsimp only at hSw)
    go_simp
    (try with_reducible rfl)
  (try simp only [Act.put, List.getElem_toArray, List.getElem_cons_zero, List.getElem_cons_succ, List.setIfInBounds_toArray, List.set_cons_zero, List.set_cons_succ])
  refine wpAnyH_ready (rs := [4, 5]) (by kernel_rfl) (by simp) ?_
  refine AllReadyH.cons rfl (fun K hK => ?_) ?_
  rotate_left
  refine AllReadyH.cons rfl (fun K hK => ?_) ?_
  rotate_left
  exact AllReadyH.nil
  · go_simp
    refine hK.out _ _ ?_ (fun hHeld => ?_)
    · (try dsimp only)
      first | (with_reducible assumption) | (with_reducible exact HC.out _ (Below.refl _ _)) | (with_reducible exact HC.out _ ((Below.refl _ _).drew)) | (with_reducible exact HC.out _ (((Below.refl _ _).alloc (Nat.le_refl _) _).drew)) | (with_reducible exact HC.out _ b1) | (with_reducible exact HC.out _ (b1.alloc b1.size _))
    clear hK K
    (try simp only [Act.put, List.getElem_toArray, List.getElem_cons_zero, List.getElem_cons_succ, List.setIfInBounds_toArray, List.set_cons_zero, List.set_cons_succ])
    refine wpAnyH_ready (rs := [5]) (by kernel_rfl) (by simp) ?_
    refine AllReadyH.cons rfl (fun K hK => ?_) ?_
    rotate_left
    exact AllReadyH.nil
    · go_simp
      refine hK.out _ _ ?_ (fun hHeld => ?_)
      · (try dsimp only)
        first | (with_reducible assumption) | (with_reducible exact HC.out _ (Below.refl _ _)) | (with_reducible exact HC.out _ ((Below.refl _ _).drew)) | (with_reducible exact HC.out _ (((Below.refl _ _).alloc (Nat.le_refl _) _).drew)) | (with_reducible exact HC.out _ b1) | (with_reducible exact HC.out _ (b1.alloc b1.size _))
      clear hK K
      (try simp only [Act.put, List.getElem_toArray, List.getElem_cons_zero, List.getElem_cons_succ, List.setIfInBounds_toArray, List.set_cons_zero, List.set_cons_succ])
      refine wpAnyH_ready (rs := [10]) (by kernel_rfl) (by simp) ?_
      refine AllReadyH.cons rfl (fun K hK => ?_) ?_
      rotate_left
      exact AllReadyH.nil
      · refine step_appS rfl (.tmp 37) (.tmp 41) rfl (.slice (some ⟨w.heap.size, 0, none⟩) 0 0) [] xsA rfl RE.out aa al ac rfl HSRC.out HAL.out HA1.out HA2.out ?_
        intro v1 w1 R1 G1
        obtain ⟨a1, l1, c1, rfl, b1, d3, d4, xs, RK, HXL, HONE, HNX⟩ := PK.out v1 w1 R1 G1
        clear R1 G1
        refine hK.out _ _ ?_ (fun hHeld => ?_)
        · (try dsimp only)
          first | (with_reducible assumption) | (with_reducible exact HC.out _ (Below.refl _ _)) | (with_reducible exact HC.out _ ((Below.refl _ _).drew)) | (with_reducible exact HC.out _ (((Below.refl _ _).alloc (Nat.le_refl _) _).drew)) | (with_reducible exact HC.out _ b1) | (with_reducible exact HC.out _ (b1.alloc b1.size _))
        clear hK K
        (try simp only [Act.put, List.getElem_toArray, List.getElem_cons_zero, List.getElem_cons_succ, List.setIfInBounds_toArray, List.set_cons_zero, List.set_cons_succ])
        refine wpAnyH_ready (rs := [11]) (by kernel_rfl) (by simp) ?_
        refine AllReadyH.cons rfl (fun K hK => ?_) ?_
        rotate_left
        exact AllReadyH.nil
        · go_simp
          refine hK.out _ _ ?_ (fun hHeld => ?_)
          · (try dsimp only)
            first | (with_reducible assumption) | (with_reducible exact HC.out _ (Below.refl _ _)) | (with_reducible exact HC.out _ ((Below.refl _ _).drew)) | (with_reducible exact HC.out _ (((Below.refl _ _).alloc (Nat.le_refl _) _).drew)) | (with_reducible exact HC.out _ b1) | (with_reducible exact HC.out _ (b1.alloc b1.size _))
          clear hK K
          (try simp only [Act.put, List.getElem_toArray, List.getElem_cons_zero, List.getElem_cons_succ, List.setIfInBounds_toArray, List.set_cons_zero, List.set_cons_succ])
          refine wpAnyH_ready (rs := [12]) (by kernel_rfl) (by simp) ?_
          refine AllReadyH.cons rfl (fun K hK => ?_) ?_
          rotate_left
          exact AllReadyH.nil
          · refine step_appsS rfl (.tmp 36) (.tmp 43) rfl (.slice ka kl kc) xs [.slice a1 l1 c1] rfl RK.out (some ⟨w1.heap.size, 0, none⟩) 1 1 rfl (.inr ⟨_, rfl, fun j u hj => one_at HONE.out hj⟩) rfl (by intro u hu; rw [List.mem_singleton.1 hu]; rfl) HXL.out ?_
            intro v2 w2 R2 G2
            obtain ⟨a2, l2, c2, rfl, e3, f3, e4, e5, HFB⟩ := HNX.out v2 w2 R2 G2
            clear R2 G2
            refine hK.out _ _ ?_ (fun hHeld => ?_)
            · (try dsimp only)
              first | (with_reducible assumption) | (with_reducible exact HC.out _ (Below.refl _ _)) | (with_reducible exact HC.out _ ((Below.refl _ _).drew)) | (with_reducible exact HC.out _ (((Below.refl _ _).alloc (Nat.le_refl _) _).drew)) | (with_reducible exact HC.out _ b1) | (with_reducible exact HC.out _ (b1.alloc b1.size _))
            clear hK K
            (try simp only [Act.put, List.getElem_toArray, List.getElem_cons_zero, List.getElem_cons_succ, List.setIfInBounds_toArray, List.set_cons_zero, List.set_cons_succ])
            refine wpAnyH_take (i := 13) (v := ?_) rfl (by kernel_rfl) (by kernel_rfl) (by kernel_rfl) (fun _ _ _ h => h) (Or.inl ⟨by kernel_rfl, ?_⟩) (by assumption) ?_
            rotate_left
            · intro w hSw
              (try dsimp only at hSw)
              go_simp
              (try with_reducible rfl)
            (try simp only [Act.put, List.getElem_toArray, List.getElem_cons_zero, List.getElem_cons_succ, List.setIfInBounds_toArray, List.set_cons_zero, List.set_cons_succ])
            refine wpAnyH_take (i := 14) (v := ?_) rfl (by kernel_rfl) (by kernel_rfl) (by kernel_rfl) (fun _ _ _ h => h) (Or.inl ⟨by kernel_rfl, ?_⟩) (by assumption) ?_
            rotate_left
            · intro w hSw
              (try dsimp only at hSw)
              go_simp
              (try with_reducible rfl)
            (try simp only [Act.put, List.getElem_toArray, List.getElem_cons_zero, List.getElem_cons_succ, List.setIfInBounds_toArray, List.set_cons_zero, List.set_cons_succ])
            refine wpAnyH_ready (rs := [15]) (by kernel_rfl) (by simp) ?_
            refine AllReadyH.cons rfl (fun K hK => ?_) ?_
            rotate_left
            exact AllReadyH.nil
            · go_simp
              refine hK.out _ _ ?_ (fun hHeld => ?_)
              · (try dsimp only)
                first | (with_reducible assumption) | (with_reducible exact HC.out _ (Below.refl _ _)) | (with_reducible exact HC.out _ ((Below.refl _ _).drew)) | (with_reducible exact HC.out _ (((Below.refl _ _).alloc (Nat.le_refl _) _).drew)) | (with_reducible exact HC.out _ b1) | (with_reducible exact HC.out _ (b1.alloc b1.size _))
              clear hK K
              (try simp only [Act.put, List.getElem_toArray, List.getElem_cons_zero, List.getElem_cons_succ, List.setIfInBounds_toArray, List.set_cons_zero, List.set_cons_succ])
              refine wpAnyH_done (by kernel_rfl) ?_ _
              refine NoPanic.normal ?_
              exact hQ _ _ _ _ _ _ _ _ _ _ _ _ _ _ _ _ HFB.out
  · go_simp
    refine hK.out _ _ ?_ (fun hHeld => ?_)
    · (try dsimp only)
      first | (with_reducible assumption) | (with_reducible exact HC.out _ (Below.refl _ _)) | (with_reducible exact HC.out _ ((Below.refl _ _).drew)) | (with_reducible exact HC.out _ (((Below.refl _ _).alloc (Nat.le_refl _) _).drew)) | (with_reducible exact HC.out _ b1) | (with_reducible exact HC.out _ (b1.alloc b1.size _))
    clear hK K
    (try simp only [Act.put, List.getElem_toArray, List.getElem_cons_zero, List.getElem_cons_succ, List.setIfInBounds_toArray, List.set_cons_zero, List.set_cons_succ])
    refine wpAnyH_ready (rs := [4, 10]) (by kernel_rfl) (by simp) ?_
    refine AllReadyH.cons rfl (fun K hK => ?_) ?_
    rotate_left
    refine AllReadyH.cons rfl (fun K hK => ?_) ?_
    rotate_left
    exact AllReadyH.nil
    · go_simp
      refine hK.out _ _ ?_ (fun hHeld => ?_)
      · (try dsimp only)
        first | (with_reducible assumption) | (with_reducible exact HC.out _ (Below.refl _ _)) | (with_reducible exact HC.out _ ((Below.refl _ _).drew)) | (with_reducible exact HC.out _ (((Below.refl _ _).alloc (Nat.le_refl _) _).drew)) | (with_reducible exact HC.out _ b1) | (with_reducible exact HC.out _ (b1.alloc b1.size _))
      clear hK K
      (try simp only [Act.put, List.getElem_toArray, List.getElem_cons_zero, List.getElem_cons_succ, List.setIfInBounds_toArray, List.set_cons_zero, List.set_cons_succ])
      refine wpAnyH_ready (rs := [10]) (by kernel_rfl) (by simp) ?_
      refine AllReadyH.cons rfl (fun K hK => ?_) ?_
      rotate_left
      exact AllReadyH.nil
      · refine step_appS rfl (.tmp 37) (.tmp 41) rfl (.slice (some ⟨w.heap.size, 0, none⟩) 0 0) [] xsA rfl RE.out aa al ac rfl HSRC.out HAL.out HA1.out HA2.out ?_
        intro v1 w1 R1 G1
        obtain ⟨a1, l1, c1, rfl, b1, d3, d4, xs, RK, HXL, HONE, HNX⟩ := PK.out v1 w1 R1 G1
        clear R1 G1
        refine hK.out _ _ ?_ (fun hHeld => ?_)
        · (try dsimp only)
          first | (with_reducible assumption) | (with_reducible exact HC.out _ (Below.refl _ _)) | (with_reducible exact HC.out _ ((Below.refl _ _).drew)) | (with_reducible exact HC.out _ (((Below.refl _ _).alloc (Nat.le_refl _) _).drew)) | (with_reducible exact HC.out _ b1) | (with_reducible exact HC.out _ (b1.alloc b1.size _))
        clear hK K
        (try simp only [Act.put, List.getElem_toArray, List.getElem_cons_zero, List.getElem_cons_succ, List.setIfInBounds_toArray, List.set_cons_zero, List.set_cons_succ])
        refine wpAnyH_ready (rs := [11]) (by kernel_rfl) (by simp) ?_
        refine AllReadyH.cons rfl (fun K hK => ?_) ?_
        rotate_left
        exact AllReadyH.nil
        · go_simp
          refine hK.out _ _ ?_ (fun hHeld => ?_)
          · (try dsimp only)
            first | (with_reducible assumption) | (with_reducible exact HC.out _ (Below.refl _ _)) | (with_reducible exact HC.out _ ((Below.refl _ _).drew)) | (with_reducible exact HC.out _ (((Below.refl _ _).alloc (Nat.le_refl _) _).drew)) | (with_reducible exact HC.out _ b1) | (with_reducible exact HC.out _ (b1.alloc b1.size _))
          clear hK K
          (try simp only [Act.put, List.getElem_toArray, List.getElem_cons_zero, List.getElem_cons_succ, List.setIfInBounds_toArray, List.set_cons_zero, List.set_cons_succ])
          refine wpAnyH_ready (rs := [12]) (by kernel_rfl) (by simp) ?_
          refine AllReadyH.cons rfl (fun K hK => ?_) ?_
          rotate_left
          exact AllReadyH.nil
          · refine step_appsS rfl (.tmp 36) (.tmp 43) rfl (.slice ka kl kc) xs [.slice a1 l1 c1] rfl RK.out (some ⟨w1.heap.size, 0, none⟩) 1 1 rfl (.inr ⟨_, rfl, fun j u hj => one_at HONE.out hj⟩) rfl (by intro u hu; rw [List.mem_singleton.1 hu]; rfl) HXL.out ?_
            intro v2 w2 R2 G2
            obtain ⟨a2, l2, c2, rfl, e3, f3, e4, e5, HFB⟩ := HNX.out v2 w2 R2 G2
            clear R2 G2
            refine hK.out _ _ ?_ (fun hHeld => ?_)
            · (try dsimp only)
              first | (with_reducible assumption) | (with_reducible exact HC.out _ (Below.refl _ _)) | (with_reducible exact HC.out _ ((Below.refl _ _).drew)) | (with_reducible exact HC.out _ (((Below.refl _ _).alloc (Nat.le_refl _) _).drew)) | (with_reducible exact HC.out _ b1) | (with_reducible exact HC.out _ (b1.alloc b1.size _))
            clear hK K
            (try simp only [Act.put, List.getElem_toArray, List.getElem_cons_zero, List.getElem_cons_succ, List.setIfInBounds_toArray, List.set_cons_zero, List.set_cons_succ])
            refine wpAnyH_take (i := 13) (v := ?_) rfl (by kernel_rfl) (by kernel_rfl) (by kernel_rfl) (fun _ _ _ h => h) (Or.inl ⟨by kernel_rfl, ?_⟩) (by assumption) ?_
            rotate_left
            · intro w hSw
              (try dsimp only at hSw)
              go_simp
              (try with_reducible rfl)
            (try simp only [Act.put, List.getElem_toArray, List.getElem_cons_zero, List.getElem_cons_succ, List.setIfInBounds_toArray, List.set_cons_zero, List.set_cons_succ])
            refine wpAnyH_take (i := 14) (v := ?_) rfl (by kernel_rfl) (by kernel_rfl) (by kernel_rfl) (fun _ _ _ h => h) (Or.inl ⟨by kernel_rfl, ?_⟩) (by assumption) ?_
            rotate_left
            · intro w hSw
              (try dsimp only at hSw)
              go_simp
              (try with_reducible rfl)
            (try simp only [Act.put, List.getElem_toArray, List.getElem_cons_zero, List.getElem_cons_succ, List.setIfInBounds_toArray, List.set_cons_zero, List.set_cons_succ])
            refine wpAnyH_ready (rs := [15]) (by kernel_rfl) (by simp) ?_
            refine AllReadyH.cons rfl (fun K hK => ?_) ?_
            rotate_left
            exact AllReadyH.nil
            · go_simp
              refine hK.out _ _ ?_ (fun hHeld => ?_)
              · (try dsimp only)
                first | (with_reducible assumption) | (with_reducible exact HC.out _ (Below.refl _ _)) | (with_reducible exact HC.out _ ((Below.refl _ _).drew)) | (with_reducible exact HC.out _ (((Below.refl _ _).alloc (Nat.le_refl _) _).drew)) | (with_reducible exact HC.out _ b1) | (with_reducible exact HC.out _ (b1.alloc b1.size _))
              clear hK K
              (try simp only [Act.put, List.getElem_toArray, List.getElem_cons_zero, List.getElem_cons_succ, List.setIfInBounds_toArray, List.set_cons_zero, List.set_cons_succ])
              refine wpAnyH_done (by kernel_rfl) ?_ _
              refine NoPanic.normal ?_
              exact hQ _ _ _ _ _ _ _ _ _ _ _ _ _ _ _ _ HFB.out
    · refine step_appS rfl (.tmp 37) (.tmp 41) rfl (.slice (some ⟨w.heap.size, 0, none⟩) 0 0) [] xsA rfl RE.out aa al ac rfl HSRC.out HAL.out HA1.out HA2.out ?_
      intro v1 w1 R1 G1
      obtain ⟨a1, l1, c1, rfl, b1, d3, d4, xs, RK, HXL, HONE, HNX⟩ := PK.out v1 w1 R1 G1
      clear R1 G1
      refine hK.out _ _ ?_ (fun hHeld => ?_)
      · (try dsimp only)
        first | (with_reducible assumption) | (with_reducible exact HC.out _ (Below.refl _ _)) | (with_reducible exact HC.out _ ((Below.refl _ _).drew)) | (with_reducible exact HC.out _ (((Below.refl _ _).alloc (Nat.le_refl _) _).drew)) | (with_reducible exact HC.out _ b1) | (with_reducible exact HC.out _ (b1.alloc b1.size _))
      clear hK K
      (try simp only [Act.put, List.getElem_toArray, List.getElem_cons_zero, List.getElem_cons_succ, List.setIfInBounds_toArray, List.set_cons_zero, List.set_cons_succ])
      refine wpAnyH_ready (rs := [4, 11]) (by kernel_rfl) (by simp) ?_
      refine AllReadyH.cons rfl (fun K hK => ?_) ?_
      rotate_left
      refine AllReadyH.cons rfl (fun K hK => ?_) ?_
      rotate_left
      exact AllReadyH.nil
      · go_simp
        refine hK.out _ _ ?_ (fun hHeld => ?_)
        · (try dsimp only)
          first | (with_reducible assumption) | (with_reducible exact HC.out _ (Below.refl _ _)) | (with_reducible exact HC.out _ ((Below.refl _ _).drew)) | (with_reducible exact HC.out _ (((Below.refl _ _).alloc (Nat.le_refl _) _).drew)) | (with_reducible exact HC.out _ b1) | (with_reducible exact HC.out _ (b1.alloc b1.size _))
        clear hK K
        (try simp only [Act.put, List.getElem_toArray, List.getElem_cons_zero, List.getElem_cons_succ, List.setIfInBounds_toArray, List.set_cons_zero, List.set_cons_succ])
        refine wpAnyH_ready (rs := [11]) (by kernel_rfl) (by simp) ?_
        refine AllReadyH.cons rfl (fun K hK => ?_) ?_
        rotate_left
        exact AllReadyH.nil
        · go_simp
          refine hK.out _ _ ?_ (fun hHeld => ?_)
          · (try dsimp only)
            first | (with_reducible assumption) | (with_reducible exact HC.out _ (Below.refl _ _)) | (with_reducible exact HC.out _ ((Below.refl _ _).drew)) | (with_reducible exact HC.out _ (((Below.refl _ _).alloc (Nat.le_refl _) _).drew)) | (with_reducible exact HC.out _ b1) | (with_reducible exact HC.out _ (b1.alloc b1.size _))
          clear hK K
          (try simp only [Act.put, List.getElem_toArray, List.getElem_cons_zero, List.getElem_cons_succ, List.setIfInBounds_toArray, List.set_cons_zero, List.set_cons_succ])
          refine wpAnyH_ready (rs := [12]) (by kernel_rfl) (by simp) ?_
          refine AllReadyH.cons rfl (fun K hK => ?_) ?_
          rotate_left
          exact AllReadyH.nil
          · refine step_appsS rfl (.tmp 36) (.tmp 43) rfl (.slice ka kl kc) xs [.slice a1 l1 c1] rfl RK.out (some ⟨w1.heap.size, 0, none⟩) 1 1 rfl (.inr ⟨_, rfl, fun j u hj => one_at HONE.out hj⟩) rfl (by intro u hu; rw [List.mem_singleton.1 hu]; rfl) HXL.out ?_
            intro v2 w2 R2 G2
            obtain ⟨a2, l2, c2, rfl, e3, f3, e4, e5, HFB⟩ := HNX.out v2 w2 R2 G2
            clear R2 G2
            refine hK.out _ _ ?_ (fun hHeld => ?_)
            · (try dsimp only)
              first | (with_reducible assumption) | (with_reducible exact HC.out _ (Below.refl _ _)) | (with_reducible exact HC.out _ ((Below.refl _ _).drew)) | (with_reducible exact HC.out _ (((Below.refl _ _).alloc (Nat.le_refl _) _).drew)) | (with_reducible exact HC.out _ b1) | (with_reducible exact HC.out _ (b1.alloc b1.size _))
            clear hK K
            (try simp only [Act.put, List.getElem_toArray, List.getElem_cons_zero, List.getElem_cons_succ, List.setIfInBounds_toArray, List.set_cons_zero, List.set_cons_succ])
            refine wpAnyH_take (i := 13) (v := ?_) rfl (by kernel_rfl) (by kernel_rfl) (by kernel_rfl) (fun _ _ _ h => h) (Or.inl ⟨by kernel_rfl, ?_⟩) (by assumption) ?_
            rotate_left
            · intro w hSw
              (try dsimp only at hSw)
              go_simp
              (try with_reducible rfl)
            (try simp only [Act.put, List.getElem_toArray, List.getElem_cons_zero, List.getElem_cons_succ, List.setIfInBounds_toArray, List.set_cons_zero, List.set_cons_succ])
            refine wpAnyH_take (i := 14) (v := ?_) rfl (by kernel_rfl) (by kernel_rfl) (by kernel_rfl) (fun _ _ _ h => h) (Or.inl ⟨by kernel_rfl, ?_⟩) (by assumption) ?_
            rotate_left
            · intro w hSw
              (try dsimp only at hSw)
              go_simp
              (try with_reducible rfl)
            (try simp only [Act.put, List.getElem_toArray, List.getElem_cons_zero, List.getElem_cons_succ, List.setIfInBounds_toArray, List.set_cons_zero, List.set_cons_succ])
            refine wpAnyH_ready (rs := [15]) (by kernel_rfl) (by simp) ?_
            refine AllReadyH.cons rfl (fun K hK => ?_) ?_
            rotate_left
            exact AllReadyH.nil
            · go_simp
              refine hK.out _ _ ?_ (fun hHeld => ?_)
              · (try dsimp only)
                first | (with_reducible assumption) | (with_reducible exact HC.out _ (Below.refl _ _)) | (with_reducible exact HC.out _ ((Below.refl _ _).drew)) | (with_reducible exact HC.out _ (((Below.refl _ _).alloc (Nat.le_refl _) _).drew)) | (with_reducible exact HC.out _ b1) | (with_reducible exact HC.out _ (b1.alloc b1.size _))
              clear hK K
              (try simp only [Act.put, List.getElem_toArray, List.getElem_cons_zero, List.getElem_cons_succ, List.setIfInBounds_toArray, List.set_cons_zero, List.set_cons_succ])
              refine wpAnyH_done (by kernel_rfl) ?_ _
              refine NoPanic.normal ?_
              exact hQ _ _ _ _ _ _ _ _ _ _ _ _ _ _ _ _ HFB.out
      · go_simp
        refine hK.out _ _ ?_ (fun hHeld => ?_)
        · (try dsimp only)
          first | (with_reducible assumption) | (with_reducible exact HC.out _ (Below.refl _ _)) | (with_reducible exact HC.out _ ((Below.refl _ _).drew)) | (with_reducible exact HC.out _ (((Below.refl _ _).alloc (Nat.le_refl _) _).drew)) | (with_reducible exact HC.out _ b1) | (with_reducible exact HC.out _ (b1.alloc b1.size _))
        clear hK K
        (try simp only [Act.put, List.getElem_toArray, List.getElem_cons_zero, List.getElem_cons_succ, List.setIfInBounds_toArray, List.set_cons_zero, List.set_cons_succ])
        refine wpAnyH_ready (rs := [4]) (by kernel_rfl) (by simp) ?_
        refine AllReadyH.cons rfl (fun K hK => ?_) ?_
        rotate_left
        exact AllReadyH.nil
        · go_simp
          refine hK.out _ _ ?_ (fun hHeld => ?_)
          · (try dsimp only)
            first | (with_reducible assumption) | (with_reducible exact HC.out _ (Below.refl _ _)) | (with_reducible exact HC.out _ ((Below.refl _ _).drew)) | (with_reducible exact HC.out _ (((Below.refl _ _).alloc (Nat.le_refl _) _).drew)) | (with_reducible exact HC.out _ b1) | (with_reducible exact HC.out _ (b1.alloc b1.size _))
          clear hK K
          (try simp only [Act.put, List.getElem_toArray, List.getElem_cons_zero, List.getElem_cons_succ, List.setIfInBounds_toArray, List.set_cons_zero, List.set_cons_succ])
          refine wpAnyH_ready (rs := [12]) (by kernel_rfl) (by simp) ?_
          refine AllReadyH.cons rfl (fun K hK => ?_) ?_
          rotate_left
          exact AllReadyH.nil
          · refine step_appsS rfl (.tmp 36) (.tmp 43) rfl (.slice ka kl kc) xs [.slice a1 l1 c1] rfl RK.out (some ⟨w1.heap.size, 0, none⟩) 1 1 rfl (.inr ⟨_, rfl, fun j u hj => one_at HONE.out hj⟩) rfl (by intro u hu; rw [List.mem_singleton.1 hu]; rfl) HXL.out ?_
            intro v2 w2 R2 G2
            obtain ⟨a2, l2, c2, rfl, e3, f3, e4, e5, HFB⟩ := HNX.out v2 w2 R2 G2
            clear R2 G2
            refine hK.out _ _ ?_ (fun hHeld => ?_)
            · (try dsimp only)
              first | (with_reducible assumption) | (with_reducible exact HC.out _ (Below.refl _ _)) | (with_reducible exact HC.out _ ((Below.refl _ _).drew)) | (with_reducible exact HC.out _ (((Below.refl _ _).alloc (Nat.le_refl _) _).drew)) | (with_reducible exact HC.out _ b1) | (with_reducible exact HC.out _ (b1.alloc b1.size _))
            clear hK K
            (try simp only [Act.put, List.getElem_toArray, List.getElem_cons_zero, List.getElem_cons_succ, List.setIfInBounds_toArray, List.set_cons_zero, List.set_cons_succ])
            refine wpAnyH_take (i := 13) (v := ?_) rfl (by kernel_rfl) (by kernel_rfl) (by kernel_rfl) (fun _ _ _ h => h) (Or.inl ⟨by kernel_rfl, ?_⟩) (by assumption) ?_
            rotate_left
            · intro w hSw
              (try dsimp only at hSw)
              go_simp
              (try with_reducible rfl)
            (try simp only [Act.put, List.getElem_toArray, List.getElem_cons_zero, List.getElem_cons_succ, List.setIfInBounds_toArray, List.set_cons_zero, List.set_cons_succ])
            refine wpAnyH_take (i := 14) (v := ?_) rfl (by kernel_rfl) (by kernel_rfl) (by kernel_rfl) (fun _ _ _ h => h) (Or.inl ⟨by kernel_rfl, ?_⟩) (by assumption) ?_
            rotate_left
            · intro w hSw
              (try dsimp only at hSw)
              go_simp
              (try with_reducible rfl)
            (try simp only [Act.put, List.getElem_toArray, List.getElem_cons_zero, List.getElem_cons_succ, List.setIfInBounds_toArray, List.set_cons_zero, List.set_cons_succ])
            refine wpAnyH_ready (rs := [15]) (by kernel_rfl) (by simp) ?_
            refine AllReadyH.cons rfl (fun K hK => ?_) ?_
            rotate_left
            exact AllReadyH.nil
            · go_simp
              refine hK.out _ _ ?_ (fun hHeld => ?_)
              · (try dsimp only)
                first | (with_reducible assumption) | (with_reducible exact HC.out _ (Below.refl _ _)) | (with_reducible exact HC.out _ ((Below.refl _ _).drew)) | (with_reducible exact HC.out _ (((Below.refl _ _).alloc (Nat.le_refl _) _).drew)) | (with_reducible exact HC.out _ b1) | (with_reducible exact HC.out _ (b1.alloc b1.size _))
              clear hK K
              (try simp only [Act.put, List.getElem_toArray, List.getElem_cons_zero, List.getElem_cons_succ, List.setIfInBounds_toArray, List.set_cons_zero, List.set_cons_succ])
              refine wpAnyH_done (by kernel_rfl) ?_ _
              refine NoPanic.normal ?_
              exact hQ _ _ _ _ _ _ _ _ _ _ _ _ _ _ _ _ HFB.out


variable {w w' : World} {M S : Nat → Prop} {p : Nat} {R : Ref}

theorem RefPost.trans {R' R'' : Ref} {w'' : World} {M' S' : Nat → Prop} (h : RefAt w' M' S' p R') (ho : Only M w w') (hM : ∀ k, M k → M' k) (hS : ∀ k, S k → S' k) (hn : ∀ k, M' k ∨ S' k → (M k ∨ S k) ∨ w.heap.size ≤ k) (h2 : RefPost w' M' S' p R'' w'') : RefPost w M S p R'' w'' := by
  obtain ⟨M2, S2, r2, o2, m2, s2, n2⟩ := h2
  have hoff : ∀ k, S' k → ¬ M' k := by obtain ⟨_, _, _, hm, _⟩ := h; exact hm.off
  have hM' : ∀ k, M' k → M k ∨ w.heap.size ≤ k := fun k hk => by
    rcases hn k (.inl hk) with (h1 | h1) | h1
    · exact .inl h1
    · exact absurd hk (hoff k (hS k h1))
    · exact .inr h1
  refine ⟨M2, S2, r2, ho.trans o2 hM', fun k hk => m2 k (hM k hk), fun k hk => s2 k (hS k hk), fun k hk => ?_⟩
  rcases n2 k hk with h1 | h1
  · exact hn k h1
  · exact .inr (Nat.le_trans ho.size h1)

def decD (R : Ref) (x : Int) : Ref := { R with D := R.D ++ [x] }
def decK (R : Ref) : Ref := { R with K := R.K ++ [R.A] }
def decideM (R : Ref) (x : Int) : Ref := { R with D := R.D ++ [x], K := R.K ++ [R.A], A := setA R.A x }

theorem RefAt.appD {w2 : World} (h : RefAt w M S p R) (hb : Below w.heap.size w w2) (x : Int) :
    ∃ vD xs, w2.cell? ⟨p, 2, none⟩ = some vD ∧ Row w2 3 1 vD xs ∧ xs.length = R.D.length ∧ ∀ v' w3, Row w3 3 1 v' (xs ++ [.int .i64 x]) → Grew w2 w3 vD v' → (∃ a1 l1 n1, v' = .slice a1 l1 n1) ∧ w3.cell? ⟨p, 2, none⟩ = some vD ∧ w3.frozen? ⟨p, 2, none⟩ = false ∧ p < w3.heap.size ∧ Hid (RefPost w M S p (decD R x) (w3.setCell ⟨p, 2, none⟩ v')) := by
  obtain ⟨val, ct, vA, hm, ht⟩ := h
  have hm2 := hm.below hb
  refine ⟨val .D, ct .D, hm2.bcell 2, hm2.row .D, by rw [ht.D, ints_len], fun v' w3 h1 h2 => ?_⟩
  obtain ⟨m3, o3⟩ := hm2.grew .D h2 h1
  have m4 := m3.setBox 2 v'
  have o4 := m3.onlyBox 2 v'
  have hoA : Only M w (w3.setCell ⟨p, 2, none⟩ v') := ((Only.ofBelow hb).trans o3 fun i hi => .inl hi).trans o4 fun i hi => by
    rcases hi with hi | hi
    · exact .inl hi
    · have := hb.size; exact .inr (by omega)
  have hk := hm.onlyKeep hoA
  refine ⟨(by obtain ⟨a1, n1, e, _⟩ := h1.form; exact ⟨_, _, _, e⟩), m3.bcell 2, m3.bfr 2, m3.size, Lib.hid ⟨MoreM M S w2 w3, S, ⟨upR val .D v', upR ct .D (ct .D ++ [.int .i64 x]), vA, (by have e : boxR (decD R x).n (upR val .D v') vA = (boxR R.n val vA).setIfInBounds 2 v' := (by simp [boxR, upR, decD]); rw [e]; exact m4), ?_⟩, hoA, (fun k hk => .inl hk), (fun k hk => hk), fun k hk => ?_⟩⟩
  · have ht2 := ht.step hk
    refine ⟨?_, fun j hj => ?_, ?_, ?_, fun j hj => ?_, ht2.A⟩
    · rw [upR_other _ _ (by simp)]; exact ht.Ll
    · rw [upR_other _ _ (by simp)]; exact ht2.L j hj
    · rw [upR_same, ht.D]; show _ = ints (R.D ++ [x]); unfold ints; rw [List.map_append]; rfl
    · rw [upR_other _ _ (by simp)]; exact ht.Kl
    · rw [upR_other _ _ (by simp)]; exact ht2.K j hj
  · rcases hk with (hk | hk) | hk
    · exact .inl (.inl hk)
    · have := hb.size; exact .inr (by omega)
    · exact .inl (.inr hk)

theorem RefAt.appK {w2 : World} {v1 vK vA : Value} (h : RefAt w M S p R) (hb : Below w.heap.size w w2) (c3 : w.cell? ⟨p, 3, none⟩ = some vK) (c4 : w.cell? ⟨p, 4, none⟩ = some vA) (hr1 : Row w2 3 1 v1 (ints R.A)) (hf1 : Fresh w v1) :
    w2.cell? ⟨p, 3, none⟩ = some vK ∧ (w2.alloc (.cells #[v1] 23)).cell? ⟨p, 3, none⟩ = some vK ∧ ∃ xs, Row (w2.alloc (.cells #[v1] 23)) 23 1 vK xs ∧ xs.length = R.K.length ∧
      ∀ v' w3, Row w3 23 1 v' (xs ++ [v1]) → Grew (w2.alloc (.cells #[v1] 23)) w3 vK v' → (∃ a1 l1 n1, v' = .slice a1 l1 n1) ∧ w3.cell? ⟨p, 3, none⟩ = some vK ∧ w3.frozen? ⟨p, 3, none⟩ = false ∧ w3.cell? ⟨p, 4, none⟩ = some vA ∧ (w3.setCell ⟨p, 3, none⟩ v').cell? ⟨p, 4, none⟩ = some vA ∧ Hid (RefPost w M S p (decK R) (w3.setCell ⟨p, 3, none⟩ v')) := by
  obtain ⟨val, ct, vA', hm, ht⟩ := h
  have ek : vK = val .K := by
    have := (hm.bcell 3).symm.trans c3
    simpa [boxR] using this.symm
  have ea : vA = vA' := by
    have := (hm.bcell 4).symm.trans c4
    simpa [boxR] using this.symm
  subst ek ea
  have hbA : Below w.heap.size w (w2.alloc (.cells #[v1] 23)) := hb.alloc hb.size _
  have hm0 := hm.below hb
  have hm2 := hm.below hbA
  refine ⟨hm0.bcell 3, hm2.bcell 3, ct .K, hm2.row .K, ht.Kl, fun v' w3 h1 h2 => ?_⟩
  have hS1 : ∀ k, v1.ownBlock = some k → ¬ M k ∧ k < (w2.alloc (.cells #[v1] 23)).heap.size := fun k hk => by
    refine ⟨fun hM => ?_, ?_⟩
    · have := hm.tM k hM; have := hf1 k hk; omega
    · have := hr1.lt k hk; simp; omega
  have hm2' := hm2.moreS (S' := fun k => S k ∨ v1.ownBlock = some k) (fun k hk => hk.imp id fun hk => hS1 k hk)
  obtain ⟨m3, o3⟩ := hm2'.grew .K h2 h1
  have m4 := m3.setBox 3 v'
  have o4 := m3.onlyBox 3 v'
  have hsz := hbA.size
  have hoA : Only M w (w3.setCell ⟨p, 3, none⟩ v') := ((Only.ofBelow hbA).trans o3 fun i hi => .inl hi).trans o4 fun i hi => by
    rcases hi with hi | hi
    · exact .inl hi
    · exact .inr (by omega)
  have hk := hm.onlyKeep hoA
  have hrow1 : Row (w3.setCell ⟨p, 3, none⟩ v') 3 1 v1 (ints R.A) := hr1.kept fun k hv => by
    have h5 := hS1 k hv
    have h6 := hr1.lt k hv
    have h7 := hf1 k hv
    refine (o4.block k (Nat.lt_of_lt_of_le h5.2 h2.1.size) (fun hM => ?_)).trans ((o3.block k h5.2 h5.1).trans ?_)
    · rcases hM with hM | hM
      · exact h5.1 hM
      · exact hM.1 (.inr hv)
    · exact Below.heap_alloc _ _ k h6
  refine ⟨(by obtain ⟨a1, n1, e, _⟩ := h1.form; exact ⟨_, _, _, e⟩), m3.bcell 3, m3.bfr 3, m3.bcell 4, (m4.bcell 4).trans (by simp [boxR]), Lib.hid ⟨MoreM M (fun k => S k ∨ v1.ownBlock = some k) (w2.alloc (.cells #[v1] 23)) w3, fun k => S k ∨ v1.ownBlock = some k, ⟨upR val .K v', upR ct .K (ct .K ++ [v1]), vA, (by have e : boxR (decK R).n (upR val .K v') vA = (boxR R.n val vA).setIfInBounds 3 v' := (by simp [boxR, upR, decK]); rw [e]; exact m4), ?_⟩, hoA, (fun k hk => .inl hk), (fun k hk => .inl hk), fun k hk => ?_⟩⟩
  · have ht2 := (ht.step hk).grow (S' := fun k => S k ∨ v1.ownBlock = some k) fun k h => .inl h
    refine ⟨?_, fun j hj => ?_, ?_, ?_, fun j hj => ?_, ht2.A⟩
    · rw [upR_other _ _ (by simp)]; exact ht.Ll
    · rw [upR_other _ _ (by simp)]; exact ht2.L j hj
    · rw [upR_other _ _ (by simp)]; exact ht.D
    · rw [upR_same, List.length_append, ht.Kl]; show _ = (R.K ++ [R.A]).length; rw [List.length_append]; rfl
    · rw [upR_same]
      show Stays _ _ fun w2 => Reads w2 _ ((R.K ++ [R.A]).getD j [])
      have hj' : j < (R.K ++ [R.A]).length := hj
      rw [List.length_append] at hj'
      by_cases e : j < R.K.length
      · have e1 : ((ct .K) ++ [v1]).getD j undef = (ct .K).getD j undef := by simp only [List.getD_eq_getElem?_getD]; rw [List.getElem?_append_left (by rw [ht.Kl]; exact e)]
        have e2 : (R.K ++ [R.A]).getD j [] = R.K.getD j [] := by simp only [List.getD_eq_getElem?_getD]; rw [List.getElem?_append_left e]
        rw [e1, e2]
        exact ht2.K j e
      · have ej : j = R.K.length := by simp at hj'; omega
        have e1 : ((ct .K) ++ [v1]).getD j undef = v1 := by rw [ej, ← ht.Kl]; simp [List.getD_eq_getElem?_getD]
        have e2 : (R.K ++ [R.A]).getD j [] = R.A := by rw [ej]; simp [List.getD_eq_getElem?_getD]
        rw [e1, e2]
        intro w4 hk4
        exact Row.reads (hrow1.kept fun k hv => hk4.block k (.inr hv))
  · rcases hk with (hk | hk) | (hk | hk)
    · exact .inl (.inl hk)
    · exact .inr (by omega)
    · exact .inl (.inr hk)
    · exact .inr (hf1 k hk)

theorem RefAt.setKnown2 {v : Value} {A' : List Int} {wf : World} (h : RefAt w M S p R) (hb : Below w.heap.size w w') (hf : Fresh w v) (hv' : ∀ k, v.ownBlock = some k → k < w'.heap.size) (hk : Keep (fun k => k < w'.heap.size ∧ v.ownBlock ≠ some k) (w'.setCell ⟨p, 4, none⟩ v) wf) (hr : Row wf 3 1 v (ints A')) : RefPost w M S p (knownM R A') wf := by
  obtain ⟨val, ct, vA, hm, ht⟩ := h
  have hm' := hm.below hb
  have m4 := hm'.setBox 4 v
  have hS : ∀ k, v.ownBlock = some k → ¬ M k ∧ ¬ S k := fun k hk => by
    have := hf k hk
    exact ⟨fun hM => by have := hm.tM k hM; omega, fun hM => by have := hm.tS k hM; omega⟩
  have hkM : Keep (fun k => M k ∨ S k) (w'.setCell ⟨p, 4, none⟩ v) wf := hk.mono fun k hk => ⟨hm'.there k hk, fun hv => by
    rcases hk with hk | hk
    · exact (hS k hv).1 hk
    · exact (hS k hv).2 hk⟩
  have m5 := (m4.keep hkM).moreS (S' := fun k => S k ∨ v.ownBlock = some k) (fun k hk => hk.imp id fun hk => ⟨(hS k hk).1, hr.lt k hk⟩)
  have hsz : (w'.setCell ⟨p, 4, none⟩ v).heap.size = w'.heap.size := by simp [World.setCell]
  have hoA : Only M w wf := ⟨hk.os.trans ((hm'.onlyBox 4 v).os.trans hb.os), hk.tape.trans ((hm'.onlyBox 4 v).tape.trans hb.tape), hk.output.trans ((hm'.onlyBox 4 v).output.trans hb.output), by have := hk.size; have := hb.size; omega, fun k hkl hn => by
    have h1 := hb.size
    refine (hk.block k ⟨by omega, fun hv => by have := hf k hv; omega⟩).trans (((hm'.onlyBox 4 v).block k (by omega) hn).trans (hb.block k hkl))⟩
  have hkS := hm.onlyKeep hoA
  refine ⟨M, fun k => S k ∨ v.ownBlock = some k, ⟨val, ct, v, ?_, ?_⟩, hoA, fun k h => h, fun k h => .inl h, fun k hk => ?_⟩
  · have e : boxR (knownM R A').n val v = (boxR R.n val vA).setIfInBounds 4 v := by simp [boxR, knownM]
    rw [e]; exact m5
  · have ht2 := (ht.step hkS).grow (S' := fun k => S k ∨ v.ownBlock = some k) fun k h => .inl h
    exact ⟨ht2.Ll, ht2.L, ht2.D, ht2.Kl, ht2.K, fun w2 hk2 => Row.reads (hr.kept fun k hv => hk2.block k (.inr hv))⟩
  · rcases hk with hk | hk | hk
    · exact .inl (.inl hk)
    · exact .inl (.inr hk)
    · exact .inr (hf k hk)
end Go.Proofs.Ytngegkgmenfelaa
