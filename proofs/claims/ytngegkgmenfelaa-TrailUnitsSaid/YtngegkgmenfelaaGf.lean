/-
  PLAIN: a new trail, a clause put in: Good.
-/
import Derived.Test.YtngegkgmenfelaaGe
import Derived.Test.YtngegkgmenfelaaWs
namespace Go.Proofs.Ytngegkgmenfelaa
open Go.RowKit Go.Lib
variable {n : Nat} {T : Tr}

def emptyT (n : Nat) : Tr := newT n (List.replicate n (0, -1, -1))

theorem factOf_empty (n : Nat) (x : Int) : factOf (emptyT n) x = (0, -1, -1) := by
  by_cases h : 1 ≤ x.natAbs ∧ x.natAbs ≤ (emptyT n).F.length
  · rw [factOf_in h]
    show (List.replicate n ((0 : Int), (-1 : Int), (-1 : Int))).getD _ _ = _
    have : (emptyT n).F.length = n := by simp [emptyT, newT]
    rw [List.getD_eq_getElem?_getD, List.getElem?_replicate, if_pos (by omega)]; rfl
  · exact factOf_out h
theorem valOf_empty (n : Nat) (x : Int) : valOf (emptyT n) x = 0 := by
  unfold valOf; rw [factOf_empty]; split <;> rfl
theorem Good.new (n : Nat) (hn : n ≤ 20000) : Good n (emptyT n) where
  ok := ⟨by simp [emptyT, newT], hn, by simp [emptyT, newT], fun x => by rw [factOf_empty]; simp, fun c hc => absurd hc (by simp [emptyT, newT]), by simp [emptyT, newT]⟩
  part := fun m hm => absurd hm (by simp [emptyT, newT])
  wIn := fun j k hk => by
    have : (emptyT n).W.getD j [] = [] := by
      show (List.replicate (2 * n) ([] : List Int)).getD j [] = []
      rw [List.getD_eq_getElem?_getD, List.getElem?_replicate]; split <;> rfl
    rw [this] at hk; cases hk
  wOf := fun m hm => absurd hm (by simp [emptyT, newT])
  wNd := fun j => by
    have : (emptyT n).W.getD j [] = [] := by
      show (List.replicate (2 * n) ([] : List Int)).getD j [] = []
      rw [List.getD_eq_getElem?_getD, List.getElem?_replicate]; split <;> rfl
    rw [this]; exact List.nodup_nil
  shIn := fun k hk => absurd hk (by simp [emptyT, newT])
  shOf := fun m hm => absurd hm (by simp [emptyT, newT])
  shl := by simp [emptyT, newT]
  lit := fun x => by rw [valOf_empty]; simp [emptyT, newT]
  nd := by simp [emptyT, newT]
  nxl := by simp [emptyT, newT]
  vis := fun p hp => absurd hp (by simp [emptyT, newT])
  stUp := fun a b _ hb => absurd hb (by simp [emptyT, newT])
  stIn := fun a ha => absurd ha (by simp [emptyT, newT])
  lev := fun i hi => absurd hi (by simp [emptyT, newT])
  rs := fun i hi => absurd hi (by simp [emptyT, newT])
  unk := fun x _ => factOf_empty n x

theorem unlike_none {c : List Int} (h : unlike c = none) : Alike c := by
  intro x hx
  unfold unlike at h
  rw [List.findIdx?_eq_none_iff] at h
  have := h x hx
  rw [bne_eq_false_iff_eq] at this
  exact this
theorem unlike_long {c : List Int} {i : Nat} (h : unlike c = some i) : Long (swC c i) ∧ (∀ x, x ∈ swC c i ↔ x ∈ c) := by
  obtain ⟨h1, h2⟩ := unlike_some h rfl
  unfold unlike at h
  rw [List.findIdx?_eq_some_iff_getElem] at h
  obtain ⟨hi, h3, _⟩ := h
  rw [bne_iff_ne] at h3
  have e0 : (swC c i).getD 0 0 = c.getD 0 0 := by unfold swC; rw [getD_set_ne _ _ _ (by omega), getD_set_ne _ _ _ (by omega)]
  have e1 : (swC c i).getD 1 0 = c.getD i 0 := by
    unfold swC
    by_cases e : i = 1
    · subst e; rw [getD_set_eq _ _ _ (by rw [List.length_set]; omega)]
    · rw [getD_set_ne _ _ _ (by omega), getD_set_eq _ _ _ (by omega)]
  refine ⟨⟨by unfold swC; rw [List.length_set, List.length_set]; omega, ?_⟩, fun x => ?_⟩
  · rw [e0, e1, List.getD_eq_getElem?_getD (l := c) (i := i), List.getElem?_eq_getElem hi, Option.getD_some]
    exact Ne.symm h3
  · by_cases e : i = 1
    · subst e
      unfold swC
      rw [List.set_set]
      have : c.set 1 (c.getD 1 0) = c := by
        rw [List.getD_eq_getElem?_getD, List.getElem?_eq_getElem hi, Option.getD_some, List.set_getElem_self]
      rw [this]
    · exact set2_iff (by omega) hi (by omega) x

theorem cl_put (T : Tr) (c : List Int) (m : Nat) : (T.L ++ [c]).getD m [] = if m = T.L.length then c else cl T m := by
  by_cases e : m = T.L.length
  · rw [if_pos e, e, List.getD_eq_getElem?_getD, List.getElem?_append_right (Nat.le_refl _)]; simp
  · rw [if_neg e]
    by_cases h : m < T.L.length
    · rw [List.getD_eq_getElem?_getD, List.getElem?_append_left h, ← List.getD_eq_getElem?_getD]; rfl
    · unfold cl
      rw [List.getD_eq_getElem?_getD, List.getElem?_eq_none (by simp; omega), List.getD_eq_getElem?_getD, List.getElem?_eq_none (by omega)]

/-- What an added clause leaves, whatever is done with the watched and the short ones. -/
theorem Good.put_core (h : Good n T) (c : List Int) (W : List (List Int)) (short : List Int) (hc : c.length ≤ 20000 ∧ ∀ x ∈ c, 1 ≤ x.natAbs ∧ x.natAbs ≤ n) (hL : T.L.length + 1 ≤ 300000) (hp : Alike c ∨ Long c) (hW : W.length = T.W.length)
    (wIn : ∀ j k, k ∈ W.getD j [] → k ∈ T.W.getD j [] ∨ (k = (T.L.length : Nat) ∧ Long c ∧ (j = sideN (c.getD 0 0) ∨ j = sideN (c.getD 1 0))))
    (wUp : ∀ j k, k ∈ T.W.getD j [] → k ∈ W.getD j []) (wOf : Long c → ((T.L.length : Nat) : Int) ∈ W.getD (sideN (c.getD 0 0)) [] ∧ ((T.L.length : Nat) : Int) ∈ W.getD (sideN (c.getD 1 0)) []) (wNd : ∀ j, (W.getD j []).Nodup)
    (sIn : ∀ k, k ∈ short → k ∈ T.short ∨ (k = (T.L.length : Nat) ∧ Alike c)) (sUp : ∀ k, k ∈ T.short → k ∈ short) (sOf : ¬ Long c → ((T.L.length : Nat) : Int) ∈ short) (sl : short.length ≤ T.L.length + 1) :
    Good n { T with L := T.L ++ [c], W := W, short := short, nx := 0 } := by
  have hl : (T.L ++ [c]).length = T.L.length + 1 := by simp
  have e : ∀ m, cl { T with L := T.L ++ [c], W := W, short := short, nx := 0 } m = if m = T.L.length then c else cl T m := fun m => cl_put T c m
  have eo : ∀ m, m < T.L.length → cl { T with L := T.L ++ [c], W := W, short := short, nx := 0 } m = cl T m := fun m hm => by rw [e, if_neg (by omega)]
  have en : cl { T with L := T.L ++ [c], W := W, short := short, nx := 0 } T.L.length = c := by rw [e, if_pos rfl]
  refine { ok := ⟨h.ok.fl, h.ok.n2, hW.trans h.ok.wl, h.ok.small, fun d hd => ?_, by show (T.L ++ [c]).length ≤ _; omega⟩
           part := fun m hm => ?_, wIn := fun j k hk => ?_, wOf := fun m hm hLg => ?_, wNd := wNd, shIn := fun k hk => ?_, shOf := fun m hm hLg => ?_, shl := by show short.length ≤ (T.L ++ [c]).length; omega
           lit := h.lit, nd := h.nd, nxl := Nat.zero_le _, vis := fun p hp => absurd hp (by show ¬ p < 0; omega), stUp := h.stUp, stIn := h.stIn, lev := h.lev, rs := fun i hi => ?_, unk := h.unk }
  · rcases List.mem_append.1 hd with hd | hd
    · exact h.ok.cl d hd
    · rw [List.mem_singleton] at hd; subst hd; exact hc
  · have hm : m < (T.L ++ [c]).length := hm
    by_cases em : m < T.L.length
    · rw [eo m em]; exact h.part m em
    · obtain rfl : m = T.L.length := by omega
      rw [en]; exact hp
  · rcases wIn j k hk with hk | ⟨rfl, a, b⟩
    · obtain ⟨m, rfl, hm, hLg, ho⟩ := h.wIn j k hk
      exact ⟨m, rfl, by show m < (T.L ++ [c]).length; omega, by rw [eo m hm]; exact hLg, by rw [eo m hm]; exact ho⟩
    · exact ⟨T.L.length, rfl, by show T.L.length < (T.L ++ [c]).length; omega, by rw [en]; exact a, by rw [en]; exact b⟩
  · have hm : m < (T.L ++ [c]).length := hm
    by_cases em : m < T.L.length
    · rw [eo m em] at hLg ⊢
      obtain ⟨a, b⟩ := h.wOf m em hLg
      exact ⟨wUp _ _ a, wUp _ _ b⟩
    · obtain rfl : m = T.L.length := by omega
      rw [en] at hLg ⊢; exact wOf hLg
  · rcases sIn k hk with hk | ⟨rfl, a⟩
    · obtain ⟨m, rfl, hm, hA⟩ := h.shIn k hk
      exact ⟨m, rfl, by show m < (T.L ++ [c]).length; omega, by rw [eo m hm]; exact hA⟩
    · exact ⟨T.L.length, rfl, by show T.L.length < (T.L ++ [c]).length; omega, by rw [en]; exact a⟩
  · have hm : m < (T.L ++ [c]).length := hm
    by_cases em : m < T.L.length
    · rw [eo m em] at hLg; exact sUp _ (h.shOf m em hLg)
    · obtain rfl : m = T.L.length := by omega
      rw [en] at hLg; exact sOf hLg
  · rcases h.rs i hi with h1 | ⟨h1, m, h2, h3, h4, h5⟩
    · exact .inl h1
    · exact .inr ⟨h1, m, by show m < (T.L ++ [c]).length; omega, h3, by rw [eo m h2]; exact h4, by rw [eo m h2]; exact h5⟩

theorem push_get (W : List (List Int)) (s k j : Nat) (hs : s < W.length) : (push W s k).getD j [] = if j = s then W.getD s [] ++ [(k : Int)] else W.getD j [] := by
  unfold push
  by_cases e : j = s
  · rw [if_pos e, e, getD_set_eq _ _ _ hs]
  · rw [if_neg e, getD_set_ne _ _ _ (Ne.symm e)]
theorem push_len (W : List (List Int)) (s k : Nat) : (push W s k).length = W.length := by unfold push; rw [List.length_set]

/-- What a clause put in leaves. -/
structure PutRes (n : Nat) (T : Tr) (c : List Int) (T' : Tr) : Prop where
  good : Good n T'
  ll : T'.L.length = T.L.length + 1
  old : ∀ m, m < T.L.length → cl T' m = cl T m
  new : ∀ x, x ∈ cl T' T.L.length ↔ x ∈ c
  F : T'.F = T.F
  lits : T'.lits = T.lits
  starts : T'.starts = T.starts

theorem Good.put (h : Good n T) (c : List Int) (hc : c.length ≤ 20000 ∧ ∀ x ∈ c, 1 ≤ x.natAbs ∧ x.natAbs ≤ n) (hL : T.L.length + 1 ≤ 300000) : PutRes n T c (putT T c) := by
  have fresh : ∀ j, ((T.L.length : Nat) : Int) ∉ T.W.getD j [] := fun j hj => by
    obtain ⟨m, e, hm, _⟩ := h.wIn j _ hj
    omega
  unfold putT
  cases hu : unlike c with
  | none =>
    have hA := unlike_none hu
    have g := h.put_core c T.W (T.short ++ [((T.L.length : Nat) : Int)]) hc hL (.inl hA) rfl (fun j k hk => .inl hk) (fun j k hk => hk) (fun hl => absurd hA (long_not_alike hl)) h.wNd
      (fun k hk => by
        rcases List.mem_append.1 hk with hk | hk
        · exact .inl hk
        · rw [List.mem_singleton] at hk; exact .inr ⟨hk, hA⟩)
      (fun k hk => List.mem_append_left _ hk) (fun _ => List.mem_append_right _ (List.mem_singleton.2 rfl)) (by rw [List.length_append, List.length_singleton]; have := h.shl; omega)
    exact ⟨g, by show (T.L ++ [c]).length = _; simp, fun m hm => (cl_put T c m).trans (if_neg (by omega)), fun x => by
      have e : (T.L ++ [c]).getD T.L.length [] = c := (cl_put T c T.L.length).trans (if_pos rfl)
      show x ∈ (T.L ++ [c]).getD T.L.length [] ↔ x ∈ c
      rw [e], rfl, rfl, rfl⟩
  | some i =>
    obtain ⟨hl, hm⟩ := unlike_long hu
    have hc' : (swC c i).length ≤ 20000 ∧ ∀ x ∈ swC c i, 1 ≤ x.natAbs ∧ x.natAbs ≤ n := ⟨by unfold swC; rw [List.length_set, List.length_set]; exact hc.1, fun x hx => hc.2 x ((hm x).1 hx)⟩
    have b0 := hc'.2 _ (mem_getD (d := 0) (show 0 < (swC c i).length by have := hl.1; omega))
    have b1 := hc'.2 _ (mem_getD (d := 0) (show 1 < (swC c i).length by have := hl.1; omega))
    have l0 : sideN ((swC c i).getD 0 0) < T.W.length := by rw [h.ok.wl]; exact side_lt b0
    have l1 : sideN ((swC c i).getD 1 0) < (push T.W (sideN ((swC c i).getD 0 0)) T.L.length).length := by rw [push_len, h.ok.wl]; exact side_lt b1
    have ne : sideN ((swC c i).getD 1 0) ≠ sideN ((swC c i).getD 0 0) := fun e => hl.2 (side_inj (by omega) (by omega) e).symm
    have row : ∀ j, (push (push T.W (sideN ((swC c i).getD 0 0)) T.L.length) (sideN ((swC c i).getD 1 0)) T.L.length).getD j [] = if j = sideN ((swC c i).getD 1 0) ∨ j = sideN ((swC c i).getD 0 0) then T.W.getD j [] ++ [((T.L.length : Nat) : Int)] else T.W.getD j [] := fun j => by
      rw [push_get _ _ _ _ l1]
      by_cases e1 : j = sideN ((swC c i).getD 1 0)
      · rw [if_pos e1, if_pos (.inl e1), push_get _ _ _ _ l0, if_neg ne, e1]
      · rw [if_neg e1, push_get _ _ _ _ l0]
        by_cases e0 : j = sideN ((swC c i).getD 0 0)
        · rw [if_pos e0, if_pos (.inr e0), e0]
        · rw [if_neg e0, if_neg (fun h => h.elim e1 e0)]
    have g := h.put_core (swC c i) (push (push T.W (sideN ((swC c i).getD 0 0)) T.L.length) (sideN ((swC c i).getD 1 0)) T.L.length) T.short hc' hL (.inr hl) (by rw [push_len, push_len])
      (fun j k hk => by
        rw [row] at hk
        split at hk
        · rename_i e
          rcases List.mem_append.1 hk with hk | hk
          · exact .inl hk
          · rw [List.mem_singleton] at hk; exact .inr ⟨hk, hl, e.symm⟩
        · exact .inl hk)
      (fun j k hk => by rw [row]; split; exact List.mem_append_left _ hk; exact hk)
      (fun _ => by
        rw [row, row, if_pos (.inr rfl), if_pos (.inl rfl)]
        exact ⟨List.mem_append_right _ (List.mem_singleton.2 rfl), List.mem_append_right _ (List.mem_singleton.2 rfl)⟩)
      (fun j => by
        rw [row]
        split
        · rw [List.nodup_append]
          refine ⟨h.wNd j, by simp, fun a ha b hb => ?_⟩
          rw [List.mem_singleton] at hb
          subst hb
          exact fun e => fresh j (e ▸ ha)
        · exact h.wNd j)
      (fun k hk => .inl hk) (fun k hk => hk) (fun hn => absurd hl hn) (by have := h.shl; omega)
    exact ⟨g, by show (T.L ++ [swC c i]).length = _; simp, fun m hm => (cl_put T (swC c i) m).trans (if_neg (by omega)), fun x => by
      have e : (T.L ++ [swC c i]).getD T.L.length [] = swC c i := (cl_put T (swC c i) T.L.length).trans (if_pos rfl)
      show x ∈ (T.L ++ [swC c i]).getD T.L.length [] ↔ x ∈ c
      rw [e]; exact hm x, rfl, rfl, rfl⟩

/-- All clauses put in, one behind the other. -/
def putAll (T : Tr) : List (List Int) → Tr
  | [] => T
  | c :: cs => putAll (putT T c) cs
theorem putAll_snoc (T : Tr) (cs : List (List Int)) (c : List Int) : putAll T (cs ++ [c]) = putT (putAll T cs) c := by
  induction cs generalizing T with
  | nil => rfl
  | cons a cs ih => exact ih _
structure AllRes (n : Nat) (T : Tr) (cs : List (List Int)) (T' : Tr) : Prop where
  good : Good n T'
  ll : T'.L.length = T.L.length + cs.length
  old : ∀ m, m < T.L.length → cl T' m = cl T m
  new : ∀ m, m < cs.length → ∀ x, x ∈ cl T' (T.L.length + m) ↔ x ∈ cs.getD m []
  F : T'.F = T.F
  lits : T'.lits = T.lits
  starts : T'.starts = T.starts
theorem Good.putAll : ∀ (cs : List (List Int)) (T : Tr), Good n T → (∀ c ∈ cs, c.length ≤ 20000 ∧ ∀ x ∈ c, 1 ≤ x.natAbs ∧ x.natAbs ≤ n) → T.L.length + cs.length ≤ 300000 → AllRes n T cs (putAll T cs)
  | [], T, h, _, _ => ⟨h, rfl, fun _ _ => rfl, fun m hm => absurd hm (by simp), rfl, rfl, rfl⟩
  | c :: cs, T, h, hc, hL => by
    have hL' : T.L.length + (cs.length + 1) ≤ 300000 := hL
    have r := h.put c (hc c (List.mem_cons_self ..)) (by omega)
    have r2 := Good.putAll cs (putT T c) r.good (fun d hd => hc d (List.mem_cons_of_mem _ hd)) (by rw [r.ll]; omega)
    refine ⟨r2.good, by show (Ytngegkgmenfelaa.putAll (putT T c) cs).L.length = T.L.length + (cs.length + 1); rw [r2.ll, r.ll]; omega, fun m hm => (r2.old m (by rw [r.ll]; omega)).trans (r.old m hm), fun m hm x => ?_, r2.F.trans r.F, r2.lits.trans r.lits, r2.starts.trans r.starts⟩
    cases m with
    | zero =>
      have := r2.old T.L.length (by rw [r.ll]; omega)
      show x ∈ cl (Ytngegkgmenfelaa.putAll (putT T c) cs) (T.L.length + 0) ↔ x ∈ c
      rw [Nat.add_zero, this]; exact r.new x
    | succ m =>
      have hm' : m < cs.length := by simpa using hm
      have := r2.new m hm' x
      rw [r.ll, show T.L.length + 1 + m = T.L.length + (m + 1) from by omega] at this
      exact this
end Go.Proofs.Ytngegkgmenfelaa
