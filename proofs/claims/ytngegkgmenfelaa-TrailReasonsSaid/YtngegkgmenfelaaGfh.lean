/-
  PLAIN: a new trail, a clause put in: Good.
-/
import Derived.Test.YtngegkgmenfelaaGae
import Derived.Test.YtngegkgmenfelaaWs
namespace Go.Proofs.Ytngegkgmenfelaa
open Go.RowKit Go.Lib
variable {n : Nat} {T : Tr}

def emptyT (n : Nat) : Tr := newT n (List.replicate n (0, -1, -1))

theorem factOf_empty (n : Nat) (x : Int) : factOf (emptyT n) x = (0, -1, -1) := by
  by_cases h : 1 ≤ x.natAbs ∧ x.natAbs ≤ (emptyT n).F.length
  · rw [factOf_in h]
    show (List.replicate n ((0 : Int), (-1 : Int), (-1 : Int))).getD _ _ = _
    have : (emptyT n).F.length = n := by simp [emptyT, newT]
    rw [List.getD_eq_getElem?_getD, List.getElem?_replicate, if_pos (by omega)]; rfl
  · exact factOf_out h
theorem valOf_empty (n : Nat) (x : Int) : valOf (emptyT n) x = 0 := by
  unfold valOf; rw [factOf_empty]; split <;> rfl
theorem Good.new (n : Nat) (hn : n ≤ 20000) : Good n (emptyT n) where
  ok := ⟨by simp [emptyT, newT], hn, by simp [emptyT, newT], fun x => by rw [factOf_empty]; simp, fun c hc => absurd hc (by simp [emptyT, newT]), by simp [emptyT, newT]⟩
  part := fun m hm => absurd hm (by simp [emptyT, newT])
  wIn := fun j k hk => by
    have : (emptyT n).W.getD j [] = [] := by
      show (List.replicate (2 * n) ([] : List Int)).getD j [] = []
      rw [List.getD_eq_getElem?_getD, List.getElem?_replicate]; split <;> rfl
    rw [this] at hk; cases hk
  wOf := fun m hm => absurd hm (by simp [emptyT, newT])
  wNd := fun j => by
    have : (emptyT n).W.getD j [] = [] := by
      show (List.replicate (2 * n) ([] : List Int)).getD j [] = []
      rw [List.getD_eq_getElem?_getD, List.getElem?_replicate]; split <;> rfl
    rw [this]; exact List.nodup_nil
  shIn := fun k hk => absurd hk (by simp [emptyT, newT])
  shOf := fun m hm => absurd hm (by simp [emptyT, newT])
  shl := by simp [emptyT, newT]
  lit := fun x => by rw [valOf_empty]; simp [emptyT, newT]
  nd := by simp [emptyT, newT]
  nxl := by simp [emptyT, newT]
  vis := fun p hp => absurd hp (by simp [emptyT, newT])
  stUp := fun a b _ hb => absurd hb (by simp [emptyT, newT])
  stIn := fun a ha => absurd ha (by simp [emptyT, newT])
  lev := fun i hi => absurd hi (by simp [emptyT, newT])
  rs := fun i hi => absurd hi (by simp [emptyT, newT])
  unk := fun x _ => factOf_empty n x

theorem unlike_none {c : List Int} (h : unlike c = none) : Alike c := by
  intro x hx
  unfold unlike at h
  rw [List.findIdx?_eq_none_iff] at h
  have := h x hx
  rw [bne_eq_false_iff_eq] at this
  exact this
theorem unlike_long {c : List Int} {i : Nat} (h : unlike c = some i) : Long (swC c i) ∧ (∀ x, x ∈ swC c i ↔ x ∈ c) := by
  obtain ⟨h1, h2⟩ := unlike_some h rfl
  unfold unlike at h
  rw [List.findIdx?_eq_some_iff_getElem] at h
  obtain ⟨hi, h3, _⟩ := h
  rw [bne_iff_ne] at h3
  have e0 : (swC c i).getD 0 0 = c.getD 0 0 := by unfold swC; rw [getD_set_ne _ _ _ (by omega), getD_set_ne _ _ _ (by omega)]
  have e1 : (swC c i).getD 1 0 = c.getD i 0 := by
    unfold swC
    by_cases e : i = 1
    · subst e; rw [getD_set_eq _ _ _ (by rw [List.length_set]; omega)]
    · rw [getD_set_ne _ _ _ (by omega), getD_set_eq _ _ _ (by omega)]
  refine ⟨⟨by unfold swC; rw [List.length_set, List.length_set]; omega, ?_⟩, fun x => ?_⟩
  · rw [e0, e1, List.getD_eq_getElem?_getD (l := c) (i := i), List.getElem?_eq_getElem hi, Option.getD_some]
    exact Ne.symm h3
  · by_cases e : i = 1
    · subst e
      unfold swC
      rw [List.set_set]
      have : c.set 1 (c.getD 1 0) = c := by
        rw [List.getD_eq_getElem?_getD, List.getElem?_eq_getElem hi, Option.getD_some, List.set_getElem_self]
      rw [this]
    · exact set2_iff (by omega) hi (by omega) x

theorem cl_put (T : Tr) (c : List Int) (m : Nat) : (T.L ++ [c]).getD m [] = if m = T.L.length then c else cl T m := by
  by_cases e : m = T.L.length
  · rw [if_pos e, e, List.getD_eq_getElem?_getD, List.getElem?_append_right (Nat.le_refl _)]; simp
  · rw [if_neg e]
    by_cases h : m < T.L.length
    · rw [List.getD_eq_getElem?_getD, List.getElem?_append_left h, ← List.getD_eq_getElem?_getD]; rfl
    · unfold cl
      rw [List.getD_eq_getElem?_getD, List.getElem?_eq_none (by simp; omega), List.getD_eq_getElem?_getD, List.getElem?_eq_none (by omega)]

/-- What an added clause leaves, whatever is done with the watched and the short ones. -/
theorem Good.put_core (h : Good n T) (c : List Int) (W : List (List Int)) (short : List Int) (hc : c.length ≤ 20000 ∧ ∀ x ∈ c, 1 ≤ x.natAbs ∧ x.natAbs ≤ n) (hL : T.L.length + 1 ≤ 300000) (hp : Alike c ∨ Long c) (hW : W.length = T.W.length)
    (wIn : ∀ j k, k ∈ W.getD j [] → k ∈ T.W.getD j [] ∨ (k = (T.L.length : Nat) ∧ Long c ∧ (j = sideN (c.getD 0 0) ∨ j = sideN (c.getD 1 0))))
    (wUp : ∀ j k, k ∈ T.W.getD j [] → k ∈ W.getD j []) (wOf : Long c → ((T.L.length : Nat) : Int) ∈ W.getD (sideN (c.getD 0 0)) [] ∧ ((T.L.length : Nat) : Int) ∈ W.getD (sideN (c.getD 1 0)) []) (wNd : ∀ j, (W.getD j []).Nodup)
    (sIn : ∀ k, k ∈ short → k ∈ T.short ∨ (k = (T.L.length : Nat) ∧ Alike c)) (sUp : ∀ k, k ∈ T.short → k ∈ short) (sOf : ¬ Long c → ((T.L.length : Nat) : Int) ∈ short) (sl : short.length ≤ T.L.length + 1) :
    Good n { T with L := T.L ++ [c], W := W, short := short, nx := 0 } := by
  have hl : (T.L ++ [c]).length = T.L.length + 1 := by simp
  have e : ∀ m, cl { T with L := T.L ++ [c], W := W, short := short, nx := 0 } m = if m = T.L.length then c else cl T m := fun m => cl_put T c m
  have eo : ∀ m, m < T.L.length → cl { T with L := T.L ++ [c], W := W, short := short, nx := 0 } m = cl T m := fun m hm => by rw [e, if_neg (by omega)]
  have en : cl { T with L := T.L ++ [c], W := W, short := short, nx := 0 } T.L.length = c := by rw [e, if_pos rfl]
  refine { ok := ⟨h.ok.fl, h.ok.n2, hW.trans h.ok.wl, h.ok.small, fun d hd => ?_, by show (T.L ++ [c]).length ≤ _; omega⟩
           part := fun m hm => ?_, wIn := fun j k hk => ?_, wOf := fun m hm hLg => ?_, wNd := wNd, shIn := fun k hk => ?_, shOf := fun m hm hLg => ?_, shl := by show short.length ≤ (T.L ++ [c]).length; omega
           lit := h.lit, nd := h.nd, nxl := Nat.zero_le _, vis := fun p hp => absurd hp (by show ¬ p < 0; omega), stUp := h.stUp, stIn := h.stIn, lev := h.lev, rs := fun i hi => ?_, unk := h.unk }
  · rcases List.mem_append.1 hd with hd | hd
    · exact h.ok.cl d hd
    · rw [List.mem_singleton] at hd; subst hd; exact hc
  · have hm : m < (T.L ++ [c]).length := hm
    by_cases em : m < T.L.length
    · rw [eo m em]; exact h.part m em
    · obtain rfl : m = T.L.length := by omega
      rw [en]; exact hp
  · rcases wIn j k hk with hk | ⟨rfl, a, b⟩
    · obtain ⟨m, rfl, hm, hLg, ho⟩ := h.wIn j k hk
      exact ⟨m, rfl, by show m < (T.L ++ [c]).length; omega, by rw [eo m hm]; exact hLg, by rw [eo m hm]; exact ho⟩
    · exact ⟨T.L.length, rfl, by show T.L.length < (T.L ++ [c]).length; omega, by rw [en]; exact a, by rw [en]; exact b⟩
  · have hm : m < (T.L ++ [c]).length := hm
    by_cases em : m < T.L.length
    · rw [eo m em] at hLg ⊢
      obtain ⟨a, b⟩ := h.wOf m em hLg
      exact ⟨wUp _ _ a, wUp _ _ b⟩
    · obtain rfl : m = T.L.length := by omega
      rw [en] at hLg ⊢; exact wOf hLg
  · rcases sIn k hk with hk | ⟨rfl, a⟩
    · obtain ⟨m, rfl, hm, hA⟩ := h.shIn k hk
      exact ⟨m, rfl, by show m < (T.L ++ [c]).length; omega, by rw [eo m hm]; exact hA⟩
    · exact ⟨T.L.length, rfl, by show T.L.length < (T.L ++ [c]).length; omega, by rw [en]; exact a⟩
  · have hm : m < (T.L ++ [c]).length := hm
    by_cases em : m < T.L.length
    · rw [eo m em] at hLg; exact sUp _ (h.shOf m em hLg)
    · obtain rfl : m = T.L.length := by omega
      rw [en] at hLg; exact sOf hLg
  · rcases h.rs i hi with h1 | ⟨h1, m, h2, h3, h4, h5⟩
    · exact .inl h1
    · exact .inr ⟨h1, m, by show m < (T.L ++ [c]).length; omega, h3, by rw [eo m h2]; exact h4, by rw [eo m h2]; exact h5⟩

theorem push_get (W : List (List Int)) (s k j : Nat) (hs : s < W.length) : (push W s k).getD j [] = if j = s then W.getD s [] ++ [(k : Int)] else W.getD j [] := by
  unfold push
  by_cases e : j = s
  · rw [if_pos e, e, getD_set_eq _ _ _ hs]
  · rw [if_neg e, getD_set_ne _ _ _ (Ne.symm e)]
theorem push_len (W : List (List Int)) (s k : Nat) : (push W s k).length = W.length := by unfold push; rw [List.length_set]

/-- What a clause put in leaves. -/
structure PutRes (n : Nat) (T : Tr) (c : List Int) (T' : Tr) : Prop where
  good : Good n T'
  ll : T'.L.length = T.L.length + 1
  old : ∀ m, m < T.L.length → cl T' m = cl T m
  new : ∀ x, x ∈ cl T' T.L.length ↔ x ∈ c
  F : T'.F = T.F
  lits : T'.lits = T.lits
  starts : T'.starts = T.starts

theorem Good.put (h : Good n T) (c : List Int) (hc : c.length ≤ 20000 ∧ ∀ x ∈ c, 1 ≤ x.natAbs ∧ x.natAbs ≤ n) (hL : T.L.length + 1 ≤ 300000) : PutRes n T c (putT T c) := by
  have fresh : ∀ j, ((T.L.length : Nat) : Int) ∉ T.W.getD j [] := fun j hj => by
    obtain ⟨m, e, hm, _⟩ := h.wIn j _ hj
    omega
  unfold putT
  cases hu : unlike c with
  | none =>
    have hA := unlike_none hu
    have g := h.put_core c T.W (T.short ++ [((T.L.length : Nat) : Int)]) hc hL (.inl hA) rfl (fun j k hk => .inl hk) (fun j k hk => hk) (fun hl => absurd hA (long_not_alike hl)) h.wNd
      (fun k hk => by
        rcases List.mem_append.1 hk with hk | hk
        · exact .inl hk
        · rw [List.mem_singleton] at hk; exact .inr ⟨hk, hA⟩)
      (fun k hk => List.mem_append_left _ hk) (fun _ => List.mem_append_right _ (List.mem_singleton.2 rfl)) (by rw [List.length_append, List.length_singleton]; have := h.shl; omega)
    exact ⟨g, by show (T.L ++ [c]).length = _; simp, fun m hm => (cl_put T c m).trans (if_neg (by omega)), fun x => by
      have e : (T.L ++ [c]).getD T.L.length [] = c := (cl_put T c T.L.length).trans (if_pos rfl)
      show x ∈ (T.L ++ [c]).getD T.L.length [] ↔ x ∈ c
      rw [e], rfl, rfl, rfl⟩
  | some i =>
    obtain ⟨hl, hm⟩ := unlike_long hu
    have hc' : (swC c i).length ≤ 20000 ∧ ∀ x ∈ swC c i, 1 ≤ x.natAbs ∧ x.natAbs ≤ n := ⟨by unfold swC; rw [List.length_set, List.length_set]; exact hc.1, fun x hx => hc.2 x ((hm x).1 hx)⟩
    have b0 := hc'.2 _ (mem_getD (d := 0) (show 0 < (swC c i).length by have := hl.1; omega))
    have b1 := hc'.2 _ (mem_getD (d := 0) (show 1 < (swC c i).length by have := hl.1; omega))
    have l0 : sideN ((swC c i).getD 0 0) < T.W.length := by rw [h.ok.wl]; exact side_lt b0
    have l1 : sideN ((swC c i).getD 1 0) < (push T.W (sideN ((swC c i).getD 0 0)) T.L.length).length := by rw [push_len, h.ok.wl]; exact side_lt b1
    have ne : sideN ((swC c i).getD 1 0) ≠ sideN ((swC c i).getD 0 0) := fun e => hl.2 (side_inj (by omega) (by omega) e).symm
    have row : ∀ j, (push (push T.W (sideN ((swC c i).getD 0 0)) T.L.length) (sideN ((swC c i).getD 1 0)) T.L.length).getD j [] = if j = sideN ((swC c i).getD 1 0) ∨ j = sideN ((swC c i).getD 0 0) then T.W.getD j [] ++ [((T.L.length : Nat) : Int)] else T.W.getD j [] := fun j => by
      rw [push_get _ _ _ _ l1]
      by_cases e1 : j = sideN ((swC c i).getD 1 0)
      · rw [if_pos e1, if_pos (.inl e1), push_get _ _ _ _ l0, if_neg ne, e1]
      · rw [if_neg e1, push_get _ _ _ _ l0]
        by_cases e0 : j = sideN ((swC c i).getD 0 0)
        · rw [if_pos e0, if_pos (.inr e0), e0]
        · rw [if_neg e0, if_neg (fun h => h.elim e1 e0)]
    have g := h.put_core (swC c i) (push (push T.W (sideN ((swC c i).getD 0 0)) T.L.length) (sideN ((swC c i).getD 1 0)) T.L.length) T.short hc' hL (.inr hl) (by rw [push_len, push_len])
      (fun j k hk => by
        rw [row] at hk
        split at hk
        · rename_i e
          rcases List.mem_append.1 hk with hk | hk
          · exact .inl hk
          · rw [List.mem_singleton] at hk; exact .inr ⟨hk, hl, e.symm⟩
        · exact .inl hk)
      (fun j k hk => by rw [row]; split; exact List.mem_append_left _ hk; exact hk)
      (fun _ => by
        rw [row, row, if_pos (.inr rfl), if_pos (.inl rfl)]
        exact ⟨List.mem_append_right _ (List.mem_singleton.2 rfl), List.mem_append_right _ (List.mem_singleton.2 rfl)⟩)
      (fun j => by
        rw [row]
        split
        · rw [List.nodup_append]
          refine ⟨h.wNd j, by simp, fun a ha b hb => ?_⟩
          rw [List.mem_singleton] at hb
          subst hb
          exact fun e => fresh j (e ▸ ha)
        · exact h.wNd j)
      (fun k hk => .inl hk) (fun k hk => hk) (fun hn => absurd hl hn) (by have := h.shl; omega)
    exact ⟨g, by show (T.L ++ [swC c i]).length = _; simp, fun m hm => (cl_put T (swC c i) m).trans (if_neg (by omega)), fun x => by
      have e : (T.L ++ [swC c i]).getD T.L.length [] = swC c i := (cl_put T (swC c i) T.L.length).trans (if_pos rfl)
      show x ∈ (T.L ++ [swC c i]).getD T.L.length [] ↔ x ∈ c
      rw [e]; exact hm x, rfl, rfl, rfl⟩

/-- All clauses put in, one behind the other. -/
def putAll (T : Tr) : List (List Int) → Tr
  | [] => T
  | c :: cs => putAll (putT T c) cs
theorem putAll_snoc (T : Tr) (cs : List (List Int)) (c : List Int) : putAll T (cs ++ [c]) = putT (putAll T cs) c := by
  induction cs generalizing T with
  | nil => rfl
  | cons a cs ih => exact ih _
structure AllRes (n : Nat) (T : Tr) (cs : List (List Int)) (T' : Tr) : Prop where
  good : Good n T'
  ll : T'.L.length = T.L.length + cs.length
  old : ∀ m, m < T.L.length → cl T' m = cl T m
  new : ∀ m, m < cs.length → ∀ x, x ∈ cl T' (T.L.length + m) ↔ x ∈ cs.getD m []
  F : T'.F = T.F
  lits : T'.lits = T.lits
  starts : T'.starts = T.starts
theorem Good.putAll : ∀ (cs : List (List Int)) (T : Tr), Good n T → (∀ c ∈ cs, c.length ≤ 20000 ∧ ∀ x ∈ c, 1 ≤ x.natAbs ∧ x.natAbs ≤ n) → T.L.length + cs.length ≤ 300000 → AllRes n T cs (putAll T cs)
  | [], T, h, _, _ => ⟨h, rfl, fun _ _ => rfl, fun m hm => absurd hm (by simp), rfl, rfl, rfl⟩
  | c :: cs, T, h, hc, hL => by
    have hL' : T.L.length + (cs.length + 1) ≤ 300000 := hL
    have r := h.put c (hc c (List.mem_cons_self ..)) (by omega)
    have r2 := Good.putAll cs (putT T c) r.good (fun d hd => hc d (List.mem_cons_of_mem _ hd)) (by rw [r.ll]; omega)
    refine ⟨r2.good, by show (Ytngegkgmenfelaa.putAll (putT T c) cs).L.length = T.L.length + (cs.length + 1); rw [r2.ll, r.ll]; omega, fun m hm => (r2.old m (by rw [r.ll]; omega)).trans (r.old m hm), fun m hm x => ?_, r2.F.trans r.F, r2.lits.trans r.lits, r2.starts.trans r.starts⟩
    cases m with
    | zero =>
      have := r2.old T.L.length (by rw [r.ll]; omega)
      show x ∈ cl (Ytngegkgmenfelaa.putAll (putT T c) cs) (T.L.length + 0) ↔ x ∈ c
      rw [Nat.add_zero, this]; exact r.new x
    | succ m =>
      have hm' : m < cs.length := by simpa using hm
      have := r2.new m hm' x
      rw [r.ll, show T.L.length + 1 + m = T.L.length + (m + 1) from by omega] at this
      exact this
end Go.Proofs.Ytngegkgmenfelaa

/-
  PLAIN: Decide keeps Good.
-/
namespace Go.Proofs.Ytngegkgmenfelaa
open Go.RowKit Go.Lib
variable {n : Nat} {T : Tr}

theorem Good.decided (h : Good n T) (y : Int) (hy : 1 ≤ y.natAbs ∧ y.natAbs ≤ n) (hv : valOf T y = 0) : Good n (decideT T y) := by
  have hyF : 1 ≤ y.natAbs ∧ y.natAbs ≤ (startT T).F.length := by rw [show (startT T).F.length = n from h.ok.fl]; exact hy
  have hv' : valOf T (-y) = 0 := by rw [valOf_neg, hv]; rfl
  have vm : ∀ x, valOf (decideT T y) x = if x = y then 1 else if x = -y then -1 else valOf T x := fun x => valOf_make (startT T) y (-1) x hyF
  have fm : ∀ x, factOf (decideT T y) x = if x.natAbs = y.natAbs then (sgn y, (((startT T).starts.length : Nat) : Int), -1) else factOf T x := fun x => factOf_make (startT T) y (-1) x hyF
  have v1 : ∀ x, valOf T x = 1 → valOf (decideT T y) x = 1 := fun x hx => by
    rw [vm]
    have e1 : ¬ x = y := fun e => by rw [e, hv] at hx; omega
    have e2 : ¬ x = -y := fun e => by rw [e, hv'] at hx; omega
    rw [if_neg e1, if_neg e2]; exact hx
  have fo : ∀ x, valOf T x ≠ 0 → factOf (decideT T y) x = factOf T x := fun x hx => by
    rw [fm, if_neg]
    intro e
    have : x = y ∨ x = -y := by omega
    rcases this with e | e
    · rw [e, hv] at hx; exact hx rfl
    · rw [e, hv'] at hx; exact hx rfl
  have hyl : y ∉ T.lits := fun hh => by have := (h.lit y).1 hh; omega
  have gl : ∀ i, i < T.lits.length → (T.lits ++ [y]).getD i 0 = T.lits.getD i 0 := fun i hi => by
    rw [List.getD_eq_getElem?_getD, List.getElem?_append_left hi, ← List.getD_eq_getElem?_getD]
  have ge : (T.lits ++ [y]).getD T.lits.length 0 = y := by
    rw [List.getD_eq_getElem?_getD, List.getElem?_append_right (Nat.le_refl _)]; simp
  have vl : ∀ i, i < T.lits.length → valOf T (T.lits.getD i 0) ≠ 0 := fun i hi => by rw [(h.lit _).1 (mem_getD hi)]; omega
  have ll : (decideT T y).lits.length = T.lits.length + 1 := by show (T.lits ++ [y]).length = _; simp
  have fy : factOf (decideT T y) y = (sgn y, (((startT T).starts.length : Nat) : Int), -1) := by rw [fm, if_pos rfl]
  have sts : (decideT T y).starts = T.starts ++ [((T.lits.length : Nat) : Int)] := rfl
  have sl : (T.starts ++ [((T.lits.length : Nat) : Int)]).length = T.starts.length + 1 := by simp
  have sg : ∀ a, a < T.starts.length → (T.starts ++ [((T.lits.length : Nat) : Int)]).getD a 0 = T.starts.getD a 0 := fun a ha => by
    rw [List.getD_eq_getElem?_getD, List.getElem?_append_left ha, ← List.getD_eq_getElem?_getD]
  have se : (T.starts ++ [((T.lits.length : Nat) : Int)]).getD T.starts.length 0 = ((T.lits.length : Nat) : Int) := by
    rw [List.getD_eq_getElem?_getD, List.getElem?_append_right (Nat.le_refl _)]; simp
  have sm : ∀ s ∈ T.starts, 0 ≤ s ∧ s < ((T.lits.length : Nat) : Int) := fun s hs => by
    obtain ⟨a, ha, rfl⟩ := List.getElem_of_mem hs
    have := h.stIn a ha
    rw [List.getD_eq_getElem?_getD, List.getElem?_eq_getElem ha, Option.getD_some] at this
    exact this
  refine { h with
    ok := ⟨by show (T.F.set _ _).length = _; rw [List.length_set]; exact h.ok.fl, h.ok.n2, h.ok.wl, fun x => ?_, h.ok.cl, h.ok.ll⟩
    lit := fun x => ?_, nd := ?_, nxl := ?_, vis := fun p hp m hm hL => ?_, stUp := fun a b hab hb => ?_, stIn := fun a ha => ?_, lev := fun i hi => ?_, rs := fun i hi => ?_, unk := fun x hx => ?_ }
  · rw [fm]
    split
    · unfold sgn; split <;> simp
    · exact h.ok.small x
  · show x ∈ T.lits ++ [y] ↔ _
    rw [List.mem_append, List.mem_singleton, h.lit x, vm]
    by_cases e1 : x = y
    · rw [if_pos e1]; simp [e1]
    · rw [if_neg e1]
      by_cases e2 : x = -y
      · rw [if_pos e2, e2, hv']; have : ¬ -y = y := by omega
        simp [this]
      · rw [if_neg e2]; simp [e1]
  · show (T.lits ++ [y]).Nodup
    rw [List.nodup_append]
    refine ⟨h.nd, by simp, fun a ha b hb => ?_⟩
    rw [List.mem_singleton] at hb
    subst hb
    exact fun e => hyl (e ▸ ha)
  · rw [ll]; have := h.nxl; show T.nx ≤ _; omega
  · have hp' : p < T.lits.length := Nat.lt_of_lt_of_le hp h.nxl
    show ((cl T m).getD 0 0 = -((T.lits ++ [y]).getD p 0) → _) ∧ ((cl T m).getD 1 0 = -((T.lits ++ [y]).getD p 0) → _)
    rw [gl p hp']
    obtain ⟨a, b⟩ := h.vis p hp m hm hL
    exact ⟨fun e => v1 _ (a e), fun e => v1 _ (b e)⟩
  · rw [sts, sl] at hb
    rw [sts, sg a (by omega)]
    by_cases e : b < T.starts.length
    · rw [sg b e]; exact h.stUp a b hab e
    · obtain rfl : b = T.starts.length := by omega
      rw [se]; exact (h.stIn a (by omega)).2
  · rw [sts, sl] at ha
    rw [sts, ll]
    by_cases e : a < T.starts.length
    · rw [sg a e]; have := h.stIn a e; omega
    · obtain rfl : a = T.starts.length := by omega
      rw [se]; omega
  · rw [ll] at hi
    rw [sts, List.countP_append]
    show (factOf (decideT T y) ((T.lits ++ [y]).getD i 0)).2.1 = _
    by_cases e : i < T.lits.length
    · rw [gl i e, fo _ (vl i e), h.lev i e]
      have : List.countP (fun s => decide (s ≤ ((i : Nat) : Int))) [((T.lits.length : Nat) : Int)] = 0 := by
        rw [List.countP_eq_zero]; intro s hs; rw [List.mem_singleton] at hs; subst hs; simp; omega
      rw [this, Nat.add_zero]
    · obtain rfl : i = T.lits.length := by omega
      rw [ge, fy]
      show ((((T.starts ++ [((T.lits.length : Nat) : Int)]).length : Nat)) : Int) = _
      rw [sl]
      have c1 : List.countP (fun s => decide (s ≤ ((T.lits.length : Nat) : Int))) T.starts = T.starts.length := by
        rw [List.countP_eq_length]; intro s hs; have := sm s hs; simp; omega
      have c2 : List.countP (fun s => decide (s ≤ ((T.lits.length : Nat) : Int))) [((T.lits.length : Nat) : Int)] = 1 := by
        rw [List.countP_cons, if_pos (by simp), List.countP_nil]
      rw [c1, c2]
  · rw [ll] at hi
    rw [sts]
    show (((i : Nat) : Int) ∈ T.starts ++ [((T.lits.length : Nat) : Int)] ∧ (factOf (decideT T y) ((T.lits ++ [y]).getD i 0)).2.2 = -1) ∨ (((i : Nat) : Int) ∉ T.starts ++ [((T.lits.length : Nat) : Int)] ∧ ∃ m : Nat, m < T.L.length ∧ (factOf (decideT T y) ((T.lits ++ [y]).getD i 0)).2.2 = (m : Nat) ∧ (T.lits ++ [y]).getD i 0 ∈ cl T m ∧ ∀ z ∈ cl T m, z ≠ (T.lits ++ [y]).getD i 0 → -z ∈ (T.lits ++ [y]).take i)
    by_cases e : i < T.lits.length
    · have et : (T.lits ++ [y]).take i = T.lits.take i := List.take_append_of_le_length (by omega)
      rw [gl i e, fo _ (vl i e), et, List.mem_append, List.mem_singleton]
      rcases h.rs i e with ⟨h1, h2⟩ | ⟨h1, h2⟩
      · exact .inl ⟨.inl h1, h2⟩
      · exact .inr ⟨fun hh => hh.elim h1 (fun hh => by omega), h2⟩
    · obtain rfl : i = T.lits.length := by omega
      rw [ge, fy]
      exact .inl ⟨List.mem_append_right _ (List.mem_singleton.2 rfl), rfl⟩
  · rw [vm] at hx
    by_cases e1 : x = y
    · rw [if_pos e1] at hx; omega
    · rw [if_neg e1] at hx
      by_cases e2 : x = -y
      · rw [if_pos e2] at hx; omega
      · rw [if_neg e2] at hx
        rw [fm, if_neg (by omega)]
        exact h.unk x hx
end Go.Proofs.Ytngegkgmenfelaa

/-
  PLAIN: Back keeps Good.
-/
namespace Go.Proofs.Ytngegkgmenfelaa
open Go.RowKit Go.Lib
variable {n : Nat} {T : Tr}

theorem clearF_get (d : Int × Int × Int) : ∀ (xs : List Int) (F : List (Int × Int × Int)) (i : Nat), i < F.length → (clearF F xs).getD i d = if ∃ x ∈ xs, x.natAbs - 1 = i then (0, -1, -1) else F.getD i d
  | [], F, i, _ => by rw [if_neg (by simp)]; rfl
  | x :: xs, F, i, hi => by
    show (clearF (F.set (x.natAbs - 1) (0, -1, -1)) xs).getD i d = _
    rw [clearF_get d xs _ i (by rw [List.length_set]; exact hi)]
    by_cases h : ∃ z ∈ xs, z.natAbs - 1 = i
    · obtain ⟨z, hz, e⟩ := h
      rw [if_pos ⟨z, hz, e⟩, if_pos ⟨z, List.mem_cons_of_mem _ hz, e⟩]
    · rw [if_neg h]
      by_cases e : x.natAbs - 1 = i
      · rw [if_pos ⟨x, List.mem_cons_self .., e⟩, e, getD_set_eq _ _ _ hi]
      · rw [getD_set_ne _ _ _ e, if_neg]
        rintro ⟨z, hz, ez⟩
        rcases List.mem_cons.1 hz with rfl | hz
        · exact e ez
        · exact h ⟨z, hz, ez⟩

theorem factOf_back (h : Good n T) (lv : Nat) (x : Int) : factOf (backT T lv) x = if x ∈ T.lits.drop (startOf T lv) ∨ -x ∈ T.lits.drop (startOf T lv) then (0, -1, -1) else factOf T x := by
  have fl : (backT T lv).F.length = T.F.length := clearF_len _ _
  by_cases hv : 1 ≤ x.natAbs ∧ x.natAbs ≤ T.F.length
  · rw [factOf_in (by rw [fl]; exact hv), factOf_in hv]
    show (clearF T.F _).getD _ _ = _
    rw [clearF_get _ _ _ _ (by omega)]
    have hm : ∀ z ∈ T.lits.drop (startOf T lv), 1 ≤ z.natAbs := fun z hz => (h.litVar (List.mem_of_mem_drop hz)).1
    by_cases e : x ∈ T.lits.drop (startOf T lv) ∨ -x ∈ T.lits.drop (startOf T lv)
    · rw [if_pos e, if_pos]
      rcases e with e | e
      · exact ⟨x, e, rfl⟩
      · exact ⟨-x, e, by rw [Int.natAbs_neg]⟩
    · rw [if_neg e, if_neg]
      rintro ⟨z, hz, ez⟩
      have := hm z hz
      have : z = x ∨ z = -x := by omega
      rcases this with rfl | rfl
      · exact e (.inl hz)
      · exact e (.inr hz)
  · rw [factOf_out (by rw [fl]; exact hv), factOf_out hv]; simp
theorem valOf_back (h : Good n T) (lv : Nat) (x : Int) : valOf (backT T lv) x = if x ∈ T.lits.drop (startOf T lv) ∨ -x ∈ T.lits.drop (startOf T lv) then 0 else valOf T x := by
  unfold valOf
  rw [factOf_back h lv x]
  by_cases e : x ∈ T.lits.drop (startOf T lv) ∨ -x ∈ T.lits.drop (startOf T lv)
  · rw [if_pos e, if_pos e]; split <;> rfl
  · rw [if_neg e, if_neg e]

theorem Good.back (h : Good n T) (lv : Nat) (hlv : lv < T.starts.length) : Good n (backT T lv) := by
  have hs := h.stIn lv hlv
  obtain ⟨s, es⟩ : ∃ s : Nat, T.starts.getD lv 0 = (s : Nat) := ⟨(T.starts.getD lv 0).toNat, by omega⟩
  have hso : startOf T lv = s := by unfold startOf; rw [es]; rfl
  have hsl : s < T.lits.length := by omega
  have vb := valOf_back h lv
  have fb := factOf_back h lv
  rw [hso] at vb fb
  have tl : (T.lits.take s).length = s := by rw [List.length_take]; omega
  have nd := h.nd
  rw [← List.take_append_drop s T.lits, List.nodup_append] at nd
  have keepT : ∀ x ∈ T.lits.take s, ¬ (x ∈ T.lits.drop s ∨ -x ∈ T.lits.drop s) := fun x hx hh => by
    rcases hh with hh | hh
    · exact nd.2.2 x hx x hh rfl
    · have h1 := (h.lit x).1 (List.mem_of_mem_take hx)
      have h2 := (h.lit (-x)).1 (List.mem_of_mem_drop hh)
      rw [valOf_neg] at h2; omega
  have gl : ∀ i, i < s → (T.lits.take s).getD i 0 = T.lits.getD i 0 := fun i hi => by
    rw [List.getD_eq_getElem?_getD, List.getElem?_take_of_lt hi, ← List.getD_eq_getElem?_getD]
  have gm : ∀ i, i < s → T.lits.getD i 0 ∈ T.lits.take s := fun i hi => by rw [← gl i hi]; exact mem_getD (by rw [tl]; exact hi)
  have sl : (T.starts.take lv).length = lv := by rw [List.length_take]; omega
  have sg : ∀ a, a < lv → (T.starts.take lv).getD a 0 = T.starts.getD a 0 := fun a ha => by
    rw [List.getD_eq_getElem?_getD, List.getElem?_take_of_lt ha, ← List.getD_eq_getElem?_getD]
  have sd : ∀ z ∈ T.starts.drop lv, (s : Int) ≤ z := fun z hz => by
    obtain ⟨a, ha, rfl⟩ := List.getElem_of_mem hz
    rw [List.length_drop] at ha
    rw [List.getElem_drop]
    have e : T.starts[lv + a] = T.starts.getD (lv + a) 0 := by rw [List.getD_eq_getElem?_getD, List.getElem?_eq_getElem (by omega), Option.getD_some]
    rw [e]
    by_cases a0 : a = 0
    · subst a0; rw [Nat.add_zero, es]; omega
    · have := h.stUp lv (lv + a) (by omega) (by omega); omega
  have stE : (backT T lv).starts = T.starts.take lv := rfl
  have liE : (backT T lv).lits = T.lits.take s := by show T.lits.take (startOf T lv) = _; rw [hso]
  refine {
    ok := ⟨by show (clearF _ _).length = _; rw [clearF_len]; exact h.ok.fl, h.ok.n2, h.ok.wl, fun x => ?_, h.ok.cl, h.ok.ll⟩
    part := h.part, wIn := h.wIn, wOf := h.wOf, wNd := h.wNd, shIn := h.shIn, shOf := h.shOf, shl := h.shl
    lit := fun x => ?_, nd := by rw [liE]; exact nd.1, nxl := Nat.zero_le _, vis := fun p hp => absurd hp (by show ¬ p < 0; omega), stUp := fun a b hab hb => ?_, stIn := fun a ha => ?_, lev := fun i hi => ?_, rs := fun i hi => ?_, unk := fun x hx => ?_ }
  · rw [fb]
    split
    · simp
    · exact h.ok.small x
  · rw [liE, vb]
    by_cases e : x ∈ T.lits.drop s ∨ -x ∈ T.lits.drop s
    · rw [if_pos e]
      exact ⟨fun hx => absurd e (keepT x hx), fun hh => absurd hh (by omega)⟩
    · rw [if_neg e, ← h.lit]
      refine ⟨List.mem_of_mem_take, fun hx => ?_⟩
      rw [← List.take_append_drop s T.lits] at hx
      rcases List.mem_append.1 hx with hx | hx
      · exact hx
      · exact absurd (.inl hx) e
  · rw [stE, sl] at hb
    rw [stE, sg a (by omega), sg b hb]; exact h.stUp a b hab (by omega)
  · rw [stE, sl] at ha
    rw [stE, liE, tl, sg a ha]
    have h1 := h.stIn a (by omega)
    have h2 := h.stUp a lv ha hlv
    omega
  · rw [liE, tl] at hi
    rw [liE, gl i hi, fb, if_neg (keepT _ (gm i hi)), h.lev i (by omega), stE]
    congr 1
    conv => lhs; rw [← List.take_append_drop lv T.starts]
    rw [List.countP_append]
    have : List.countP (fun z => decide (z ≤ ((i : Nat) : Int))) (T.starts.drop lv) = 0 := by
      rw [List.countP_eq_zero]; intro z hz; have := sd z hz; simp; omega
    rw [this, Nat.add_zero]
  · rw [liE, tl] at hi
    have et : (T.lits.take s).take i = T.lits.take i := by rw [List.take_take, Nat.min_eq_left (by omega)]
    rw [liE, gl i hi, fb, if_neg (keepT _ (gm i hi)), stE, et]
    have iff : ((i : Nat) : Int) ∈ T.starts.take lv ↔ ((i : Nat) : Int) ∈ T.starts := by
      refine ⟨List.mem_of_mem_take, fun hh => ?_⟩
      rw [← List.take_append_drop lv T.starts] at hh
      rcases List.mem_append.1 hh with hh | hh
      · exact hh
      · have := sd _ hh; omega
    rw [iff]
    exact h.rs i (by omega)
  · rw [vb] at hx
    rw [fb]
    split
    · rfl
    · rename_i e
      rw [if_neg e] at hx
      exact h.unk x hx
end Go.Proofs.Ytngegkgmenfelaa
