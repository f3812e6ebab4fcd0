/-
  How two floats stand, as plain numbers: the order of the words' rungs.
-/
import Derived.Laws.Cover2
namespace Go.Proofs.Ytbihcdjamdkinaa

/-- The rungs' height: what a rung stands for, in units of the least place. -/
def rungV (r : Nat) : Nat := if r < 4503599627370496 then r else (4503599627370496 + r % 4503599627370496) * 2 ^ (r / 4503599627370496 - 1)

theorem rungV_lt {r s : Nat} (h : r < s) : rungV r < rungV s := by
  unfold rungV
  by_cases h1 : r < 4503599627370496
  · rw [if_pos h1]
    by_cases h2 : s < 4503599627370496
    · rw [if_pos h2]; exact h
    · rw [if_neg h2]
      have : 1 ≤ 2 ^ (s / 4503599627370496 - 1) := Nat.one_le_two_pow
      calc r < 4503599627370496 := h1
        _ ≤ 4503599627370496 + s % 4503599627370496 := Nat.le_add_right _ _
        _ = (4503599627370496 + s % 4503599627370496) * 1 := (Nat.mul_one _).symm
        _ ≤ _ := Nat.mul_le_mul_left _ this
  · have h2 : ¬ s < 4503599627370496 := by omega
    rw [if_neg h1, if_neg h2]
    have e1 : 1 ≤ r / 4503599627370496 := by omega
    rcases Nat.lt_or_ge (r / 4503599627370496) (s / 4503599627370496) with hq | hq
    · have h3 : (4503599627370496 + r % 4503599627370496) < 2 * 4503599627370496 := by omega
      have h4 : 2 ^ (r / 4503599627370496 - 1) * 2 = 2 ^ (r / 4503599627370496) := by
        rw [← Nat.pow_succ]; congr 1; omega
      have h5 : 2 ^ (r / 4503599627370496) ≤ 2 ^ (s / 4503599627370496 - 1) := Nat.pow_le_pow_right (by omega) (by omega)
      have hp : 0 < 2 ^ (r / 4503599627370496 - 1) := Nat.two_pow_pos _
      calc (4503599627370496 + r % 4503599627370496) * 2 ^ (r / 4503599627370496 - 1)
          < (2 * 4503599627370496) * 2 ^ (r / 4503599627370496 - 1) := Nat.mul_lt_mul_of_pos_right h3 hp
        _ = 4503599627370496 * (2 ^ (r / 4503599627370496 - 1) * 2) := by rw [Nat.mul_comm 2, Nat.mul_assoc, Nat.mul_comm 2]
        _ = 4503599627370496 * 2 ^ (r / 4503599627370496) := by rw [h4]
        _ ≤ 4503599627370496 * 2 ^ (s / 4503599627370496 - 1) := Nat.mul_le_mul_left _ h5
        _ ≤ _ := Nat.mul_le_mul_right _ (Nat.le_add_right _ _)
    · have hq' : r / 4503599627370496 = s / 4503599627370496 := by
        have := Nat.div_le_div_right (c := 4503599627370496) (Nat.le_of_lt h); omega
      rw [hq']
      refine Nat.mul_lt_mul_of_pos_right ?_ (Nat.two_pow_pos _)
      omega

/-- The place of a rung above the least. -/
def rungE (r : Nat) : Nat := if r < 4503599627370496 then 0 else r / 4503599627370496 - 1
def rungM (r : Nat) : Nat := if r < 4503599627370496 then r else 4503599627370496 + r % 4503599627370496
theorem rungV_eq (r : Nat) : rungV r = rungM r * 2 ^ rungE r := by
  unfold rungV rungM rungE
  split <;> simp

/-- The float of some bits as a number that stands as it does: the rung, negated if the sign bit is set. -/
def fneg (x : Nat) : Bool := x / 9223372036854775808 % 2 == 1
def frung (x : Nat) : Nat := x % 9223372036854775808
def fnan (x : Nat) : Bool := decide (9218868437227405312 < frung x)
def fkey (x : Nat) : Int := if fneg x then -(frung x : Int) else frung x

theorem read_nan {x : Nat} (h : fnan x = true) : ∃ s t, FloatKind.f64.format.read x = .nan s t := by
  have h' : 9218868437227405312 < x % 9223372036854775808 := of_decide_eq_true h
  refine ⟨fneg x, x % 9223372036854775808 - 9218868437227405312, ?_⟩
  show Ieee.Format.read Ieee.double x = _
  unfold Ieee.Format.read
  simp only [show Ieee.double.signWeight = 9223372036854775808 from by decide, show Ieee.double.binade = 4503599627370496 from by decide, show Ieee.double.infRung = 9218868437227405312 from by decide]
  rw [if_neg (by omega), if_neg (by omega), if_neg (by omega)]
  rfl

theorem read_inf {x : Nat} (h : frung x = 9218868437227405312) : FloatKind.f64.format.read x = .infinity (fneg x) := by
  have h' : x % 9223372036854775808 = 9218868437227405312 := h
  show Ieee.Format.read Ieee.double x = _
  unfold Ieee.Format.read
  simp only [show Ieee.double.signWeight = 9223372036854775808 from by decide, show Ieee.double.binade = 4503599627370496 from by decide, show Ieee.double.infRung = 9218868437227405312 from by decide]
  rw [if_neg (by omega), if_neg (by omega), if_pos h']
  rfl

theorem read_num {x : Nat} (h : frung x < 9218868437227405312) : FloatKind.f64.format.read x = .number (fneg x) (rungM (frung x)) (-1074 + (rungE (frung x) : Int)) := by
  have h' : x % 9223372036854775808 < 9218868437227405312 := h
  show Ieee.Format.read Ieee.double x = _
  unfold Ieee.Format.read
  simp only [show Ieee.double.signWeight = 9223372036854775808 from by decide, show Ieee.double.binade = 4503599627370496 from by decide, show Ieee.double.infRung = 9218868437227405312 from by decide, show Ieee.double.leastPlace = -1074 from by decide]
  unfold rungM rungE fneg frung
  by_cases h1 : x % 9223372036854775808 < 4503599627370496
  · rw [if_pos h1, if_pos h1, if_pos h1]; simp
  · rw [if_neg h1, if_pos h', if_neg h1, if_neg h1]

theorem compare_same {a b c d : Int} (h1 : a < b ↔ c < d) (h2 : a = b ↔ c = d) : compare a b = compare c d := by
  show compareOfLessAndEq a b = compareOfLessAndEq c d
  unfold compareOfLessAndEq
  by_cases e1 : a < b
  · rw [if_pos e1, if_pos (h1.1 e1)]
  · rw [if_neg e1, if_neg (fun h => e1 (h1.2 h))]
    by_cases e2 : a = b
    · rw [if_pos e2, if_pos (h2.1 e2)]
    · rw [if_neg e2, if_neg (fun h => e2 (h2.2 h))]

theorem compare_ltI {a b : Int} (h : a < b) : compare a b = .lt := by
  show compareOfLessAndEq a b = _
  unfold compareOfLessAndEq
  rw [if_pos h]
theorem compare_gtI {a b : Int} (h : b < a) : compare a b = .gt := by
  show compareOfLessAndEq a b = _
  unfold compareOfLessAndEq
  rw [if_neg (by omega), if_neg (by omega)]
theorem compare_eqI {a b : Int} (h : a = b) : compare a b = .eq := by
  show compareOfLessAndEq a b = _
  unfold compareOfLessAndEq
  rw [if_neg (by omega), if_pos h]

theorem rung_scaled (r s : Nat) : ∃ A B : Nat, (rungM r <<< ((-1074 + (rungE r : Int)) - min (-1074 + (rungE r : Int)) (-1074 + (rungE s : Int))).toNat) = A ∧ (rungM s <<< ((-1074 + (rungE s : Int)) - min (-1074 + (rungE r : Int)) (-1074 + (rungE s : Int))).toNat) = B ∧
    (A < B ↔ r < s) ∧ (A = B ↔ r = s) ∧ (A = 0 ↔ r = 0) ∧ (B = 0 ↔ s = 0) := by
  refine ⟨_, _, rfl, rfl, ?_⟩
  have e1 : ((-1074 + (rungE r : Int)) - min (-1074 + (rungE r : Int)) (-1074 + (rungE s : Int))).toNat = rungE r - min (rungE r) (rungE s) := by omega
  have e2 : ((-1074 + (rungE s : Int)) - min (-1074 + (rungE r : Int)) (-1074 + (rungE s : Int))).toNat = rungE s - min (rungE r) (rungE s) := by omega
  rw [e1, e2, Nat.shiftLeft_eq, Nat.shiftLeft_eq]
  obtain ⟨d, hd⟩ : ∃ d, min (rungE r) (rungE s) = d := ⟨_, rfl⟩
  have v1 : rungM r * 2 ^ (rungE r - d) * 2 ^ d = rungV r := by
    rw [rungV_eq, Nat.mul_assoc, ← Nat.pow_add]; congr 2; omega
  have v2 : rungM s * 2 ^ (rungE s - d) * 2 ^ d = rungV s := by
    rw [rungV_eq, Nat.mul_assoc, ← Nat.pow_add]; congr 2; omega
  rw [hd]
  generalize rungM r * 2 ^ (rungE r - d) = A at *
  generalize rungM s * 2 ^ (rungE s - d) = B at *
  have hp : 0 < 2 ^ d := Nat.two_pow_pos _
  have lt : ∀ {r s A B : Nat}, A * 2 ^ d = rungV r → B * 2 ^ d = rungV s → r < s → A < B := fun {r s A B} h1 h2 h => by
    have := rungV_lt h
    rw [← h1, ← h2] at this
    exact Nat.lt_of_mul_lt_mul_right this
  have z : rungV 0 = 0 := by simp [rungV]
  have eq' : ∀ {r s A B : Nat}, A * 2 ^ d = rungV r → B * 2 ^ d = rungV s → r = s → A = B := fun {r s A B} h1 h2 h => by
    subst h
    exact Nat.eq_of_mul_eq_mul_right hp (h1.trans h2.symm)
  have main : ∀ {r s A B : Nat}, A * 2 ^ d = rungV r → B * 2 ^ d = rungV s → (A < B ↔ r < s) ∧ (A = B ↔ r = s) := fun {r s A B} h1 h2 => by
    rcases Nat.lt_trichotomy r s with h | h | h
    · have := lt h1 h2 h; omega
    · have := eq' h1 h2 h; omega
    · have := lt h2 h1 h; omega
  have q0 := main (r := r) (s := 0) (A := A) (B := 0) v1 (by simp [z])
  have q1 := main (r := s) (s := 0) (A := B) (B := 0) v2 (by simp [z])
  exact ⟨(main v1 v2).1, (main v1 v2).2, q0.2, q1.2⟩

theorem fkey_compare (x y : Nat) (hx : frung x < 9218868437227405312) (hy : frung y < 9218868437227405312) : FloatKind.f64.format.order x y = some (compare (fkey x) (fkey y)) := by
  show (FloatKind.f64.format.read x).order (FloatKind.f64.format.read y) = _
  rw [read_num hx, read_num hy]
  show some (compare (Ieee.signed _ _ _) (Ieee.signed _ _ _)) = _
  obtain ⟨A, B, e1, e2, l, q, z1, z2⟩ := rung_scaled (frung x) (frung y)
  unfold Ieee.signed fkey
  rw [e1, e2]
  congr 1
  apply compare_same
  all_goals cases fneg x <;> cases fneg y <;> simp <;> omega

theorem fneg_bool (x : Nat) : fneg x = true ∨ fneg x = false := by cases fneg x <;> simp

theorem order_f64 (x y : Nat) (hx : fnan x = false) (hy : fnan y = false) : FloatKind.f64.format.order x y = some (compare (fkey x) (fkey y)) := by
  have h1 : frung x < 9218868437227405312 ∨ frung x = 9218868437227405312 := by have := of_decide_eq_false hx; omega
  have h2 : frung y < 9218868437227405312 ∨ frung y = 9218868437227405312 := by have := of_decide_eq_false hy; omega
  rcases h1 with h1 | h1 <;> rcases h2 with h2 | h2
  · exact fkey_compare x y h1 h2
  · show (FloatKind.f64.format.read x).order (FloatKind.f64.format.read y) = _
    rw [read_num h1, read_inf h2]
    show some (if fneg y then Ordering.gt else .lt) = _
    unfold fkey
    rw [h2]
    rcases fneg_bool y with e' | e' <;> rw [e'] <;> rcases fneg_bool x with e | e <;> rw [e]
    · rw [compare_gtI (by simp; omega)]; rfl
    · rw [compare_gtI (by simp; omega)]; rfl
    · rw [compare_ltI (by simp; omega)]; rfl
    · rw [compare_ltI (by simp; omega)]; rfl
  · show (FloatKind.f64.format.read x).order (FloatKind.f64.format.read y) = _
    rw [read_inf h1, read_num h2]
    show some (if fneg x then Ordering.lt else .gt) = _
    unfold fkey
    rw [h1]
    rcases fneg_bool x with e' | e' <;> rw [e'] <;> rcases fneg_bool y with e | e <;> rw [e]
    · rw [compare_ltI (by simp; omega)]; rfl
    · rw [compare_ltI (by simp; omega)]; rfl
    · rw [compare_gtI (by simp; omega)]; rfl
    · rw [compare_gtI (by simp; omega)]; rfl
  · show (FloatKind.f64.format.read x).order (FloatKind.f64.format.read y) = _
    rw [read_inf h1, read_inf h2]
    unfold fkey
    rw [h1, h2]
    rcases fneg_bool x with e | e <;> rcases fneg_bool y with e' | e' <;> rw [e, e'] <;> decide

theorem order_f64_nan (x y : Nat) (h : fnan x = true ∨ fnan y = true) : FloatKind.f64.format.order x y = none := by
  show (FloatKind.f64.format.read x).order (FloatKind.f64.format.read y) = none
  rcases h with h | h
  · obtain ⟨s, t, e⟩ := read_nan h
    rw [e]; rfl
  · obtain ⟨s, t, e⟩ := read_nan h
    rw [e]; cases FloatKind.f64.format.read x <;> rfl

/-- How two floats stand: none is less than all, and as itself. -/
def fcmp (x y : Nat) : Int :=
  if fnan x then (if fnan y then 0 else -1) else if fnan y then 1 else if fkey x < fkey y then -1 else if fkey y < fkey x then 1 else 0
end Go.Proofs.Ytbihcdjamdkinaa
