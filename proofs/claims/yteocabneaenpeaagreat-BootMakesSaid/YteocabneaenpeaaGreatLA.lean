/- Plain laws, part A: whole numbers as floats are exact: read, compared, cut, turned back. No premises. -/
import Derived.Test.YteocabneaenpeaaGreatP0
set_option linter.unusedVariables false
set_option linter.unusedSimpArgs false
namespace Go.V.P
open Go.V Go.Proofs Ieee

/-- The word of a whole number. -/
def fl (n : Int) : Nat := FloatKind.f64.nearest n
theorem fl_zero : fl 0 = 0 := by decide
theorem place_eq (k : Nat) : (-1074 : Int) + ((k + 1023 - 1 : Nat) : Int) = (k : Int) - 52 := by omega
theorem read_norm (neg : Bool) (k a : Nat) (hk : k ≤ 52) (h1 : 2 ^ 52 ≤ a) (h2 : a < 2 ^ 53) :
    double.read (double.word neg ((k + 1022) * 2 ^ 52 + a)) = .number neg a ((k : Int) - 52) := by
  have hs : double.signWeight = 9223372036854775808 := by decide
  have hb : double.binade = 4503599627370496 := by decide
  have hi : double.infRung = 9218868437227405312 := by decide
  have hl : double.leastPlace = -1074 := by decide
  have e1 : (2 : Nat) ^ 52 = 4503599627370496 := by decide
  have e2 : (2 : Nat) ^ 53 = 9007199254740992 := by decide
  rw [e1] at h1; rw [e2] at h2
  rw [e1]
  generalize hr : (k + 1022) * 4503599627370496 + a = rung
  have hr1 : rung < 9218868437227405312 := by omega
  have hr2 : 4503599627370496 ≤ rung := by omega
  have hq : rung / 4503599627370496 = k + 1023 := by omega
  have hm : rung % 4503599627370496 = a - 4503599627370496 := by omega
  have hw1 : (double.word neg rung / 9223372036854775808 % 2 == 1) = neg := by
    unfold Format.word
    rw [hs]
    cases neg
    · have : rung / 9223372036854775808 % 2 = 0 := by omega
      simp [this]
    · have : (9223372036854775808 + rung) / 9223372036854775808 % 2 = 1 := by omega
      simp only [if_true]
      rw [this]
      rfl
  have hw2 : double.word neg rung % 9223372036854775808 = rung := by
    unfold Format.word
    rw [hs]
    cases neg
    · simp; omega
    · simp; omega
  unfold Format.read
  simp only [hs, hb, hi, hl, hw1, hw2]
  rw [if_neg (by omega), if_pos hr1, hq, hm]
  rw [Nat.add_sub_cancel' h1, place_eq]
theorem pow_le_log {m : Nat} (hm : m ≠ 0) (h : m < 2 ^ 53) : m.log2 ≤ 52 := by
  have := (Nat.log2_lt hm (k := 53)).2 h
  omega
theorem scaled {m : Nat} (hm : m ≠ 0) (h : m.log2 ≤ 52) : 2 ^ 52 ≤ m * 2 ^ (52 - m.log2) ∧ m * 2 ^ (52 - m.log2) < 2 ^ 53 := by
  have h1 := Nat.log2_self_le hm
  have h2 := @Nat.lt_log2_self m
  have e : (2 : Nat) ^ 52 = 2 ^ m.log2 * 2 ^ (52 - m.log2) := by rw [← Nat.pow_add]; congr 1; omega
  have e' : (2 : Nat) ^ 53 = 2 ^ (m.log2 + 1) * 2 ^ (52 - m.log2) := by rw [← Nat.pow_add]; congr 1; omega
  rw [e, e']
  exact ⟨Nat.mul_le_mul_right _ h1, Nat.mul_lt_mul_of_pos_right h2 (Nat.two_pow_pos _)⟩
theorem cut_zero (neg : Bool) (x : Nat) : Toward.even.cut neg x 0 = x := by
  unfold Toward.cut
  simp [Nat.mod_one]
theorem write_int {neg : Bool} {m : Nat} (hm : m ≠ 0) (h : m < 2 ^ 53) : double.nearest neg m 0 = double.word neg ((m.log2 + 1022) * 2 ^ 52 + m * 2 ^ (52 - m.log2)) := by
  have hk := pow_le_log hm h
  obtain ⟨h1, h2⟩ := scaled hm hk
  have hb : double.binade = 2 ^ 52 := rfl
  have hi : double.infRung = 9218868437227405312 := by decide
  have hl : double.leastPlace = -1074 := by decide
  have hf : (double.fractionBits : Int) = 52 := rfl
  unfold Format.nearest
  rw [if_neg hm]
  simp only [hb, hi, hl, hf]
  have e1 : max ((0 : Int) + m.log2 - 52) (-1074) = (m.log2 : Int) - 52 := by omega
  rw [e1]
  have e2 : ((0 : Int) - ((m.log2 : Int) - 52)).toNat = 52 - m.log2 := by omega
  have e3 : (((m.log2 : Int) - 52) - 0).toNat = 0 := by omega
  have e4 : (((m.log2 : Int) - 52) - -1074).toNat = m.log2 + 1022 := by omega
  rw [e2, e3, e4, cut_zero, Nat.shiftLeft_eq]
  congr 1
  apply Nat.min_eq_left
  have : (2 : Nat) ^ 52 = 4503599627370496 := by decide
  have : (2 : Nat) ^ 53 = 9007199254740992 := by decide
  omega
/-- What a whole number's word stands for. -/
theorem decode_fl {n : Int} (h : n.natAbs < 2 ^ 53) : ∃ j : Nat, FloatKind.f64.decode (fl n) = .number (decide (n < 0)) (n.natAbs * 2 ^ j) (-(j : Int)) := by
  by_cases h0 : n = 0
  · subst h0
    have h1 : FloatKind.f64.decode (fl 0) = .number false 0 (-1074) := by decide
    obtain ⟨j, hj⟩ : ∃ j : Nat, (j : Int) = 1074 := ⟨1074, rfl⟩
    refine ⟨j, ?_⟩
    rw [h1, hj]
    simp
  · have hm : n.natAbs ≠ 0 := by omega
    have hk := pow_le_log hm h
    obtain ⟨h1, h2⟩ := scaled hm hk
    refine ⟨52 - n.natAbs.log2, ?_⟩
    show double.read (double.nearest (decide (n < 0)) n.natAbs 0) = _
    rw [write_int hm h, read_norm _ _ _ hk h1 h2]
    congr 1
    omega
theorem cut_scaled (neg : Bool) (m j : Nat) : Toward.zero.cut neg (m * 2 ^ j) j = m := by
  unfold Toward.cut
  by_cases h0 : m = 0
  · subst h0; simp
  · have : j ≤ (m * 2 ^ j).log2 + 2 := by
      have h1 : 2 ^ j ≤ m * 2 ^ j := Nat.le_mul_of_pos_left _ (by omega)
      have h2 : m * 2 ^ j ≠ 0 := by have := Nat.two_pow_pos j; intro e; rw [e] at h1; omega
      have h3 := @Nat.lt_log2_self (m * 2 ^ j)
      have : 2 ^ j < 2 ^ ((m * 2 ^ j).log2 + 1) := Nat.lt_of_le_of_lt h1 h3
      have := (Nat.pow_lt_pow_iff_right (by omega)).1 this
      omega
    simp [Nat.min_eq_left this, Nat.shiftLeft_eq, Nat.mul_div_cancel _ (Nat.two_pow_pos j)]
theorem integral_fl {n : Int} (h : n.natAbs < 2 ^ 53) : (FloatKind.f64.decode (fl n)).integral .zero = .number (decide (n < 0)) n.natAbs 0 := by
  obtain ⟨j, hj⟩ := decode_fl h
  rw [hj]
  unfold Datum.integral
  have e1 : (-(j : Int)).toNat = 0 := by omega
  have e2 : (-(-(j : Int))).toNat = j := by omega
  simp only [e1, e2, Nat.shiftLeft_zero, cut_scaled]
theorem toInt_fl {n : Int} (h : n.natAbs < 2 ^ 53) : (FloatKind.f64.decode (fl n)).toInt .zero = some n := by
  unfold Datum.toInt
  rw [integral_fl h]
  simp only [signed, Nat.shiftLeft_zero]
  congr 1
  by_cases hn : n < 0
  · simp [hn]; omega
  · simp [hn]; omega
theorem signed_scaled (n : Int) (i d : Nat) : signed (decide (n < 0)) (n.natAbs * 2 ^ i) d = n * 2 ^ (i + d) := by
  unfold signed
  rw [Nat.shiftLeft_eq, Nat.mul_assoc, ← Nat.pow_add]
  by_cases hn : n < 0
  · have : (n.natAbs : Int) = -n := by omega
    simp only [hn, decide_true, if_true]
    rw [Int.natCast_mul, this, Int.neg_mul, Int.neg_neg, Int.natCast_pow]
    rfl
  · have : (n.natAbs : Int) = n := by omega
    simp only [hn, decide_false, Bool.false_eq_true, if_false]
    rw [Int.natCast_mul, this, Int.natCast_pow]
    rfl
theorem order_fl {a b : Int} (ha : a.natAbs < 2 ^ 53) (hb : b.natAbs < 2 ^ 53) : FloatKind.f64.format.order (fl a) (fl b) = some (compare a b) := by
  obtain ⟨i, hi⟩ := decode_fl ha
  obtain ⟨j, hj⟩ := decode_fl hb
  unfold Format.order
  change (FloatKind.f64.decode (fl a)).order (FloatKind.f64.decode (fl b)) = _
  rw [hi, hj]
  unfold Datum.order
  simp only [signed_scaled]
  have key : ∀ (x y : Int) (p : Int), 0 < p → compare (x * p) (y * p) = compare x y := by
    intro x y p hp
    simp only [compare, compareOfLessAndEq]
    have h1 : x * p < y * p ↔ x < y := Int.mul_lt_mul_right hp
    have h2 : x * p = y * p ↔ x = y := Int.mul_eq_mul_right_iff (by omega)
    simp only [h1, h2]
  have e1 : i + (-(i : Int) - min (-(i : Int)) (-(j : Int))).toNat = max i j := by omega
  have e2 : j + (-(j : Int) - min (-(i : Int)) (-(j : Int))).toNat = max i j := by omega
  rw [e1, e2, key _ _ _ (Int.pow_pos (by decide))]
theorem trunc_fl {n : Int} (h : n.natAbs < 2 ^ 53) : FloatKind.f64.encode ((FloatKind.f64.decode (fl n)).integral .zero) = fl n := by
  rw [integral_fl h]; rfl
end Go.V.P
