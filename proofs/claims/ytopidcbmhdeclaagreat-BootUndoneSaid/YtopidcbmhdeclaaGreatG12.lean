/- Plain laws, part A: whole numbers as floats are exact: read, compared, cut, turned back. No premises. -/
import Derived.Test.YtopidcbmhdeclaaGreatP0
import Derived.Laws.BitsAllLaws
import Derived.Laws.BitsLemmas
set_option linter.unusedVariables false
set_option linter.unusedSimpArgs false
namespace Go.V.P
open Go.V Go.Proofs Ieee
def fl (n : Int) : Nat := FloatKind.f64.nearest n
theorem F9 : fl 0 = 0 := by decide
theorem XV (k : Nat) : (-1074 : Int) + ((k + 1023 - 1 : Nat) : Int) = (k : Int) - 52 := by omega
theorem WE (neg : Bool) (k a : Nat) (hk : k ≤ 52) (h1 : 2 ^ 52 ≤ a) (h2 : a < 2 ^ 53) :
  double.read (double.word neg ((k + 1022) * 2 ^ 52 + a)) = .number neg a ((k : Int) - 52) := by
 have hs : double.signWeight = 9223372036854775808 := by decide
 have hb : double.binade = 4503599627370496 := by decide
 have hi : double.infRung = 9218868437227405312 := by decide
 have hl : double.leastPlace = -1074 := by decide
 have e1 : (2 : Nat) ^ 52 = 4503599627370496 := by decide
 have e2 : (2 : Nat) ^ 53 = 9007199254740992 := by decide
 rw [e1] at h1; rw [e2] at h2
 rw [e1]
 generalize hr : (k + 1022) * 4503599627370496 + a = rung
 have hr1 : rung < 9218868437227405312 := by omega
 have hr2 : 4503599627370496 ≤ rung := by omega
 have hq : rung / 4503599627370496 = k + 1023 := by omega
 have hm : rung % 4503599627370496 = a - 4503599627370496 := by omega
 have hw1 : (double.word neg rung / 9223372036854775808 % 2 == 1) = neg := by
  unfold Format.word
  rw [hs]
  cases neg
  ·have : rung / 9223372036854775808 % 2 = 0 := by omega
   simp [this]
  ·have : (9223372036854775808 + rung) / 9223372036854775808 % 2 = 1 := by omega
   simp only [if_true]
   rw [this]
   rfl
 have hw2 : double.word neg rung % 9223372036854775808 = rung := by
  unfold Format.word
  rw [hs]
  cases neg
  ·simp; omega
  ·simp; omega
 unfold Format.read
 simp only [hs, hb, hi, hl, hw1, hw2]
 rw [if_neg (by omega), if_pos hr1, hq, hm]
 rw [Nat.add_sub_cancel' h1, XV]
theorem Ky {m : Nat} (hm : m ≠ 0) (h : m < 2 ^ 53) : m.log2 ≤ 52 := by
 have := (Nat.log2_lt hm (k := 53)).2 h
 omega
theorem scaled {m : Nat} (hm : m ≠ 0) (h : m.log2 ≤ 52) : 2 ^ 52 ≤ m * 2 ^ (52 - m.log2) ∧ m * 2 ^ (52 - m.log2) < 2 ^ 53 := by
 have h1 := Nat.log2_self_le hm
 have h2 := @Nat.lt_log2_self m
 have e : (2 : Nat) ^ 52 = 2 ^ m.log2 * 2 ^ (52 - m.log2) := by rw [← Nat.pow_add]; congr 1; omega
 have e' : (2 : Nat) ^ 53 = 2 ^ (m.log2 + 1) * 2 ^ (52 - m.log2) := by rw [← Nat.pow_add]; congr 1; omega
 rw [e, e']
 exact ⟨Nat.mul_le_mul_right _ h1, Nat.mul_lt_mul_of_pos_right h2 (Nat.two_pow_pos _)⟩
theorem XY (neg : Bool) (x : Nat) : Toward.even.cut neg x 0 = x := by
 unfold Toward.cut
 simp [Nat.mod_one]
theorem WG {neg : Bool} {m : Nat} (hm : m ≠ 0) (h : m < 2 ^ 53) : double.nearest neg m 0 = double.word neg ((m.log2 + 1022) * 2 ^ 52 + m * 2 ^ (52 - m.log2)) := by
 have hk := Ky hm h
 obtain ⟨h1, h2⟩ := scaled hm hk
 have hb : double.binade = 2 ^ 52 := rfl
 have hi : double.infRung = 9218868437227405312 := by decide
 have hl : double.leastPlace = -1074 := by decide
 have hf : (double.fractionBits : Int) = 52 := rfl
 unfold Format.nearest
 rw [if_neg hm]
 simp only [hb, hi, hl, hf]
 have e1 : max ((0 : Int) + m.log2 - 52) (-1074) = (m.log2 : Int) - 52 := by omega
 rw [e1]
 have e2 : ((0 : Int) - ((m.log2 : Int) - 52)).toNat = 52 - m.log2 := by omega
 have e3 : (((m.log2 : Int) - 52) - 0).toNat = 0 := by omega
 have e4 : (((m.log2 : Int) - 52) - -1074).toNat = m.log2 + 1022 := by omega
 rw [e2, e3, e4, XY, Nat.shiftLeft_eq]
 congr 1
 apply Nat.min_eq_left
 have : (2 : Nat) ^ 52 = 4503599627370496 := by decide
 have : (2 : Nat) ^ 53 = 9007199254740992 := by decide
 omega
theorem D6 {n : Int} (h : n.natAbs < 2 ^ 53) : ∃ j : Nat, FloatKind.f64.decode (fl n) = .number (decide (n < 0)) (n.natAbs * 2 ^ j) (-(j : Int)) := by
 by_cases h0 : n = 0
 ·subst h0
  have h1 : FloatKind.f64.decode (fl 0) = .number false 0 (-1074) := by decide
  obtain ⟨j, hj⟩ : ∃ j : Nat, (j : Int) = 1074 := ⟨1074, rfl⟩
  refine ⟨j, ?_⟩
  rw [h1, hj]
  simp
 ·have hm : n.natAbs ≠ 0 := by omega
  have hk := Ky hm h
  obtain ⟨h1, h2⟩ := scaled hm hk
  refine ⟨52 - n.natAbs.log2, ?_⟩
  show double.read (double.nearest (decide (n < 0)) n.natAbs 0) = _
  rw [WG hm h, WE _ _ _ hk h1 h2]
  congr 1
  omega
theorem Ug (neg : Bool) (m j : Nat) : Toward.zero.cut neg (m * 2 ^ j) j = m := by
 unfold Toward.cut
 by_cases h0 : m = 0
 ·subst h0; simp
 ·have : j ≤ (m * 2 ^ j).log2 + 2 := by
   have h1 : 2 ^ j ≤ m * 2 ^ j := Nat.le_mul_of_pos_left _ (by omega)
   have h2 : m * 2 ^ j ≠ 0 := by have := Nat.two_pow_pos j; intro e; rw [e] at h1; omega
   have h3 := @Nat.lt_log2_self (m * 2 ^ j)
   have : 2 ^ j < 2 ^ ((m * 2 ^ j).log2 + 1) := Nat.lt_of_le_of_lt h1 h3
   have := (Nat.pow_lt_pow_iff_right (by omega)).1 this
   omega
  simp [Nat.min_eq_left this, Nat.shiftLeft_eq, Nat.mul_div_cancel _ (Nat.two_pow_pos j)]
theorem I4 {n : Int} (h : n.natAbs < 2 ^ 53) : (FloatKind.f64.decode (fl n)).integral .zero = .number (decide (n < 0)) n.natAbs 0 := by
 obtain ⟨j, hj⟩ := D6 h
 rw [hj]
 unfold Datum.integral
 have e1 : (-(j : Int)).toNat = 0 := by omega
 have e2 : (-(-(j : Int))).toNat = j := by omega
 simp only [e1, e2, Nat.shiftLeft_zero, Ug]
theorem XZ {n : Int} (h : n.natAbs < 2 ^ 53) : (FloatKind.f64.decode (fl n)).toInt .zero = some n := by
 unfold Datum.toInt
 rw [I4 h]
 simp only [signed, Nat.shiftLeft_zero]
 congr 1
 by_cases hn : n < 0
 ·simp [hn]; omega
 ·simp [hn]; omega
theorem NV (n : Int) (i d : Nat) : signed (decide (n < 0)) (n.natAbs * 2 ^ i) d = n * 2 ^ (i + d) := by
 unfold signed
 rw [Nat.shiftLeft_eq, Nat.mul_assoc, ← Nat.pow_add]
 by_cases hn : n < 0
 ·have : (n.natAbs : Int) = -n := by omega
  simp only [hn, decide_true, if_true]
  rw [Int.natCast_mul, this, Int.neg_mul, Int.neg_neg, Int.natCast_pow]
  rfl
 ·have : (n.natAbs : Int) = n := by omega
  simp only [hn, decide_false, Bool.false_eq_true, if_false]
  rw [Int.natCast_mul, this, Int.natCast_pow]
  rfl
theorem Gf {a b : Int} (ha : a.natAbs < 2 ^ 53) (hb : b.natAbs < 2 ^ 53) : FloatKind.f64.format.order (fl a) (fl b) = some (compare a b) := by
 obtain ⟨i, hi⟩ := D6 ha
 obtain ⟨j, hj⟩ := D6 hb
 unfold Format.order
 change (FloatKind.f64.decode (fl a)).order (FloatKind.f64.decode (fl b)) = _
 rw [hi, hj]
 unfold Datum.order
 simp only [NV]
 have key : ∀ (x y : Int) (p : Int), 0 < p → compare (x * p) (y * p) = compare x y := by
  intro x y p hp
  simp only [compare, compareOfLessAndEq]
  have h1 : x * p < y * p ↔ x < y := Int.mul_lt_mul_right hp
  have h2 : x * p = y * p ↔ x = y := Int.mul_eq_mul_right_iff (by omega)
  simp only [h1, h2]
 have e1 : i + (-(i : Int) - min (-(i : Int)) (-(j : Int))).toNat = max i j := by omega
 have e2 : j + (-(j : Int) - min (-(i : Int)) (-(j : Int))).toNat = max i j := by omega
 rw [e1, e2, key _ _ _ (Int.pow_pos (by decide))]
theorem X0 {n : Int} (h : n.natAbs < 2 ^ 53) : FloatKind.f64.encode ((FloatKind.f64.decode (fl n)).integral .zero) = fl n := by
 rw [I4 h]; rfl
end Go.V.P
set_option linter.unusedVariables false
set_option linter.unusedSimpArgs false
namespace Go.V.P
open Go.V Go.Proofs Ieee
theorem wY {P : Program} {α β : Type} (e : Sem α) (f : α → Sem β) : mZ P (e >>= f) = (mZ P e).bind fun a => mZ P (f a) := by
 induction e with
 | pure a => rfl
 | program k ih => exact ih P
 | mark m k ih => exact ih
 | _ => rfl
theorem Ba {P : Program} : mZ P program = some P := rfl
theorem Po {P : Program} (m : Mark) : mZ P (mark m) = some () := rfl
theorem I5 {P : Program} {f : FuncId} {fn : Func} {args : List Value} {e : Array Value → Sem Value} (h : P.funcs[f]? = some fn) (h0 : (fn.name == "runtime.NumGoroutine") = false) (hb : fn.body.isNone = true) (h1 : Extern.findNext fn = none) (h2 : Extern.find fn = some e) :
  xc P f args = mZ P (e args.toArray) := by
 unfold xc callFunc
 simp only [wY, Ba, Option.bind_some, h, h0, hb, h1, h2, if_true, Bool.false_eq_true, if_false, Po]
 cases mZ P (e args.toArray) <;> rfl
theorem ZR (a : Nat) : xc Tryz.prog 226 [.float .f64 a] = some (.int .u64 a) := by
 rw [I5 Tryz.func226 (by kernel_rfl) (by kernel_rfl) (by kernel_rfl) (e := Extern.MathFloatBits.float64bits) (by kernel_rfl)]
 rfl
theorem X4 {n : Int} (h : n.natAbs < 2 ^ 53) : xc Tryz.prog 224 [.float .f64 (fl n)] = some (.float .f64 (fl n)) := by
 rw [I5 Tryz.func224 (by kernel_rfl) (by kernel_rfl) (by kernel_rfl) (e := Extern.MathFloor.toIntegral "math.archTrunc" .zero) (by kernel_rfl)]
 have h1 := X0 h
 obtain ⟨j, hj⟩ := D6 h
 show mZ Tryz.prog (match FloatKind.f64.decode (fl n) with
  | .nan s t => _
  | d => _) = _
 rw [hj] at h1 ⊢
 rw [← h1]
 rfl
theorem qo {P : Program} {t : TypeId} {d : TypeDesc} (h : P.underlying t = some d) : mZ P (underlying t) = some d := by
 unfold underlying
 simp only [wY, Ba, Option.bind_some, h]
 rfl
theorem acC (n : Int) : cv Tryz.prog 2 244 (.int .i64 n) = some (.float .f64 (fl n)) := by
 unfold cv convert
 simp only [wY, qo Tryz.underlying2, qo Tryz.underlying244, Option.bind_some]
 rfl
theorem aaO {n : Int} (h : n.natAbs < 2 ^ 53) : cv Tryz.prog 244 2 (.float .f64 (fl n)) = some (.int .i64 n) := by
 unfold cv convert
 simp only [wY, qo Tryz.underlying2, qo Tryz.underlying244, Option.bind_some]
 unfold Conv.floatToInt
 simp only [XZ h]
 have e : (2 : Nat) ^ 53 = 9007199254740992 := by decide
 have h1 : IntKind.i64.min = -9223372036854775808 := by decide
 have h2 : IntKind.i64.max = 9223372036854775807 := by decide
 rw [e] at h
 rw [h1, h2, if_pos (by omega)]
 rfl
theorem aa3 (a b : Nat) (x y : Operand) : bn Tryz.prog .geq 244 x y (.float .f64 a) (.float .f64 b) = some (.bool (FloatKind.f64.format.order a b == some .gt || FloatKind.f64.format.order a b == some .eq)) := rfl
theorem aa4 (a b : Nat) (x y : Operand) : bn Tryz.prog .leq 244 x y (.float .f64 a) (.float .f64 b) = some (.bool (FloatKind.f64.format.order a b == some .lt || FloatKind.f64.format.order a b == some .eq)) := rfl
theorem aa5 (a b : Nat) (x y : Operand) : bn Tryz.prog .neq 244 x y (.float .f64 a) (.float .f64 b) = some (.bool (FloatKind.f64.format.order a b != some .eq)) := rfl
theorem aa6 (a b : Nat) (x y : Operand) : bn Tryz.prog .eql 244 x y (.float .f64 a) (.float .f64 b) = some (.bool (FloatKind.f64.format.order a b == some .eq)) := rfl
theorem ZT (a b : Nat) : bu Tryz.prog .real #[188] 244 #[false] [.complex .f64 a b] = some (.float .f64 a) := rfl
theorem ZU (a b : Nat) : bu Tryz.prog .imag #[188] 244 #[false] [.complex .f64 a b] = some (.float .f64 b) := rfl
theorem Uh (a b : Nat) : bu Tryz.prog .complex #[244, 244] 188 #[false, false] [.float .f64 a, .float .f64 b] = some (.complex .f64 a b) := rfl
theorem D7 (a : Nat) : one? (.float .f64 a) = some (.float .f64 a) := rfl
theorem bY {α : Type} {c : Prop} [Decidable c] {x : Option α} (h : c) : gd c x = x := if_pos h
theorem wZ {α : Type} [Inhabited α] {x : Option α} : lz true x = x := rfl
theorem Q5 {α : Type} [Inhabited α] {x : Option α} : lz false x = some default := rfl
theorem e53 : (2 : Nat) ^ 53 = 9007199254740992 := by decide
theorem Q7 (F : Nat) {n : Int} (h1 : -1099511627776 ≤ n) (h2 : n ≤ 1099511627776) : qP F (.float .f64 (fl n)) = some (n, true) := by
 have h : n.natAbs < 2 ^ 53 := by rw [e53]; omega
 have ha : (14010698440749613056 : Nat) = fl (-1099511627776) := by decide
 have hb : (4787326403894837248 : Nat) = fl 1099511627776 := by decide
 have hc : (0 : Nat) = fl 0 := F9.symm
 have o1 := Gf h (b := -1099511627776) (by decide)
 have o2 := Gf h (b := 1099511627776) (by decide)
 have o3 := Gf h h
 have o4 := Gf h (b := 0) (by decide)
 have c1 : (some (compare n (-1099511627776)) == some Ordering.gt || some (compare n (-1099511627776)) == some Ordering.eq) = true := by
  simp only [compare, compareOfLessAndEq]
  by_cases hn : n = -1099511627776
  ·subst hn; rfl
  ·rw [if_neg (by omega), if_neg hn]; rfl
 have c2 : (some (compare n 1099511627776) == some Ordering.lt || some (compare n 1099511627776) == some Ordering.eq) = true := by
  simp only [compare, compareOfLessAndEq]
  by_cases hn : n = 1099511627776
  ·subst hn; rfl
  ·rw [if_pos (by omega)]; rfl
 have c3 : (some (compare n n) != some Ordering.eq) = false := by
  simp only [compare, compareOfLessAndEq]
  rw [if_neg (by omega)]; rfl
 have ady : qW F (.float .f64 (fl 0)) = some false := by
  unfold qW
  rw [ZR]
  rw [F9]
  decide
 unfold qP
 rw [aa3, ha, o1, c1]
 simp only [Option.bind_some, bool?]
 rw [aa4, hb, o2, c2]
 simp only [Option.bind_some, bool?, Bool.and_self, Bool.not_true, beq_self_eq_true, wZ]
 unfold xg
 rw [X4 h]
 simp only [Option.bind_some, D7]
 rw [aa5, o3, c3]
 simp only [Option.bind_some, bool?, Bool.or_self, Bool.false_or, beq_self_eq_true, wZ]
 rw [aa6]
 by_cases hn : n = 0
 ·subst hn
  rw [show FloatKind.f64.format.order (fl 0) 0 = some .eq from by rw [F9]; decide]
  simp only [Option.bind_some, bool?, beq_self_eq_true, Bool.and_self, wZ, ady, Bool.and_false, cond_false]
  rw [aaO (by decide)]
  rfl
 ·have c4 : (FloatKind.f64.format.order (fl n) 0 == some Ordering.eq) = false := by
   have : FloatKind.f64.format.order (fl n) 0 = some (compare n 0) := by rw [← o4, F9]
   rw [this]
   simp only [compare, compareOfLessAndEq]
   by_cases h0 : n < 0
   ·rw [if_pos h0]; rfl
   ·rw [if_neg h0, if_neg hn]; rfl
  rw [c4]
  simp only [Option.bind_some, bool?, Bool.false_and, Bool.and_false, show (false == true) = false from rfl, Q5, cond_false]
  rw [aaO h]
  rfl
theorem X5 (F : Nat) {a b : Int} (h1 : -1099511627776 ≤ a) (h2 : a ≤ 1099511627776) (h3 : -1099511627776 ≤ b) (h4 : b ≤ 1099511627776) : ny F (.complex .f64 (fl a) (fl b)) = some (a, b, true) := by
 unfold ny
 rw [ZT]
 simp only [Option.bind_some, D7, Q7 F h1 h2]
 rw [ZU]
 simp only [Option.bind_some, D7, Q7 F h3 h4]
 rfl
theorem acD (F : Nat) {a b : Int} (h1 : -1099511627776 ≤ a) (h2 : a ≤ 1099511627776) (h3 : -1099511627776 ≤ b) (h4 : b ≤ 1099511627776) : qX F a b = some (.complex .f64 (fl a) (fl b), true) := by
 unfold qX xI
 simp only [Option.bind_some, decide_eq_true h1, decide_eq_true h2, decide_eq_true h3, decide_eq_true h4, Bool.and_self, Bool.not_true, beq_self_eq_true, wZ, Bool.or_self, cond_false, acC, D7]
 rw [Uh]
 rfl
end Go.V.P
set_option linter.unusedVariables false
set_option linter.unusedSimpArgs false
namespace Go.V.P
open Go.V Go.Proofs
theorem cZ {α : Type} {n : Int} {x : Option α} (h1 : -9223372036854775808 ≤ n) (h2 : n ≤ 9223372036854775807) : gd (inI n) x = x := bY ⟨h1, h2⟩
theorem eU {α β : Type} {l : List β} {i : Int} {x : Option α} (h1 : 0 ≤ i) (h2 : i < (l.length : Nat)) : gd (ix l i) x = x := bY ⟨h1, h2⟩
theorem jW {α : Type} [Inhabited α] (l : List α) {i : Nat} (h : i < l.length) : nth l (i : Int) = l[i] := by simp [nth, List.getD_eq_getElem?_getD, h]
def rst (v : Int) : Int := Int.tmod (Int.tmod v 1000003 + 1000003) 1000003
theorem xE (v : Int) : 0 ≤ rst v ∧ rst v < 1000003 := by
 have h1 : -1000003 < Int.tmod v 1000003 := by
  have := Int.lt_tmod_of_pos v (show (0 : Int) < 1000003 by decide); omega
 unfold rst
 refine ⟨Int.tmod_nonneg _ (by omega), Int.tmod_lt_of_pos _ (by decide)⟩
theorem aa7 (v : Int) : -1000003 < Int.tmod v 1000003 ∧ Int.tmod v 1000003 < 1000003 := by
 have h1 := Int.lt_tmod_of_pos v (show (0 : Int) < 1000003 by decide)
 have h2 := Int.tmod_lt_of_pos v (show (0 : Int) < 1000003 by decide)
 exact ⟨by omega, h2⟩
theorem X6 (F : Nat) (v : Int) : rW F v = some (rst v) := by
 have := aa7 v
 unfold rW
 rw [cZ (by omega) (by omega)]
 rfl
noncomputable def cz (z : Int × Int) : Value := .complex .f64 (fl z.1) (fl z.2)
def small (z : Int × Int) : Prop := -1000003 ≤ z.1 ∧ z.1 ≤ 1000003 ∧ -1000003 ≤ z.2 ∧ z.2 ≤ 1000003
theorem ZW (F G : Nat) (k : Int → Int → Option Value) (a b : Int) (h1 : -1000003 ≤ b) (h2 : b ≤ 1000003) : mP F 1 k (G + 2) a b 0 = k (-b) a := by
 unfold mP
 rw [show (decide ((0 : Int) < Int.tmod (Int.tmod 1 4 + 4) 4)) = true from by decide, cond_true, bY (by omega), cZ (by decide) (by decide)]
 unfold mP
 rw [show (decide ((0 : Int) + 1 < Int.tmod (Int.tmod 1 4 + 4) 4)) = false from by decide, cond_false]
theorem Kz (F : Nat) {z : Int × Int} (h : small z) : ny F (cz z) = some (z.1, z.2, true) := by
 obtain ⟨h1, h2, h3, h4⟩ := h
 exact X5 _ (by omega) (by omega) (by omega) (by omega)
theorem aaP (F : Nat) {a b : Int} (h : small (a, b)) : qX F a b = some (cz (a, b), true) := by
 obtain ⟨h1, h2, h3, h4⟩ := h
 simp only at h1 h2 h3 h4
 exact acD _ (by omega) (by omega) (by omega) (by omega)
theorem X7 (F : Nat) (hF : 2 ≤ F) {z : Int × Int} (h : small z) : uG F (cz z) 1 = some (cz (-z.2, z.1)) := by
 have hs : small (-z.2, z.1) := by unfold small at h ⊢; simp only; omega
 unfold uG
 rw [Kz F h]
 simp only [Option.bind_some, Bool.not_true, cond_false, jn]
 rw [cZ (by decide) (by decide)]
 obtain ⟨G, hG⟩ : ∃ G, F = G + 2 := ⟨F - 2, by omega⟩
 have := ZW F G (fun v3 v4 => (qX F v3 v4).bind fun x6 => some x6.1) z.1 z.2 h.2.2.1 h.2.2.2
 rw [← hG] at this
 refine this.trans ?_
 rw [aaP F hs, Option.bind_some]
noncomputable def lo (w : Int) : Int := IntKind.i64.wrap (IntKind.u16.wrap w)
theorem Gg (w : Int) : 0 ≤ lo w ∧ lo w < 65536 := by
 unfold lo
 rw [IntKind.wrap_u16, IntKind.wrap_i64]
 omega
noncomputable def spn (z : Int × Int) (w : Int) : Int × Int := (rst (-z.2 + (lo w - lo (kL .u64 w 32))), rst (z.1 + (lo (kL .u64 w 16) - lo (kL .u64 w 48))))
theorem OA (z : Int × Int) (w : Int) : small (spn z w) := by
 have h1 := xE (-z.2 + (lo w - lo (kL .u64 w 32)))
 have h2 := xE (z.1 + (lo (kL .u64 w 16) - lo (kL .u64 w 48)))
 unfold small spn
 simp only
 omega
theorem WH (F : Nat) (hF : 2 ≤ F) (l : List Int) (k : Value → Option Value) (hl : l.length < 1000000) : ∀ (n v : Nat) (z : Int × Int), v ≤ l.length → l.length - v < n → small z → oz F l k n (cz z) v = k (cz ((l.drop v).foldl spn z)) := by
 intro n
 induction n with
 | zero => intro v z h1 h2; omega
 | succ n ih =>
  intro v z h1 h2 hz
  unfold oz
  by_cases hv : v < l.length
  ·have e1 : decide ((v : Int) < ((l.length : Nat) : Int)) = true := by simpa using hv
   have b1 := Gg (nth l v)
   have b2 := Gg (kL .u64 (nth l v) 32)
   have b3 := Gg (kL .u64 (nth l v) 16)
   have b4 := Gg (kL .u64 (nth l v) 48)
   have hz' := hz
   obtain ⟨z1, z2, z3, z4⟩ := hz
   simp only [← lo.eq_1]
   rw [e1, cond_true, eU (by omega) (by omega), X7 F hF hz']
   simp only [Option.bind_some]
   rw [Kz F (show small (-z.2, z.1) by unfold small; simp only; omega)]
   simp only [Option.bind_some]
   rw [cZ (by omega) (by omega), cZ (by omega) (by omega), cZ (by omega) (by omega), cZ (by omega) (by omega)]
   simp only [X6, Option.bind_some]
   have c1 := xE (-z.2 + (lo (nth l v) - lo (kL .u64 (nth l v) 32)))
   have c2 := xE (z.1 + (lo (kL .u64 (nth l v) 16) - lo (kL .u64 (nth l v) 48)))
   have hsm : small (rst (-z.2 + (lo (nth l v) - lo (kL .u64 (nth l v) 32))), rst (z.1 + (lo (kL .u64 (nth l v) 16) - lo (kL .u64 (nth l v) 48)))) := by unfold small; simp only; omega
   obtain ⟨c, hc⟩ : ∃ c, c = cz (rst (-z.2 + (lo (nth l v) - lo (kL .u64 (nth l v) 32))), rst (z.1 + (lo (kL .u64 (nth l v) 16) - lo (kL .u64 (nth l v) 48)))) := ⟨_, rfl⟩
   rw [aaP F hsm, ← hc, Option.bind_some]
   rw [cZ (by omega) (by omega), hc]
   have h3 := ih (v + 1) (spn z (nth l v)) (by omega) (by omega) (OA _ _)
   have hs : (rst (-z.2 + (lo (nth l v) - lo (kL .u64 (nth l v) 32))), rst (z.1 + (lo (kL .u64 (nth l v) 16) - lo (kL .u64 (nth l v) 48)))) = spn z (nth l v) := rfl
   rw [hs]
   rw [show ((v : Int) + 1) = ((v + 1 : Nat) : Int) by omega]
   rw [h3]
   rw [List.drop_eq_getElem_cons hv, List.foldl_cons, jW l hv]
  ·have e1 : decide ((v : Int) < ((l.length : Nat) : Int)) = false := by simpa using hv
   rw [e1, cond_false, List.drop_of_length_le (by omega)]
   rfl
theorem ZX (F : Nat) (l : List Int) (hF : l.length + 2 ≤ F) (hl : l.length < 1000000) : uH F l = some (cz (l.foldl spn (0, 0))) := by
 unfold uH
 simp only [jn]
 have : (.complex .f64 0 0 : Value) = cz (0, 0) := by unfold cz; simp only [F9]
 rw [this]
 exact (WH F (by omega) l _ hl F 0 (0, 0) (by omega) (by omega) (by unfold small; decide))
theorem Q8 (l : List Int) (z : Int × Int) (hz : small z ∧ 0 ≤ z.1 ∧ 0 ≤ z.2) : small (l.foldl spn z) ∧ 0 ≤ (l.foldl spn z).1 ∧ 0 ≤ (l.foldl spn z).2 := by
 induction l generalizing z with
 | nil => exact hz
 | cons w l ih => exact ih _ ⟨OA _ _, (xE _).1, (xE _).1⟩
noncomputable def word2 (z : Int × Int) : Int := ior .u64 (pF .u64 (IntKind.u64.wrap z.2) 32) (IntKind.u64.wrap z.1)
theorem ZY (F : Nat) {z : Int × Int} (h : small z) (h1 : 0 ≤ z.1) (h2 : 0 ≤ z.2) : uI F (cz z) = some (word2 z, true) := by
 obtain ⟨z1, z2, z3, z4⟩ := h
 unfold uI
 rw [Kz F ⟨z1, z2, z3, z4⟩]
 simp only [Option.bind_some, Bool.not_true, Bool.false_or]
 have e1 : decide (z.1 < 0) = false := by simp; omega
 have e2 : decide ((4294967295 : Int) < z.1) = false := by simp; omega
 have e3 : decide (z.2 < 0) = false := by simp; omega
 have e4 : decide ((4294967295 : Int) < z.2) = false := by simp; omega
 rw [e1, e2, e3, e4]
 rfl
def WI (s : dK) : List Int := [8243106252149764145, IntKind.u64.wrap s.bH.ak, IntKind.u64.wrap s.bH.ay, IntKind.u64.wrap s.bH.aA, s.uj, 0, 0]
noncomputable def sup (s : dK) : List Int := WI s ++ [word2 ((WI s).foldl spn (0, 0))]
theorem kC (s : dK) : (sup s).length = 8 := rfl
theorem zH (F : Nat) (hF : 9 ≤ F) (s : dK) (hg : jF F s.bH = some true) : pY F s = some (sup s) := by
 unfold pY
 rw [hg]
 simp only [Option.bind_some, Bool.not_true, cond_false]
 have h7 : (WI s).length = 7 := rfl
 have h0 := Q8 (WI s) (0, 0) ⟨by unfold small; decide, by decide, by decide⟩
 have e1 := ZX F (WI s) (by rw [h7]; exact hF) (by rw [h7]; decide)
 unfold WI at e1 h0
 rw [e1]
 simp only [Option.bind_some]
 rw [ZY F h0.1 h0.2.1 h0.2.2]
 simp only [Option.bind_some]
 rw [bY (by simp)]
 rfl
end Go.V.P
set_option linter.unusedVariables false
set_option linter.unusedSimpArgs false
namespace Go.V.P
open Go.V Go.Proofs
def tab {α : Type} (n : Nat) (f : Nat → α) : List α := (List.range n).map f
section
variable {α : Type} [Inhabited α]
omit [Inhabited α] in
theorem aP (n : Nat) (f : Nat → α) : (tab n f).length = n := by simp [tab]
omit [Inhabited α] in
theorem qp {n : Nat} {f : Nat → α} {i : Nat} (h : i < n) : (tab n f)[i]? = some (f i) := by simp [tab, h]
theorem tC {n : Nat} {f : Nat → α} {i : Int} (h0 : 0 ≤ i) (h : i < n) : nth (tab n f) i = f i.toNat := by
 have : i.toNat < n := by omega
 simp [nth, List.getD_eq_getElem?_getD, qp this]
omit [Inhabited α] in
theorem fV {n : Nat} {f g : Nat → α} (h : ∀ j, j < n → f j = g j) : tab n f = tab n g := by
 unfold tab
 exact List.map_congr_left fun j hj => h j (List.mem_range.1 hj)
omit [Inhabited α] in
theorem qH {n : Nat} {f : Nat → α} {i : Int} {x : α} : dZ (tab n f) i x = tab n (fun j => if j = i.toNat then x else f j) := by
 unfold dZ
 apply List.ext_getElem?
 intro j
 by_cases hj : j < n
 ·rw [qp hj, List.getElem?_set]
  by_cases e : i.toNat = j
  ·subst e; simp [aP, hj]
  ·rw [if_neg e, qp hj, if_neg (fun h => e h.symm)]
 ·rw [List.getElem?_eq_none (by simp [aP]; omega), List.getElem?_eq_none (by simp [aP]; omega)]
omit [Inhabited α] in
theorem sV {n : Nat} {z : α} : List.replicate n z = tab n (fun _ => z) := by simp [tab, List.map_const']
omit [Inhabited α] in
theorem Q9 (l : List α) (d : α) : l = tab l.length (fun i => l.getD i d) := by
 apply List.ext_getElem?
 intro j
 by_cases hj : j < l.length
 ·rw [qp hj]; simp [List.getD_eq_getElem?_getD, hj]
 ·rw [List.getElem?_eq_none (by omega), List.getElem?_eq_none (by simp [aP]; omega)]
end
structure GG (g : aJ) : Prop where
 t1 : 1 ≤ g.ak
 t2 : g.ak ≤ 4
 s1 : 8 * g.ak ≤ g.ay
 s2 : g.ay ≤ 96
 s3 : Int.tmod g.ay 8 = 0
 h1 : g.ak + 2 ≤ g.aA
 h2 : g.aA ≤ 48
theorem lT (F : Nat) {g : aJ} (h : GG g) : jF F g = some true := by
 obtain ⟨h1, h2, h3, h4, h5, h6, h7⟩ := h
 unfold jF oD
 simp only [Option.bind_some, decide_eq_true h1, decide_eq_true h2, decide_eq_true h3, decide_eq_true h4, decide_eq_true h6, decide_eq_true h7, h5, Bool.and_self, beq_self_eq_true, wZ]
 rw [bY (fun _ => ⟨by omega, by omega⟩), bY (fun _ => ⟨by omega, by omega⟩)]
theorem Pv (F : Nat) {g : aJ} (h : ¬ GG g) : jF F g = some false := by
 unfold jF oD
 simp only [Option.bind_some]
 by_cases a1 : 1 ≤ g.ak ∧ g.ak ≤ 4
 ·have e1 : (decide (1 ≤ g.ak) && decide (g.ak ≤ 4)) = true := by simpa using a1
  rw [e1, bY (fun _ => ⟨by omega, by omega⟩)]
  simp only [beq_self_eq_true, wZ, Option.bind_some, Bool.true_and]
  by_cases a2 : (8 * g.ak ≤ g.ay ∧ g.ay ≤ 96) ∧ Int.tmod g.ay 8 = 0
  ·have e2 : (decide (8 * g.ak ≤ g.ay) && decide (g.ay ≤ 96) && Int.tmod g.ay 8 == 0) = true := by simpa using a2
   rw [e2, bY (fun _ => ⟨by omega, by omega⟩)]
   simp only [beq_self_eq_true, wZ, Option.bind_some, Bool.true_and]
   have : (decide (g.ak + 2 ≤ g.aA) && decide (g.aA ≤ 48)) = false := by
    cases hb : (decide (g.ak + 2 ≤ g.aA) && decide (g.aA ≤ 48)) with
    | false => rfl
    | true =>
     simp only [Bool.and_eq_true, decide_eq_true_eq] at hb
     exact absurd ⟨a1.1, a1.2, a2.1.1, a2.1.2, a2.2, hb.1, hb.2⟩ h
   rw [this]
  ·have e2 : (decide (8 * g.ak ≤ g.ay) && decide (g.ay ≤ 96) && Int.tmod g.ay 8 == 0) = false := by
    cases hb : (decide (8 * g.ak ≤ g.ay) && decide (g.ay ≤ 96) && Int.tmod g.ay 8 == 0) with
    | false => rfl
    | true => exact absurd (by simpa using hb) a2
   rw [e2, bY (fun h => by cases h)]
   rfl
 ·have e1 : (decide (1 ≤ g.ak) && decide (g.ak ≤ 4)) = false := by
   cases hb : (decide (1 ≤ g.ak) && decide (g.ak ≤ 4)) with
   | false => rfl
   | true => exact absurd (by simpa using hb) a1
  rw [e1, bY (fun h => by cases h)]
  simp only [show (false == true) = false from rfl, Q5, Option.bind_some, Bool.false_and]
  rw [bY (fun h => by cases h)]
theorem I7 {a : Int} (h0 : 0 ≤ a) : Int.tmod a 8 = a % 8 := Int.tmod_eq_emod_of_nonneg h0
theorem GG.s8 {g : aJ} (h : GG g) : g.ay % 8 = 0 := by
 have := h.s3
 rw [I7 (by have := h.t1; have := h.s1; omega)] at this
 exact this
theorem Gh (F : Nat) {g : aJ} (h : GG g) {v : Int} (h0 : 0 ≤ v) (h1 : v < g.ak) : tK F g v = some (8 * v) := by
 have := h.t2
 unfold tK
 rw [lT F h]
 simp only [Option.bind_some, oD]
 rw [bY (fun _ => ⟨by omega, by omega⟩)]
 have e : (decide ((0 : Int) ≤ v) && decide (v ≤ g.ak - 1)) = true := by simp; omega
 simp only [Bool.not_true, beq_self_eq_true, wZ, e, Option.bind_some, Bool.or_self, cond_false]
 rw [cZ (by omega) (by omega)]
abbrev v4z : V4 Int := ⟨0, 0, 0, 0⟩
def qV (size : Int) : aH := ⟨1, 0, 0, size, 0, 0, 0, false, 0, v4z⟩
def Bc : aH := ⟨3, 0, 0, 0, 0, 0, 0, false, 0, v4z⟩
def qc (base : Int) : aH := ⟨2, 3, base, 0, 0, 0, 0, false, 0, v4z⟩
def Gi : aH := ⟨0, 0, 0, 0, 0, 0, 0, false, 0, v4z⟩
theorem X8 (F : Nat) (size : Int) : qY F (qV size) = some (qV size) := rfl
theorem Ie (F : Nat) (size : Int) : jH F (qV size) = some (decide (1 ≤ size) && decide (size ≤ 4096)) := by
 unfold jH
 rw [X8]
 unfold qV
 dsimp only
 simp only [Option.bind_some, beq_self_eq_true, Bool.and_self, Bool.not_true, cond_false, cond_true, nJ]
 by_cases h : (decide (1 ≤ size) && decide (size ≤ 4096)) = true
 ·have : decide ((0 : Int) ≤ size) = true := by simp at h ⊢; omega
  simp only [h, this, beq_self_eq_true, wZ, Option.bind_some]
  rfl
 ·have h : (decide (1 ≤ size) && decide (size ≤ 4096)) = false := by simpa using h
  rw [h]
  rfl
theorem WJ (F : Nat) : jH F Bc = some true := rfl
theorem WO (F : Nat) : jH F Gi = some true := rfl
theorem Ui : pF .i64 (1 : Int) 3 = 8 := by decide
theorem OB (F : Nat) {b : Int} (h0 : 0 ≤ b) (h1 : b ≤ 88) : jH F (qc b) = some true := by
 unfold jH
 rw [show qY F (qc b) = some (qc b) from rfl]
 simp only [Option.bind_some, qc, beq_self_eq_true, Bool.and_self, Bool.not_true, cond_false, cond_true, nJ]
 simp only [show ((2 : Int) == 1) = false from rfl, cond_false, Ui]
 rw [bY (fun _ => by decide), bY (fun _ => by decide)]
 have : decide (b ≤ 96 - 8) = true := by simp; omega
 simp [this, h0, lz, h1]
theorem X9 (F : Nat) (size : Int) : nC F 1 size 0 = some (if 1 ≤ size ∧ size ≤ 4096 then (qV size, true) else (Gi, false)) := by
 unfold nC
 simp only [jn, beq_self_eq_true, cond_true]
 have := Ie F size
 unfold qV at this
 rw [this]
 simp only [Option.bind_some]
 by_cases h : 1 ≤ size ∧ size ≤ 4096
 ·have e : (decide (1 ≤ size) && decide (size ≤ 4096)) = true := by simpa using h
  rw [e, if_pos h]; rfl
 ·have e : (decide (1 ≤ size) && decide (size ≤ 4096)) = false := by
   cases hb : (decide (1 ≤ size) && decide (size ≤ 4096)) with
   | false => rfl
   | true => exact absurd (by simpa using hb) h
  rw [e, if_neg h]; rfl
theorem Ya (F : Nat) : nC F 3 0 0 = some (Bc, true) := rfl
theorem Yb (F : Nat) {b : Int} (h0 : 0 ≤ b) (h1 : b ≤ 88) : nC F 2 3 b = some (qc b, true) := by
 unfold nC
 simp only [jn, show ((2 : Int) == 1) = false from rfl, beq_self_eq_true, cond_true, cond_false]
 have := OB F h0 h1
 unfold qc at this
 rw [this]
 rfl
def wQ : dS := ⟨0, 0, 0, 0⟩
def EG : dS := ⟨1, 0, 7, 0⟩
def uY : dS := ⟨3, 1, 7, 0⟩
def sf (t : Nat) (i : Nat) : aZ := if i = 0 then ⟨EG, -1⟩ else if i % 8 = 1 ∧ i < 8 * t then ⟨uY, if i = 1 then -1 else 1⟩ else ⟨wQ, -1⟩
def tf (t : Nat) (size : Int) (i : Nat) : aH := if i = 0 then qV size else if i = 1 then Bc else if i < 2 + t then qc (8 * ((i : Int) - 2)) else Gi
def st0 (g : aJ) (size : Int) : aI := ⟨g, tab g.ay.toNat (sf g.ak.toNat), tab g.aA.toNat (tf g.ak.toNat size)⟩
theorem aa8 (F : Nat) (g : aJ) (k : List aZ → Option (aI × Int)) (hs : g.ay ≤ 96) : ∀ (n v : Nat), v ≤ g.ay.toNat → g.ay.toNat - v < n →
  pG F g k n v (tab g.ay.toNat (fun i => if i < v then ⟨wQ, -1⟩ else ⟨wQ, 0⟩)) = k (tab g.ay.toNat (fun _ => ⟨wQ, -1⟩)) := by
 intro n
 induction n with
 | zero => intro v h1 h2; omega
 | succ n ih =>
  intro v h1 h2
  unfold pG
  simp only [List.length_replicate]
  by_cases hv : v < g.ay.toNat
  ·have e1 : decide ((v : Int) < ((g.ay.toNat : Nat) : Int)) = true := decide_eq_true (by omega)
   rw [e1, cond_true, eU (by omega) (by rw [aP]; omega), cZ (by omega) (by omega), tC (by omega) (by omega), qH, show ((v : Int) + 1) = ((v + 1 : Nat) : Int) by omega, ← ih (v + 1) (by omega) (by omega)]
   congr 1
   refine fV fun j hj => ?_
   have : (v : Int).toNat = v := by omega
   rw [this]
   by_cases c1 : j = v
   ·subst c1; simp [wQ]
   ·by_cases c2 : j < v
    ·rw [if_neg c1, if_pos c2, if_pos (by omega)]
    ·rw [if_neg c1, if_neg c2, if_neg (by omega)]
  ·have e1 : decide ((v : Int) < ((g.ay.toNat : Nat) : Int)) = false := decide_eq_false (by omega)
   rw [e1, cond_false]
   congr 1
   exact fV fun j hj => by rw [if_pos (by omega)]
end Go.V.P
set_option linter.unusedVariables false
set_option linter.unusedSimpArgs false
namespace Go.V.P
open Go.V Go.Proofs
def sv (v : Nat) (i : Nat) : aZ := if i = 0 then ⟨EG, -1⟩ else if i % 8 = 1 ∧ i < 8 * v then ⟨uY, 1⟩ else ⟨wQ, -1⟩
theorem aa9 (F : Nat) {g : aJ} (size : Int) (hg : GG g) (k : List aH → List aZ → Option (aI × Int)) : ∀ (n v : Nat), v ≤ g.ak.toNat → g.ak.toNat - v < n →
  pI F g 0 k n v (tab g.aA.toNat (tf v size)) (tab g.ay.toNat (sv v)) = k (tab g.aA.toNat (tf g.ak.toNat size)) (tab g.ay.toNat (sv g.ak.toNat)) := by
 have t1 := hg.t1; have t2 := hg.t2; have s1 := hg.s1; have s2 := hg.s2; have h1' := hg.h1; have h2' := hg.h2
 intro n
 induction n with
 | zero => intro v h1 h2; omega
 | succ n ih =>
  intro v h1 h2
  unfold pI
  by_cases hv : v < g.ak.toNat
  ·have e1 : decide ((v : Int) < g.ak) = true := decide_eq_true (by omega)
   rw [e1, cond_true, Gh F hg (by omega) (by omega), Option.bind_some]
   simp only [jn]
   rw [cZ (by omega) (by omega), Yb F (by omega) (by omega), Option.bind_some, eU (by omega) (by rw [aP]; omega), cZ (by omega) (by omega), cZ (by decide) (by decide), eU (by omega) (by rw [aP]; omega), cZ (by omega) (by omega)]
   rw [qH, qH, show ((v : Int) + 1) = ((v + 1 : Nat) : Int) by omega, ← ih (v + 1) (by omega) (by omega)]
   have e2 : ((2 : Int) + v).toNat = 2 + v := by omega
   have e3 : (8 * (v : Int) + 1).toNat = 8 * v + 1 := by omega
   rw [e2, e3]
   congr 1
   ·refine fV fun j hj => ?_
    simp only [tf]
    by_cases c : j = 2 + v
    ·subst c
     rw [if_pos rfl, if_neg (by omega), if_neg (by omega), if_pos (by omega)]
     congr 1
     omega
    ·rw [if_neg c]
     by_cases c0 : j = 0
     ·rw [if_pos c0, if_pos c0]
     ·rw [if_neg c0, if_neg c0]
      by_cases c1 : j = 1
      ·rw [if_pos c1, if_pos c1]
      ·rw [if_neg c1, if_neg c1]
       by_cases c2 : j < 2 + v
       ·rw [if_pos c2, if_pos (by omega)]
       ·rw [if_neg c2, if_neg (by omega)]
   ·refine fV fun j hj => ?_
    simp only [sv]
    by_cases c : j = 8 * v + 1
    ·subst c
     rw [if_pos rfl, if_neg (by omega), if_pos (by omega)]
     rfl
    ·rw [if_neg c]
     by_cases c0 : j = 0
     ·rw [if_pos c0, if_pos c0]
     ·rw [if_neg c0, if_neg c0]
      by_cases c2 : j % 8 = 1 ∧ j < 8 * v
      ·rw [if_pos c2, if_pos (by omega)]
      ·rw [if_neg c2, if_neg (by omega)]
  ·have e1 : decide ((v : Int) < g.ak) = false := decide_eq_false (by omega)
   have : v = g.ak.toNat := by omega
   rw [e1, cond_false, this]
def adz : aI := ⟨⟨0, 0, 0⟩, [], []⟩
theorem Ig (F : Nat) (hF : 200 ≤ F) {g : aJ} {size : Int} (hg : GG g) (h1 : 1 ≤ size) (h2 : size ≤ 4096) : qZ F g size = some (st0 g size, 0) := by
 have t1 := hg.t1; have t2 := hg.t2; have s1 := hg.s1; have s2 := hg.s2; have h1' := hg.h1; have h2' := hg.h2
 unfold qZ
 rw [X9, Option.bind_some, if_pos ⟨h1, h2⟩, lT F hg, Option.bind_some]
 simp only [Bool.not_true, Bool.or_self, cond_false, jn]
 rw [bY (by omega), bY (by omega)]
 have hk : List.replicate g.ay.toNat (⟨⟨0, 0, 0, 0⟩, 0⟩ : aZ) = tab g.ay.toNat (fun i => if i < 0 then ⟨wQ, -1⟩ else ⟨wQ, 0⟩) := by
  rw [sV]; exact fV fun j hj => by simp [wQ]
 rw [hk]
 refine (aa8 F g _ (by omega) F 0 (by omega) (by omega)).trans ?_
 rw [eU (by omega) (by simp; omega), Ya, Option.bind_some, eU (by omega) (by simp; omega), Gh F hg (by omega) (by omega), Option.bind_some]
 rw [eU (by omega) (by rw [aP]; omega), tC (by omega) (by omega), qH, sV, qH, qH]
 have e1 : tab g.aA.toNat (fun j => if j = (1 : Int).toNat then Bc else if j = (0 : Int).toNat then qV size else (⟨0, 0, 0, 0, 0, 0, 0, false, 0, ⟨0, 0, 0, 0⟩⟩ : aH)) = tab g.aA.toNat (tf 0 size) := by
  refine fV fun j hj => ?_
  simp only [tf]
  by_cases c0 : j = 0
  ·subst c0; rfl
  ·by_cases c1 : j = 1
   ·subst c1; rfl
   ·rw [if_neg (by simpa using c1), if_neg (by simpa using c0), if_neg c0, if_neg c1, if_neg (by omega)]; rfl
 have e2 : tab g.ay.toNat (fun j => if j = ((8 : Int) * 0).toNat then (⟨⟨1, 0, 7, 0⟩, -1⟩ : aZ) else ⟨wQ, -1⟩) = tab g.ay.toNat (sv 0) := by
  refine fV fun j hj => ?_
  simp only [sv]
  by_cases c0 : j = 0
  ·subst c0; rfl
  ·rw [if_neg (by simpa using c0), if_neg c0, if_neg (by omega)]
 rw [e1, e2]
 refine (aa9 F size hg _ F 0 (by omega) (by omega)).trans ?_
 rw [cZ (by decide) (by decide), eU (by decide) (by rw [aP]; omega), bY (by rw [aj]), tC (by decide) (by omega), qH]
 unfold st0
 congr 3
 refine fV fun j hj => ?_
 simp only [sf, sv]
 have e3 : ((8 : Int) * 0 + 1).toNat = 1 := by decide
 rw [e3]
 by_cases c1 : j = 1
 ·subst c1
  have hT : 1 < 8 * g.ak.toNat := by omega
  simp [hT]
 ·rw [if_neg c1]
  by_cases c0 : j = 0
  ·rw [if_pos c0, if_pos c0]
  ·rw [if_neg c0, if_neg c0]
   by_cases c2 : j % 8 = 1 ∧ j < 8 * g.ak.toNat
   ·rw [if_pos c2, if_pos c2, if_neg c1]
   ·rw [if_neg c2, if_neg c2]
end Go.V.P
set_option linter.unusedVariables false
set_option linter.unusedSimpArgs false
namespace Go.V.P
open Go.V Go.Proofs
theorem ob {α β : Type} (x : α) (f : α → Option β) : (some x).bind f = f x := by simp
theorem ct {α : Type} (x y : α) : (bif true then x else y) = x := by simp
theorem cf {α : Type} (x y : α) : (bif false then x else y) = y := by simp
theorem jn_ {κ ρ : Type} (k : κ) (f : κ → Option ρ) : jn k f = f k := by unfold jn; simp
theorem lzt {α : Type} [Inhabited α] (x : Option α) : lz true x = x := by unfold lz; simp
theorem lzf {α : Type} [Inhabited α] (x : Option α) : lz false x = some default := by unfold lz; simp
theorem VN {α : Type} {p : Prop} [Decidable p] {n : Int} {x : Option α} (h1 : -9223372036854775808 ≤ n) (h2 : n ≤ 9223372036854775807) : gd (p → inI n) x = x := bY fun _ => ⟨h1, h2⟩
theorem ftf : (false == true) = false := by decide
theorem ttt : (true == true) = true := by decide
theorem fff : (false == false) = true := by decide
theorem qI {β : Type} (L : Nat → Int → Option β) (len : Nat) (r : Option β) (hstep : ∀ n (v : Nat), v < len → L (n + 1) v = L n ((v + 1 : Nat) : Int)) (hend : ∀ n, L (n + 1) len = r) : ∀ (n v : Nat), v ≤ len → len - v < n → L n v = r := by
 intro n
 induction n with
 | zero => intro v h1 h2; omega
 | succ n ih =>
  intro v h1 h2
  by_cases hv : v < len
  ·rw [hstep n v hv]; exact ih (v + 1) (by omega) (by omega)
  ·have : v = len := by omega
   subst this
   exact hend n
theorem qw {β σ : Type} (L : Nat → Int → σ → Option β) (len : Nat) (f : Nat → σ) (r : Option β) (hstep : ∀ n (v : Nat), v < len → L (n + 1) v (f v) = L n ((v + 1 : Nat) : Int) (f (v + 1))) (hend : ∀ n, L (n + 1) len (f len) = r) : ∀ (n v : Nat), v ≤ len → len - v < n → L n v (f v) = r := by
 intro n
 induction n with
 | zero => intro v h1 h2; omega
 | succ n ih =>
  intro v h1 h2
  by_cases hv : v < len
  ·rw [hstep n v hv]; exact ih (v + 1) (by omega) (by omega)
  ·have : v = len := by omega
   subst this
   exact hend n
theorem dlt {v len : Nat} (h : v < len) : decide ((v : Int) < ((len : Nat) : Int)) = true := decide_eq_true (by omega)
theorem dge (len : Nat) : decide ((len : Int) < ((len : Nat) : Int)) = false := decide_eq_false (by omega)
theorem cs (v : Nat) : ((v : Int) + 1) = ((v + 1 : Nat) : Int) := by omega
theorem oG {α : Type} (n : Nat) (f : Nat → α) : tab (n + 1) f = tab n f ++ [f n] := by simp [tab, List.range_succ]
theorem Yc {α : Type} (f : Nat → α) : tab 0 f = [] := rfl
theorem dU {α : Type} [Inhabited α] {n : Nat} {f : Nat → α} {v : Nat} (h : v < n) : nth (tab n f) (v : Int) = f v := by rw [tC (by omega) (by omega)]; congr 1
theorem cg1 (F : Nat) : oO F EG = some true := rfl
theorem cg2 (F : Nat) : oO F uY = some true := rfl
theorem cg3 (F : Nat) : oO F wQ = some true := rfl
theorem cn1 (F : Nat) : jq F EG = some false := rfl
theorem cn2 (F : Nat) : jq F uY = some false := rfl
theorem cn3 (F : Nat) : jq F wQ = some true := rfl
theorem acE (F : Nat) : vH F uY uY = some true := rfl
section
variable {g : aJ} {size : Int}
theorem zI (t i : Nat) : sf t i = ⟨EG, -1⟩ ∨ sf t i = ⟨uY, -1⟩ ∨ sf t i = ⟨uY, 1⟩ ∨ sf t i = ⟨wQ, -1⟩ := by
 unfold sf
 split
 ·exact .inl rfl
 ·split
  ·split
   ·exact .inr (.inl rfl)
   ·exact .inr (.inr (.inl rfl))
  ·exact .inr (.inr (.inr rfl))
theorem abb (F : Nat) (hg : GG g) : fD F (st0 g size) 0 = some true := by
 have := hg.h1; have := hg.t1
 unfold fD st0
 rw [aP, show nth (tab g.aA.toNat (tf g.ak.toNat size)) 0 = qV size from by rw [tC (by omega) (by omega)]; rfl]
 have e : (decide ((0 : Int) ≤ 0) && decide ((0 : Int) < ((g.aA.toNat : Nat) : Int))) = true := by simp; omega
 rw [e, bY (fun _ => ⟨by omega, by rw [aP]; omega⟩)]
 rfl
theorem Yd (F : Nat) (hg : GG g) : fD F (st0 g size) 1 = some true := by
 have := hg.h1; have := hg.t1
 unfold fD st0
 rw [aP, show nth (tab g.aA.toNat (tf g.ak.toNat size)) 1 = Bc from by rw [tC (by omega) (by omega)]; rfl]
 have e : (decide ((0 : Int) ≤ 1) && decide ((1 : Int) < ((g.aA.toNat : Nat) : Int))) = true := by simp; omega
 rw [e, bY (fun _ => ⟨by omega, by rw [aP]; omega⟩)]
 rfl
theorem Ye (F : Nat) (hF : 100 ≤ F) (hg : GG g) : kV F (st0 g size) = some true := by
 have t1 := hg.t1; have s2 := hg.s2; have s1 := hg.s1; have h1 := hg.h1
 unfold kV
 simp only [jn]
 refine qI (fun n v => fF F (st0 g size) (fun _ => some true) n v) g.ay.toNat _ (fun n v hv => ?_) (fun n => ?_) F 0 (by omega) (by omega)
 ·have hl : (st0 g size).ay.length = g.ay.toNat := aP _ _
  have hlt : (st0 g size).aA.length = g.aA.toNat := aP _ _
  have hn : nth (st0 g size).ay (v : Int) = sf g.ak.toNat v := dU hv
  have n0 : nth (st0 g size).aA 0 = qV size := by unfold st0; rw [tC (by omega) (by omega)]; rfl
  have n1 : nth (st0 g size).aA 1 = Bc := by unfold st0; rw [tC (by omega) (by omega)]; rfl
  conv => lhs; unfold fF
  rw [hl, dlt hv, cond_true, eU (by omega) (by rw [hl]; omega), hn, cs]
  rcases zI g.ak.toNat v with e | e | e | e <;> rw [e] <;> simp only [cg1, cg2, cg3, cn1, cn2, cn3, ob, Bool.not_true, Bool.not_false, ct, cf, jn_, Bool.false_and, Bool.true_and, ttt, lzt]
  ·rw [show fD F (st0 g size) EG.iG = some true from abb F hg]
   rw [ob]
   rw [show EG.iG = 0 from rfl, n0, bY (fun _ _ => ⟨by omega, by rw [hlt]; omega⟩)]
   rw [show decide ((-1 : Int) < -1) = false from rfl]
   simp only [cf, Bool.not_true, Bool.false_or, show ((qV size).xType != EG.xType) = false from rfl]
   rw [cZ (by omega) (by omega)]
  ·rw [show fD F (st0 g size) uY.iG = some true from Yd F hg]
   rw [ob]
   rw [show uY.iG = 1 from rfl, n1, bY (fun _ _ => ⟨by omega, by rw [hlt]; omega⟩)]
   rw [show decide ((-1 : Int) < -1) = false from rfl]
   simp only [cf, Bool.not_true, Bool.false_or, show (Bc.xType != uY.xType) = false from rfl]
   rw [cZ (by omega) (by omega)]
  ·rw [show fD F (st0 g size) uY.iG = some true from Yd F hg]
   rw [ob]
   rw [show uY.iG = 1 from rfl, n1, bY (fun _ _ => ⟨by omega, by rw [hlt]; omega⟩)]
   rw [show decide ((1 : Int) < -1) = false from rfl]
   simp only [cf, Bool.not_true, Bool.false_or, show (Bc.xType != uY.xType) = false from rfl]
   rw [cZ (by omega) (by omega)]
  ·simp only [ftf, lzf, ob, show ((-1 : Int) != -1) = false from rfl, cf]
   rw [bY (fun h => by cases h), cZ (by omega) (by omega)]
 ·conv => lhs; unfold fF
  rw [show (st0 g size).ay.length = g.ay.toNat from aP _ _, dge]
  rfl
end
end Go.V.P
set_option linter.unusedVariables false
set_option linter.unusedSimpArgs false
namespace Go.V.P
open Go.V Go.Proofs
variable {g : aJ} {size : Int}
def Uj (c : dS) (a : Int) : Bool := (!((c.xType == 0) && ((c.iG == 0) && ((c.kS == 0) && ((c.gI == 0) && true))))) && (c.iG == a)
theorem KA (F : Nat) (hF : 100 ≤ F) (s : aI) (hs : s.ay.length ≤ 96) (a : Int) : kM F s a = some (((List.range s.ay.length).filter (fun i : Nat => Uj (nth s.ay (i : Int)).gY a)).map fun i : Nat => (i : Int)) := by
 unfold kM
 rw [jn_]
 have hlen : ∀ v, (((List.range v).filter (fun i : Nat => Uj (nth s.ay (i : Int)).gY a)).map fun i : Nat => (i : Int)).length ≤ v := fun v => by
  rw [List.length_map]
  exact Nat.le_trans (List.length_filter_le _ _) (by simp)
 refine qw (fun n v l => iZ F s a (fun v1 => some v1) n v l) s.ay.length (fun v => ((List.range v).filter (fun i : Nat => Uj (nth s.ay (i : Int)).gY a)).map fun i : Nat => (i : Int)) _ (fun n v hv => ?_) (fun n => ?_) F 0 (by omega) (by omega)
 ·conv => lhs; unfold iZ
  rw [dlt hv, ct, jn_, eU (by omega) (by omega)]
  unfold jq
  rw [ob, cs]
  have hl := hlen v
  have e : List.range (v + 1) = List.range v ++ [v] := List.range_succ
  have hd : Uj (nth s.ay (v : Int)).gY a = ((!((nth s.ay (v : Int)).gY.xType == 0 && ((nth s.ay (v : Int)).gY.iG == 0 && ((nth s.ay (v : Int)).gY.kS == 0 && ((nth s.ay (v : Int)).gY.gI == 0 && true))))) && (nth s.ay (v : Int)).gY.iG == a) := rfl
  rw [← hd]
  cases hc : Uj (nth s.ay (v : Int)).gY a
  ·rw [cf]; dsimp only; rw [cZ (by omega) (by omega), e, List.filter_append]
   simp [hc]
  ·rw [ct, bY (by simp only [List.length_cons, List.length_nil]; omega)]; dsimp only; rw [cZ (by omega) (by omega), e, List.filter_append]
   simp [hc]
 ·conv => lhs; unfold iZ
  rw [dge, cf]
theorem Yf (F : Nat) (hF : 100 ≤ F) (hg : GG g) (a : Int) (ha : a = 0 ∨ a = 1) : ∃ l, kM F (st0 g size) a = some l ∧ ((((l.length : Nat) : Int) == 0) = false) := by
 have t1 := hg.t1; have s2 := hg.s2; have s1 := hg.s1
 have hl : (st0 g size).ay.length = g.ay.toNat := aP _ _
 refine ⟨_, KA F hF _ (by rw [hl]; omega) a, ?_⟩
 have hpos : 0 < (((List.range (st0 g size).ay.length).filter (fun i : Nat => Uj (nth (st0 g size).ay (i : Int)).gY a)).map fun i : Nat => (i : Int)).length := by
  rw [List.length_map]
  apply List.length_pos_of_mem (a := a.toNat)
  rw [List.mem_filter, hl, List.mem_range]
  refine ⟨by omega, ?_⟩
  have hn : nth (st0 g size).ay ((a.toNat : Nat) : Int) = sf g.ak.toNat a.toNat := dU (by omega)
  rw [hn]
  rcases ha with rfl | rfl
  ·rfl
  ·have hT : 1 < 8 * g.ak.toNat := by omega
   have : sf g.ak.toNat (1 : Int).toNat = ⟨uY, -1⟩ := by
    show sf g.ak.toNat 1 = _
    simp [sf, hT]
   rw [this]; rfl
 generalize (((List.range (st0 g size).ay.length).filter (fun i : Nat => Uj (nth (st0 g size).ay (i : Int)).gY a)).map fun i : Nat => (i : Int)).length = n at hpos
 rw [beq_eq_false_iff_ne]
 omega
theorem vZ (t i : Nat) (size : Int) : (i = 0 ∧ tf t size i = qV size) ∨ (i = 1 ∧ tf t size i = Bc) ∨ (2 ≤ i ∧ i < 2 + t ∧ tf t size i = qc (8 * ((i : Int) - 2))) ∨ (2 + t ≤ i ∧ 2 ≤ i ∧ tf t size i = Gi) := by
 unfold tf
 split
 ·rename_i h; exact .inl ⟨h, rfl⟩
 ·split
  ·rename_i h; exact .inr (.inl ⟨h, rfl⟩)
  ·split
   ·exact .inr (.inr (.inl ⟨by omega, by omega, rfl⟩))
   ·exact .inr (.inr (.inr ⟨by omega, by omega, rfl⟩))
theorem Uk (F : Nat) (hF : 100 ≤ F) (hg : GG g) (hz1 : 1 ≤ size) (hz2 : size ≤ 4096) : jO F (st0 g size) = some true := by
 have t1 := hg.t1; have t2 := hg.t2; have s2 := hg.s2; have s1 := hg.s1; have h1 := hg.h1; have h2 := hg.h2
 unfold jO
 rw [jn_]
 have hl : (st0 g size).ay.length = g.ay.toNat := aP _ _
 have hlt : (st0 g size).aA.length = g.aA.toNat := aP _ _
 refine qI (fun n v => fC F (st0 g size) (fun _ => some true) n v) g.aA.toNat _ (fun n v hv => ?_) (fun n => ?_) F 0 (by omega) (by omega)
 ·have hn : nth (st0 g size).aA (v : Int) = tf g.ak.toNat size v := dU hv
  have BN : (st0 g size).bH = g := rfl
  conv => lhs; unfold fC
  rw [hlt, dlt hv, ct, eU (by omega) (by rw [hlt]; omega), hn, cs, BN]
  have hgood : jH F (tf g.ak.toNat size v) = some true := by
   rcases vZ g.ak.toNat v size with ⟨rfl, e⟩ | ⟨rfl, e⟩ | ⟨c1, c2, e⟩ | ⟨c1, _, e⟩ <;> rw [e]
   ·rw [Ie, decide_eq_true hz1, decide_eq_true hz2]; rfl
   ·exact WJ F
   ·exact OB F (by omega) (by omega)
   ·exact WO F
  have acF : (tf g.ak.toNat size v).eH = 0 := by
   rcases vZ g.ak.toNat v size with ⟨_, e⟩ | ⟨_, e⟩ | ⟨c1, c2, e⟩ | ⟨c1, _, e⟩ <;> rw [e] <;> rfl
  rw [hgood, ob, Bool.not_true, cf, acF, show decide ((0 : Int) < 0) = false from rfl, bY (fun h => by cases h), bY (fun h => by cases h), ftf, Bool.false_and, lzf, ob, Bool.false_and, cf]
  by_cases hv2 : 2 ≤ v
  ·have d2 : decide ((2 : Int) ≤ (v : Int)) = true := decide_eq_true (by omega)
   rw [d2, VN (by omega) (by omega)]
   by_cases hv3 : v < 2 + g.ak.toNat
   ·have d3 : decide ((v : Int) < 2 + g.ak) = true := decide_eq_true (by omega)
    have e : tf g.ak.toNat size v = qc (8 * ((v : Int) - 2)) := by
     rcases vZ g.ak.toNat v size with ⟨_, e⟩ | ⟨_, e⟩ | ⟨c1, c2, e⟩ | ⟨c1, _, e⟩
     ·omega
     ·omega
     ·exact e
     ·omega
    rw [d3, Bool.and_self, VN (by omega) (by omega), ttt, lzt, Gh F hg (by omega) (by omega), ob, e]
    simp only [qc, beq_self_eq_true, Bool.and_self, Bool.not_true, Bool.and_false, cf, Bool.false_and, ftf, lzf, ob, v4z]
    rw [cZ (by omega) (by omega)]
   ·have d3 : decide ((v : Int) < 2 + g.ak) = false := decide_eq_false (by omega)
    have e : tf g.ak.toNat size v = Gi := by
     rcases vZ g.ak.toNat v size with ⟨_, e⟩ | ⟨_, e⟩ | ⟨c1, c2, e⟩ | ⟨c1, _, e⟩
     ·omega
     ·omega
     ·omega
     ·exact e
    rw [d3, Bool.and_false, bY (fun h => by cases h), ftf, lzf, ob, Bool.false_and, cf, e]
    rw [show (Gi.xType != 0) = false from rfl, Bool.and_false, ftf, lzf, ob, Bool.false_and, cf, cZ (by omega) (by omega)]
  ·have d2 : decide ((2 : Int) ≤ (v : Int)) = false := decide_eq_false (by omega)
   rw [d2, bY (fun h => by cases h), Bool.false_and, bY (fun h => by cases h), ftf, lzf, ob, Bool.false_and, cf]
   obtain ⟨l, hl1, hl2⟩ := Yf (size := size) F hF hg (v : Int) (by omega)
   have e : ((tf g.ak.toNat size v).xType != 0) = true := by
    rcases vZ g.ak.toNat v size with ⟨_, e⟩ | ⟨_, e⟩ | ⟨c1, c2, e⟩ | ⟨c1, _, e⟩
    ·rw [e]; rfl
    ·rw [e]; rfl
    ·omega
    ·omega
   rw [e, Bool.not_false, Bool.and_self, ttt, lzt, hl1, ob, hl2, Bool.and_false, cf, cZ (by omega) (by omega)]
 ·conv => lhs; unfold fC
  rw [hlt, dge, cf]
end Go.V.P
set_option linter.unusedVariables false
set_option linter.unusedSimpArgs false
namespace Go.V.P
open Go.V Go.Proofs
variable {g : aJ} {size : Int}
def KC (t v : Nat) (i : Nat) : Bool := decide (i < 8 * (min v (2 + t) - 2))
theorem Yg (F : Nat) (s : aI) (v : Nat) (b : Nat) (hv : nth s.aA (v : Int) = qc (8 * (b : Int))) (S : Nat) (hS : 8 * b + 8 ≤ S) (hb : b ≤ 4) (k : List Bool → Option Bool) (G : Nat) (hG : 10 ≤ G) :
  eY F s v k G 0 (tab S (fun i => decide (i < 8 * b))) = k (tab S (fun i => decide (i < 8 * (b + 1)))) := by
 have h := qw (fun n w l => eY F s v k n w l) 8 (fun w => tab S (fun i => decide (i < 8 * b + w))) (k (tab S (fun i => decide (i < 8 * (b + 1))))) (fun n w hw => ?_) (fun n => ?_) G 0 (by omega) (by omega)
 ·simpa using h
 ·conv => lhs; unfold eY
  rw [hv]
  have e1 : decide ((w : Int) < pF .i64 (1 : Int) (qc (8 * (b : Int))).iY) = true := by
   rw [show pF .i64 (1 : Int) (qc (8 * (b : Int))).iY = 8 from Ui]; exact decide_eq_true (by omega)
  have e2 : (qc (8 * (b : Int))).jw = 8 * (b : Int) := rfl
  rw [e1, ct, e2, cZ (by omega) (by omega), aP]
  have e3 : decide (((S : Nat) : Int) ≤ 8 * (b : Int) + (w : Int)) = false := decide_eq_false (by omega)
  rw [e3, bY (fun _ => ⟨by omega, by rw [aP]; omega⟩), tC (by omega) (by omega)]
  have e4 : decide ((8 * (b : Int) + (w : Int)).toNat < 8 * b + w) = false := decide_eq_false (by omega)
  rw [e4, Bool.or_self, cf, eU (by omega) (by rw [aP]; omega), cZ (by omega) (by omega), qH, cs]
  congr 1
  refine fV fun j hj => ?_
  by_cases c : j = (8 * (b : Int) + (w : Int)).toNat
  ·rw [if_pos c]; exact (decide_eq_true (by omega)).symm
  ·rw [if_neg c]
   by_cases c2 : j < 8 * b + w
   ·rw [decide_eq_true c2, decide_eq_true (by omega)]
   ·rw [decide_eq_false c2, decide_eq_false (by omega)]
 ·conv => lhs; unfold eY
  rw [hv]
  have e1 : decide (((8 : Nat) : Int) < pF .i64 (1 : Int) (qc (8 * (b : Int))).iY) = false := by
   rw [show pF .i64 (1 : Int) (qc (8 * (b : Int))).iY = 8 from Ui]; decide
  rw [e1, cf]
  congr 1
theorem WR (F : Nat) (hF : 100 ≤ F) (hg : GG g) : kD F (st0 g size) = some true := by
 have t1 := hg.t1; have t2 := hg.t2; have s2 := hg.s2; have s1 := hg.s1; have h1 := hg.h1; have h2 := hg.h2
 have hl : (st0 g size).ay.length = g.ay.toNat := aP _ _
 have hlt : (st0 g size).aA.length = g.aA.toNat := aP _ _
 have key : ∀ k : List Bool → Option Bool, fA F (st0 g size) k F 0 (List.replicate ((((st0 g size).ay.length : Nat) : Int)).toNat false) = k (tab g.ay.toNat (fun i => decide (i < 8 * g.ak.toNat))) := by
  intro k
  have h0 : List.replicate ((((st0 g size).ay.length : Nat) : Int)).toNat false = tab g.ay.toNat (KC g.ak.toNat 0) := by
   rw [hl, sV, Int.toNat_natCast]
   exact fV fun j hj => by simp [KC]
  rw [h0]
  refine qw (fun n v l => fA F (st0 g size) k n v l) g.aA.toNat (fun v => tab g.ay.toNat (KC g.ak.toNat v)) _ (fun n v hv => ?_) (fun n => ?_) F 0 (by omega) (by omega)
  ·have hn : nth (st0 g size).aA (v : Int) = tf g.ak.toNat size v := dU hv
   conv => lhs; unfold fA
   rw [hlt, dlt hv, ct, jn_, eU (by omega) (by rw [hlt]; omega), hn, cs]
   rcases vZ g.ak.toNat v size with ⟨c, e⟩ | ⟨c, e⟩ | ⟨c1, c2, e⟩ | ⟨c1, _, e⟩
   ·rw [e, show ((qV size).xType != 2) = true from rfl, ct]; dsimp only; rw [cZ (by omega) (by omega)]
    congr 1
    exact fV fun j hj => by unfold KC; congr 2; omega
   ·rw [e, show (Bc.xType != 2) = true from rfl, ct]; dsimp only; rw [cZ (by omega) (by omega)]
    congr 1
    exact fV fun j hj => by unfold KC; congr 2; omega
   ·have e' : (8 * ((v : Int) - 2)) = 8 * ((v - 2 : Nat) : Int) := by omega
    rw [e, show ((qc (8 * ((v : Int) - 2))).xType != 2) = false from rfl, cf, bY (show (0 : Int) ≤ (qc (8 * ((v : Int) - 2))).iY by show (0 : Int) ≤ 3; decide)]
    have a1 : tab g.ay.toNat (KC g.ak.toNat v) = tab g.ay.toNat (fun i => decide (i < 8 * (v - 2))) := fV fun j hj => by unfold KC; congr 2; omega
    have a2 : tab g.ay.toNat (KC g.ak.toNat (v + 1)) = tab g.ay.toNat (fun i => decide (i < 8 * ((v - 2) + 1))) := fV fun j hj => by unfold KC; congr 2; omega
    rw [a1, a2]
    refine (Yg F (st0 g size) v (v - 2) (by rw [hn, e, e']) g.ay.toNat (by omega) (by omega) _ F (by omega)).trans ?_
    rw [cZ (by omega) (by omega)]
   ·rw [e, show (Gi.xType != 2) = true from rfl, ct]; dsimp only; rw [cZ (by omega) (by omega)]
    congr 1
    exact fV fun j hj => by unfold KC; congr 2; omega
  ·conv => lhs; unfold fA
   rw [hlt, dge, cf]
   congr 1
   exact fV fun j hj => by unfold KC; congr 2; omega
 unfold kD
 rw [bY (by rw [hl]; omega), jn_, key, jn_]
 refine qI (fun n v => fJ F (st0 g size) _ (fun _ => some true) n v) g.ay.toNat _ (fun n v hv => ?_) (fun n => ?_) F 0 (by omega) (by omega)
 ·have hn : nth (st0 g size).ay (v : Int) = sf g.ak.toNat v := dU hv
  conv => lhs; unfold fJ
  rw [hl, dlt hv, ct, eU (by omega) (by rw [hl]; omega), eU (by omega) (by rw [aP]; omega), hn, cs, dU hv]
  by_cases c : v < 8 * g.ak.toNat
  ·rw [decide_eq_true c, Bool.not_true, ftf, lzf, ob, Bool.false_and, cf, cZ (by omega) (by omega)]
  ·have e : sf g.ak.toNat v = ⟨wQ, -1⟩ := by
    unfold sf
    rw [if_neg (by omega), if_neg (by omega)]
   rw [decide_eq_false c, Bool.not_false, ttt, lzt, e, cn3, ob, Bool.not_true, Bool.and_false, cf, cZ (by omega) (by omega)]
 ·conv => lhs; unfold fJ
  rw [hl, dge, cf]
theorem Yh (F : Nat) (hF : 100 ≤ F) (hg : GG g) : kW F (st0 g size) = some false := by
 have t1 := hg.t1; have s2 := hg.s2; have s1 := hg.s1
 have hl : (st0 g size).ay.length = g.ay.toNat := aP _ _
 unfold kW
 rw [jn_]
 refine qI (fun n v => fQ F (st0 g size) (fun _ => some false) n v) g.ay.toNat _ (fun n v hv => ?_) (fun n => ?_) F 0 (by omega) (by omega)
 ·have hn : nth (st0 g size).ay (v : Int) = sf g.ak.toNat v := dU hv
  have e : ((sf g.ak.toNat v).gY.xType == 2) = false := by rcases zI g.ak.toNat v with e | e | e | e <;> rw [e] <;> rfl
  conv => lhs; unfold fQ
  rw [hl, dlt hv, ct, eU (by omega) (by rw [hl]; omega), hn, cs, e, ftf, lzf, ob, Bool.false_and, cf, cZ (by omega) (by omega)]
 ·conv => lhs; unfold fQ
  rw [hl, dge, cf]
def ff (t : Nat) (i : Nat) : Int := if i = 0 then -1 else if i % 8 = 1 ∧ i < 8 * t then (if i = 1 then -1 else 1) else -2
theorem Rf (t i : Nat) : ff t i = -1 ∨ ff t i = 1 ∨ ff t i = -2 := by
 unfold ff
 split
 ·exact .inl rfl
 ·split
  ·split
   ·exact .inl rfl
   ·exact .inr (.inl rfl)
  ·exact .inr (.inr rfl)
theorem Ul (F : Nat) (hF : 100 ≤ F) (hg : GG g) : lU F (st0 g size) = some ⟨tab g.ay.toNat (ff g.ak.toNat)⟩ := by
 have t1 := hg.t1; have s2 := hg.s2; have s1 := hg.s1
 have hl : (st0 g size).ay.length = g.ay.toNat := aP _ _
 unfold lU
 rw [jn_]
 refine qw (fun n v l => iw F (st0 g size) (fun v1 => some ⟨v1⟩) n v l) g.ay.toNat (fun v => tab v (ff g.ak.toNat)) _ (fun n v hv => ?_) (fun n => ?_) F 0 (by omega) (by omega)
 ·have hn : nth (st0 g size).ay (v : Int) = sf g.ak.toNat v := dU hv
  conv => lhs; unfold iw
  rw [hl, dlt hv, ct, eU (by omega) (by rw [hl]; omega), jn_, hn, cs, oG]
  have key : ((jq F (sf g.ak.toNat v).gY).bind fun x30 => bif x30 then some (-2 : Int) else some (sf g.ak.toNat v).xUp) = some (ff g.ak.toNat v) := by
   unfold sf ff
   split
   ·rfl
   ·split
    ·split <;> rfl
    ·rfl
  obtain ⟨b, hb⟩ : ∃ b, jq F (sf g.ak.toNat v).gY = some b := ⟨_, rfl⟩
  rw [hb, ob] at key ⊢
  cases b
  ·rw [cf] at key ⊢
   injection key with key
   dsimp only
   rw [key, bY (by rw [aP]; simp only [List.length_cons, List.length_nil]; omega), cZ (by omega) (by omega)]
  ·rw [ct] at key ⊢
   injection key with key
   dsimp only
   rw [key, bY (by rw [aP]; simp only [List.length_cons, List.length_nil]; omega), cZ (by omega) (by omega)]
 ·conv => lhs; unfold iw
  rw [hl, dge, cf]
theorem Yi (F : Nat) {n : Nat} {f : Nat → Int} {i : Int} (h0 : 0 ≤ i) (h1 : i < n) : iD F ⟨tab n f⟩ i = some (f i.toNat != -2) := by
 unfold iD
 rw [aP, decide_eq_true h0, decide_eq_true h1, Bool.and_self, bY (fun _ => ⟨h0, by rw [aP]; exact h1⟩), tC h0 h1, Bool.true_and]
theorem abd (F : Nat) {n : Nat} {f : Nat → Int} {i : Int} (h0 : i < 0) : iD F ⟨tab n f⟩ i = some false := by
 unfold iD
 rw [decide_eq_false (show ¬ (0 ≤ i) by omega), Bool.false_and, bY (fun h => by cases h), Bool.false_and]
theorem Rh (F : Nat) (hF : 100 ≤ F) (hg : GG g) : oP F ⟨tab g.ay.toNat (ff g.ak.toNat)⟩ = some true := by
 have t1 := hg.t1; have s2 := hg.s2; have s1 := hg.s1
 have f1 : ff g.ak.toNat 1 = -1 := by
  have hT : 1 < 8 * g.ak.toNat := by omega
  simp [ff, hT]
 have is1 : iD F ⟨tab g.ay.toNat (ff g.ak.toNat)⟩ 1 = some true := by
  rw [Yi F (by omega) (by omega), show (1 : Int).toNat = 1 from rfl, f1]; rfl
 have n1 : nth (tab g.ay.toNat (ff g.ak.toNat)) 1 = -1 := by rw [tC (by omega) (by omega)]; exact f1
 unfold oP
 rw [aP, decide_eq_false (show ¬ ((96 : Int) < ((g.ay.toNat : Nat) : Int)) by omega), cf, jn_]
 refine (qI (fun n v => iT F ⟨tab g.ay.toNat (ff g.ak.toNat)⟩ _ n v) g.ay.toNat (some true) (fun n v hv => ?_) (fun n => ?_) F 0 (by omega) (by omega))
 ·conv => lhs; unfold iT
  rw [aP, dlt hv, ct, eU (by omega) (by rw [aP]; omega), dU hv, cs]
  rcases Rf g.ak.toNat v with e | e | e <;> rw [e]
  ·rw [show ((-1 : Int) != -2 && (-1 : Int) != -1) = false from rfl, ftf, lzf, ob, Bool.false_and, cf, cZ (by omega) (by omega)]
  ·rw [show ((1 : Int) != -2 && (1 : Int) != -1) = true from rfl, ttt, lzt, is1, ob, Bool.not_true, Bool.and_false, cf, cZ (by omega) (by omega)]
  ·rw [show ((-2 : Int) != -2 && (-2 : Int) != -1) = false from rfl, ftf, lzf, ob, Bool.false_and, cf, cZ (by omega) (by omega)]
 ·conv => lhs; unfold iT
  rw [aP, dge, cf, jn_]
  refine (qI (fun n v => iU F ⟨tab g.ay.toNat (ff g.ak.toNat)⟩ _ n v) g.ay.toNat (some true) (fun n v hv => ?_) (fun n => ?_) F 0 (by omega) (by omega))
  ·conv => lhs; unfold iU
   rw [aP, dlt hv, ct, jn_]
   obtain ⟨G, hG⟩ : ∃ G, F = G + 3 := ⟨F - 3, by omega⟩
   have hl1 : ∀ (k : Unit → Option Bool), fG F ⟨tab g.ay.toNat (ff g.ak.toNat)⟩ k F 0 (v : Int) = k () := by
    intro k
    have stop : ∀ (m : Nat) (c : Int), fG F ⟨tab g.ay.toNat (ff g.ak.toNat)⟩ k (m + 1) c (-1) = k () := by
     intro m c
     unfold fG
     rw [abd F (by omega), ob, cf]
    have go : ∀ (m : Nat) (c : Int) (i : Int) (u : Int), c ≤ 2 → 0 ≤ c → iD F ⟨tab g.ay.toNat (ff g.ak.toNat)⟩ i = some true → nth (tab g.ay.toNat (ff g.ak.toNat)) i = u → 0 ≤ i → i < g.ay.toNat → fG F ⟨tab g.ay.toNat (ff g.ak.toNat)⟩ k (m + 1) c i = fG F ⟨tab g.ay.toNat (ff g.ak.toNat)⟩ k m (c + 1) u := by
     intro m c i u hc hc0 hi hu h0 h1
     conv => lhs; unfold fG
     rw [hi, ob, ct, aP, decide_eq_false (show ¬ (((g.ay.toNat : Nat) : Int) < c) by omega), cf, cZ (by omega) (by omega), eU h0 (by rw [aP]; exact h1), hu]
    have hn := dU (f := ff g.ak.toNat) hv
    have his := Yi F (n := g.ay.toNat) (f := ff g.ak.toNat) (i := (v : Int)) (by omega) (by omega)
    rw [show (v : Int).toNat = v by omega] at his
    have e3 : ∀ c x, fG F ⟨tab g.ay.toNat (ff g.ak.toNat)⟩ k F c x = fG F ⟨tab g.ay.toNat (ff g.ak.toNat)⟩ k (G + 2 + 1) c x := fun c x => by rw [show G + 2 + 1 = F by omega]
    rw [e3]
    rcases Rf g.ak.toNat v with e | e | e
    ·rw [go (G + 2) 0 v (-1) (by omega) (by omega) (by rw [his, e]; rfl) (by rw [hn, e]) (by omega) (by omega), stop]
    ·rw [go (G + 2) 0 v 1 (by omega) (by omega) (by rw [his, e]; rfl) (by rw [hn, e]) (by omega) (by omega), go (G + 1) (0 + 1) 1 (-1) (by omega) (by omega) is1 n1 (by omega) (by omega), stop]
    ·unfold fG
     rw [his, e, ob, show ((-2 : Int) != -2) = false from rfl, cf]
   rw [hl1, cZ (by omega) (by omega), cs]
  ·conv => lhs; unfold iU
   rw [aP, dge, cf]
theorem Ri (F : Nat) (hF : 100 ≤ F) (hg : GG g) : jG F (st0 g size) = some true := by
 have t1 := hg.t1; have s2 := hg.s2; have s1 := hg.s1
 have hl : (st0 g size).ay.length = g.ay.toNat := aP _ _
 have hn1 : nth (st0 g size).ay 1 = ⟨uY, -1⟩ := by
  have hT : 1 < 8 * g.ak.toNat := by omega
  rw [show nth (st0 g size).ay 1 = sf g.ak.toNat 1 from dU (v := 1) (by omega)]
  simp [sf, hT]
 unfold jG
 rw [jn_]
 refine qI (fun n v => dX F (st0 g size) (fun _ => some true) n v) g.ay.toNat _ (fun n v hv => ?_) (fun n => ?_) F 0 (by omega) (by omega)
 ·have hn : nth (st0 g size).ay (v : Int) = sf g.ak.toNat v := dU hv
  conv => lhs; unfold dX
  rw [hl, dlt hv, ct, jn_, eU (by omega) (by rw [hl]; omega), hn, cs]
  have stop : ∀ (k : Unit → Option Bool) (m : Nat) (c : Int), 0 ≤ c → c < 4 → dQ F (st0 g size) v k (m + 1) (-1) c = k () := by
   intro k m c h0 h1
   unfold dQ
   rw [hl, decide_eq_true (show c < ((g.ay.toNat : Nat) : Int) by omega), ct, show decide ((-1 : Int) < 0) = true from rfl, ct]
  obtain ⟨G, hG⟩ : ∃ G, F = G + 2 := ⟨F - 2, by omega⟩
  have e3 : ∀ k c x, dQ F (st0 g size) v k F c x = dQ F (st0 g size) v k (G + 1 + 1) c x := fun k c x => by rw [show G + 1 + 1 = F by omega]
  rw [e3]
  rcases zI g.ak.toNat v with e | e | e | e
  ·rw [e]; rw [stop _ _ _ (by omega) (by omega), cZ (by omega) (by omega)]
  ·rw [e]; rw [stop _ _ _ (by omega) (by omega), cZ (by omega) (by omega)]
  ·rw [show (sf g.ak.toNat v).xUp = 1 from by rw [e]]
   conv => lhs; unfold dQ
   rw [hl, decide_eq_true (show (0 : Int) < ((g.ay.toNat : Nat) : Int) by omega), ct, show decide ((1 : Int) < 0) = false from rfl, cf, eU (by omega) (by rw [hl]; omega), hn1, hn, e, acE, ob, Bool.not_true, Bool.false_and, cf, cZ (by omega) (by omega), stop _ _ _ (by omega) (by omega), cZ (by omega) (by omega)]
  ·rw [e]; rw [stop _ _ _ (by omega) (by omega), cZ (by omega) (by omega)]
 ·conv => lhs; unfold dX
  rw [hl, dge, cf]
theorem KD (F : Nat) (hF : 100 ≤ F) (hg : GG g) (hz1 : 1 ≤ size) (hz2 : size ≤ 4096) : oH F (st0 g size) = some true := by
 have t1 := hg.t1; have s2 := hg.s2; have s1 := hg.s1; have h1 := hg.h1
 have hl : (st0 g size).ay.length = g.ay.toNat := aP _ _
 have hlt : (st0 g size).aA.length = g.aA.toNat := aP _ _
 have BN : (st0 g size).bH = g := rfl
 have e1 : ((((st0 g size).ay.length : Nat) : Int) != g.ay) = false := by rw [hl, bne_eq_false_iff_eq]; omega
 have e2 : ((((st0 g size).aA.length : Nat) : Int) != g.aA) = false := by rw [hlt, bne_eq_false_iff_eq]; omega
 unfold oH
 have o : (false || false) = false := rfl
 have aa : (true && true) = true := rfl
 rw [BN, lT F hg, ob, e1, e2, Bool.not_true, o, o, cf, Ye F hF hg, ob, ttt, lzt, Uk F hF hg hz1 hz2, ob, aa, ttt, lzt, WR F hF hg, ob, aa, ttt, lzt, Yh F hF hg, ob, Bool.not_false, aa, ttt, lzt, Ul F hF hg, ob, lzt, Rh F hF hg, ob, aa, ttt, lzt, Ri F hF hg, ob, aa]
end Go.V.P
set_option linter.unusedVariables false
set_option linter.unusedSimpArgs false
set_option maxRecDepth 20000
namespace Go.V.P
open Go.V Go.Proofs
def yP (n : Int) : List Int := [1, n, 0, 0, 0, 0, 0, 0]
theorem all2 {p : Nat → Bool} (h : ((List.range 64).all fun a => (List.range 65).all fun b => p (64 * a + b)) = true) (n : Nat) (hn : n ≤ 4096) : p n = true := by
 by_cases e : n = 4096
 ·subst e
  exact List.all_eq_true.1 (List.all_eq_true.1 h 63 (List.mem_range.2 (by omega))) 64 (List.mem_range.2 (by omega))
 have h1 := List.all_eq_true.1 h (n / 64) (List.mem_range.2 (by omega))
 have h2 := List.all_eq_true.1 h1 (n % 64) (List.mem_range.2 (by omega))
 have : 64 * (n / 64) + n % 64 = n := by omega
 rwa [this] at h2
noncomputable def Yj (n : Nat) : Bool := decide (tN .u64 (n : Int) 65535 = n) && decide (tN .u64 (n : Int) 4294901760 = 0) && decide (tN .u64 (n : Int) 281470681743360 = 0) && decide (ior .u64 0 (n : Int) = n) && decide (ior .u64 (n : Int) 0 = n) && decide (kL .u64 (n : Int) 0 = n) && decide (pF .u64 (n : Int) 0 = n)
theorem Yk : ((List.range 64).all fun a => (List.range 65).all fun b => Yj (64 * a + b)) = true := by kernel_rfl
theorem acG (n : Nat) (hn : n ≤ 4096) : tN .u64 (n : Int) 65535 = n ∧ tN .u64 (n : Int) 4294901760 = 0 ∧ tN .u64 (n : Int) 281470681743360 = 0 ∧ ior .u64 0 (n : Int) = n ∧ ior .u64 (n : Int) 0 = n ∧ kL .u64 (n : Int) 0 = n ∧ pF .u64 (n : Int) 0 = n := by
 have := all2 (p := Yj) Yk n hn
 unfold Yj at this
 simp only [Bool.and_eq_true, decide_eq_true_eq] at this
 obtain ⟨⟨⟨⟨⟨⟨a1, a2⟩, a3⟩, a4⟩, a5⟩, a6⟩, a7⟩ := this
 exact ⟨a1, a2, a3, a4, a5, a6, a7⟩
theorem cw1 (G : Nat) : qy (G + 5) EG = some (1793, true) := by kernel_rfl
theorem cw2 (G : Nat) : qy (G + 5) uY = some (4294969091, true) := by kernel_rfl
theorem cw3 (G : Nat) : qy (G + 5) wQ = some (0, true) := by kernel_rfl
theorem adA (G : Nat) : rX (G + 5) 1793 = some (EG, true) := by kernel_rfl
theorem acH (G : Nat) : rX (G + 5) 4294969091 = some (uY, true) := by kernel_rfl
theorem adB (G : Nat) : rX (G + 5) 0 = some (wQ, true) := by kernel_rfl
theorem tp2 (G : Nat) : jo (G + 6) Bc = some [3, 0, 0, 0, 0, 0, 0, 0] := by kernel_rfl
theorem tp4 (G : Nat) : jo (G + 6) Gi = some [0, 0, 0, 0, 0, 0, 0, 0] := by kernel_rfl
theorem adC (G : Nat) : jo (G + 6) (qc 0) = some [770, 0, 0, 0, 0, 0, 0, 0] := by kernel_rfl
theorem adD (G : Nat) : jo (G + 6) (qc 8) = some [525058, 0, 0, 0, 0, 0, 0, 0] := by kernel_rfl
theorem adE (G : Nat) : jo (G + 6) (qc 16) = some [1049346, 0, 0, 0, 0, 0, 0, 0] := by kernel_rfl
theorem adF (G : Nat) : jo (G + 6) (qc 24) = some [1573634, 0, 0, 0, 0, 0, 0, 0] := by kernel_rfl
theorem tg2 (G : Nat) : kG (G + 10) [3, 0, 0, 0, 0, 0, 0, 0] = some (Bc, true) := by kernel_rfl
theorem tg4 (G : Nat) : kG (G + 10) [0, 0, 0, 0, 0, 0, 0, 0] = some (Gi, true) := by kernel_rfl
theorem adG (G : Nat) : kG (G + 10) [770, 0, 0, 0, 0, 0, 0, 0] = some (qc 0, true) := by kernel_rfl
theorem adH (G : Nat) : kG (G + 10) [525058, 0, 0, 0, 0, 0, 0, 0] = some (qc 8, true) := by kernel_rfl
theorem adI (G : Nat) : kG (G + 10) [1049346, 0, 0, 0, 0, 0, 0, 0] = some (qc 16, true) := by kernel_rfl
theorem adJ (G : Nat) : kG (G + 10) [1573634, 0, 0, 0, 0, 0, 0, 0] = some (qc 24, true) := by kernel_rfl
def prs : List aU := [⟨0, 16⟩, ⟨16, 16⟩, ⟨32, 16⟩]
theorem Cm (G : Nat) : fE (G + 6) prs = some true := by kernel_rfl
theorem acI (F : Nat) : gW F ⟨0, 16⟩ = some 65535 := by kernel_rfl
theorem acJ (F : Nat) : gW F ⟨16, 16⟩ = some 4294901760 := by kernel_rfl
theorem acK (F : Nat) : gW F ⟨32, 16⟩ = some 281470681743360 := by kernel_rfl
theorem Yl {n : Nat} (h : n ≤ 4096) : IntKind.u64.wrap (n : Int) = n := by rw [IntKind.wrap_u64]; omega
theorem WS {n : Nat} (h : n ≤ 4096) : IntKind.i64.wrap (n : Int) = n := by rw [IntKind.wrap_i64]; omega
theorem Z4 (G : Nat) (n : Nat) (h : n ≤ 4096) : jB (G + 6) prs [(n : Int), 0, 0] = some ((n : Int), true) := by
 obtain ⟨a1, a2, a3, a4, a5, a6, a7⟩ := acG n h
 unfold jB
 rw [Cm, ob, show ((((prs.length : Nat) : Int)) != ((([(n : Int), 0, 0] : List Int).length : Nat) : Int)) = false from rfl, show (!true || false) = false from rfl, cf, jn_]
 unfold fZ
 rw [show decide ((0 : Int) < ((prs.length : Nat) : Int)) = true from rfl, ct, eU (by decide) (by decide), eU (by decide) (by show (0 : Int) < 3; decide), show nth prs 0 = ⟨0, 16⟩ from rfl, acI, ob, bY (by decide), show nth [(n : Int), 0, 0] 0 = (n : Int) from rfl, show kL .u64 65535 (⟨0, 16⟩ : aU).eH = 65535 by kernel_rfl, decide_eq_false (show ¬ ((65535 : Int) < (n : Int)) by omega), cf, eU (by decide) (by show (0 : Int) < 3; decide), bY (by decide), cZ (by decide) (by decide), show (⟨0, 16⟩ : aU).eH = 0 from rfl, a7, a4]
 unfold fZ
 rw [show decide ((0 : Int) + 1 < ((prs.length : Nat) : Int)) = true from rfl, ct, eU (by decide) (by decide), eU (by decide) (by show (0 : Int) + 1 < 3; decide), show nth prs (0 + 1) = ⟨16, 16⟩ from rfl, acJ, ob, bY (by decide), show nth [(n : Int), 0, 0] (0 + 1) = 0 from rfl, show kL .u64 4294901760 (⟨16, 16⟩ : aU).eH = 65535 by kernel_rfl, show decide ((65535 : Int) < 0) = false from rfl, cf, eU (by decide) (by show (0 : Int) + 1 < 3; decide), bY (by decide), cZ (by decide) (by decide), show pF .u64 0 (⟨16, 16⟩ : aU).eH = 0 by kernel_rfl, a5]
 unfold fZ
 rw [show decide ((0 : Int) + 1 + 1 < ((prs.length : Nat) : Int)) = true from rfl, ct, eU (by decide) (by decide), eU (by decide) (by show (0 : Int) + 1 + 1 < 3; decide), show nth prs (0 + 1 + 1) = ⟨32, 16⟩ from rfl, acK, ob, bY (by decide), show nth [(n : Int), 0, 0] (0 + 1 + 1) = 0 from rfl, show kL .u64 281470681743360 (⟨32, 16⟩ : aU).eH = 65535 by kernel_rfl, show decide ((65535 : Int) < 0) = false from rfl, cf, eU (by decide) (by show (0 : Int) + 1 + 1 < 3; decide), bY (by decide), cZ (by decide) (by decide), show pF .u64 0 (⟨32, 16⟩ : aU).eH = 0 by kernel_rfl, a5]
 unfold fZ
 rw [show decide ((0 : Int) + 1 + 1 + 1 < ((prs.length : Nat) : Int)) = false from rfl, cf]
theorem Z5 (G : Nat) (n : Nat) (h : n ≤ 4096) : nH (G + 6) (n : Int) prs = some [(n : Int), 0, 0] := by
 obtain ⟨a1, a2, a3, a4, a5, a6, a7⟩ := acG n h
 unfold nH
 rw [Cm, ob, Bool.not_true, cf, bY (by decide), jn_, show List.replicate (0 : Int).toNat (0 : Int) = [] from rfl]
 unfold jX
 rw [show decide ((0 : Int) < ((prs.length : Nat) : Int)) = true from rfl, ct, eU (by decide) (by decide), show nth prs 0 = ⟨0, 16⟩ from rfl, acI, ob, bY (by decide), bY (by simp), cZ (by decide) (by decide), a1, show (⟨0, 16⟩ : aU).eH = 0 from rfl, a6]
 unfold jX
 rw [show decide ((0 : Int) + 1 < ((prs.length : Nat) : Int)) = true from rfl, ct, eU (by decide) (by decide), show nth prs (0 + 1) = ⟨16, 16⟩ from rfl, acJ, ob, bY (by decide), bY (by simp), cZ (by decide) (by decide), a2, show kL .u64 0 (⟨16, 16⟩ : aU).eH = 0 by kernel_rfl]
 unfold jX
 rw [show decide ((0 : Int) + 1 + 1 < ((prs.length : Nat) : Int)) = true from rfl, ct, eU (by decide) (by decide), show nth prs (0 + 1 + 1) = ⟨32, 16⟩ from rfl, acK, ob, bY (by decide), bY (by simp), cZ (by decide) (by decide), a3, show kL .u64 0 (⟨32, 16⟩ : aU).eH = 0 by kernel_rfl]
 unfold jX
 rw [show decide ((0 : Int) + 1 + 1 + 1 < ((prs.length : Nat) : Int)) = false from rfl, cf]
 rfl
theorem byt (G : Nat) : lQ (G + 6) = some [⟨0, 8⟩, ⟨8, 8⟩, ⟨16, 8⟩, ⟨24, 8⟩, ⟨32, 8⟩] := by kernel_rfl
theorem Ym (G : Nat) : jB (G + 6) [⟨0, 8⟩, ⟨8, 8⟩, ⟨16, 8⟩, ⟨24, 8⟩, ⟨32, 8⟩] [1, 0, 0, 0, 0] = some (1, true) := by kernel_rfl
theorem CB (F : Nat) : oQ F = some prs := by kernel_rfl
theorem Z7 (G : Nat) : nH (G + 6) 1 [⟨0, 8⟩, ⟨8, 8⟩, ⟨16, 8⟩, ⟨24, 8⟩, ⟨32, 8⟩] = some [1, 0, 0, 0, 0] := by kernel_rfl
theorem tp1 (G : Nat) (n : Nat) (h1 : 1 ≤ n) (h : n ≤ 4096) : jo (G + 6) (qV (n : Int)) = some (yP (n : Int)) := by
 unfold jo
 rw [Ie, decide_eq_true (show (1 : Int) ≤ (n : Int) by omega), decide_eq_true (show (n : Int) ≤ 4096 by omega), ob, show (!(true && true)) = false from rfl, cf, jn_]
 rw [show (qV (n : Int)).qJ = false from rfl, cf]
 dsimp only
 rw [jn_, byt, ob, show ([IntKind.u64.wrap (qV (n : Int)).xType, IntKind.u64.wrap (qV (n : Int)).iY, IntKind.u64.wrap (qV (n : Int)).jw, (0 : Int), IntKind.u64.wrap (qV (n : Int)).eH] : List Int) = [1, 0, 0, 0, 0] from rfl, Ym, ob]
 dsimp only
 rw [jn_, CB, ob]
 rw [show ([IntKind.u64.wrap (qV (n : Int)).mM, IntKind.u64.wrap (qV (n : Int)).nK, IntKind.u64.wrap (qV (n : Int)).gI] : List Int) = [IntKind.u64.wrap (n : Int), 0, 0] from rfl, Yl h, Z4 G n h, ob]
 dsimp only
 rw [jn_, bY (by simp), bY (by simp)]
 rfl
end Go.V.P
set_option linter.unusedVariables false
set_option linter.unusedSimpArgs false
namespace Go.V.P
open Go.V Go.Proofs
variable {g : aJ} {size : Int}
theorem KE (n : Nat) : (((n : Nat) : Int) != ((n : Nat) : Int)) = false := by simp
theorem Rj (F : Nat) (l : List Int) (hF : l.length < F) (hl : l.length < 1000000) : je F l l = some true := by
 unfold je
 rw [KE, cf, jn_]
 refine qI (fun n v => eP F l l (fun _ => some true) n v) l.length _ (fun n v hv => ?_) (fun n => ?_) F 0 (by omega) (by omega)
 ·conv => lhs; unfold eP
  rw [dlt hv, ct, eU (by omega) (by omega), eU (by omega) (by omega), show (nth l (v : Int) != nth l (v : Int)) = false by simp, cf, cZ (by omega) (by omega), cs]
 ·conv => lhs; unfold eP
  rw [dge, cf]
theorem Yn (F : Nat) (l : List aZ) (hF : l.length < F) (hl : l.length < 1000000) : ku F l l = some true := by
 unfold ku
 rw [KE, cf, jn_]
 refine qI (fun n v => iE F l l (fun _ => some true) n v) l.length _ (fun n v hv => ?_) (fun n => ?_) F 0 (by omega) (by omega)
 ·conv => lhs; unfold iE
  rw [dlt hv, ct, eU (by omega) (by omega), eU (by omega) (by omega), cs]
  simp only [beq_self_eq_true, Bool.and_self, Bool.not_true]
  rw [cf, cZ (by omega) (by omega)]
 ·conv => lhs; unfold iE
  rw [dge, cf]
theorem WT (F : Nat) (l : List aH) (hF : l.length < F) (hl : l.length < 1000000) : jP F l l = some true := by
 unfold jP
 rw [KE, cf, jn_]
 refine qI (fun n v => iq F l l (fun _ => some true) n v) l.length _ (fun n v hv => ?_) (fun n => ?_) F 0 (by omega) (by omega)
 ·conv => lhs; unfold iq
  rw [dlt hv, ct, eU (by omega) (by omega), eU (by omega) (by omega), cs]
  simp only [beq_self_eq_true, Bool.and_self, Bool.not_true]
  rw [cf, cZ (by omega) (by omega)]
 ·conv => lhs; unfold iq
  rw [dge, cf]
theorem OD (F : Nat) (s : aI) (h1 : s.ay.length < F) (h2 : s.aA.length < F) (h3 : F < 1000000) : rY F s s = some true := by
 unfold rY
 simp only [beq_self_eq_true, Bool.and_self]
 rw [lzt, Yn F _ h1 (by omega), ob, show (true && true) = true from rfl, ttt, lzt, WT F _ h2 (by omega), ob]
 rfl
theorem tg1 (G : Nat) (n : Nat) (h1 : 1 ≤ n) (h : n ≤ 4096) : kG (G + 10) (yP (n : Int)) = some (qV (n : Int), true) := by
 unfold kG
 rw [show ((((yP (n : Int)).length : Nat) : Int) != 8) = false from rfl, cf, eU (by decide) (by show (0 : Int) < 8; decide), byt, ob, show nth (yP (n : Int)) 0 = 1 from rfl, Z7, ob, eU (by decide) (by show (1 : Int) < 8; decide), CB, ob, show nth (yP (n : Int)) 1 = (n : Int) from rfl, Z5 _ n h, ob]
 rw [eU (by decide) (by decide), eU (by decide) (by decide), eU (by decide) (by decide), eU (by decide) (by decide), eU (by decide) (by decide), eU (by decide) (by show (0 : Int) < 3; decide), eU (by decide) (by show (1 : Int) < 3; decide), eU (by decide) (by show (2 : Int) < 3; decide), eU (by decide) (by show (2 : Int) < 8; decide), bY (by show (0 : Int) ≤ 3 ∧ (3 : Int) ≤ 8 ∧ (8 : Int) ≤ 8; decide), bY (by show 4 ≤ 5; decide)]
 have e : (⟨IntKind.i64.wrap (nth [1, 0, 0, 0, 0] 0), IntKind.i64.wrap (nth [1, 0, 0, 0, 0] 1), IntKind.i64.wrap (nth [1, 0, 0, 0, 0] 2), IntKind.i64.wrap (nth [(n : Int), 0, 0] 0), IntKind.i64.wrap (nth [(n : Int), 0, 0] 1), IntKind.i64.wrap (nth [1, 0, 0, 0, 0] 4), IntKind.i64.wrap (nth [(n : Int), 0, 0] 2), nth [1, 0, 0, 0, 0] 3 == (1 : Int), nth (yP (n : Int)) 2, ⟨nth (cut (yP (n : Int)) 3 (((yP (n : Int)).length : Nat) : Int)) 0, nth (cut (yP (n : Int)) 3 (((yP (n : Int)).length : Nat) : Int)) 1, nth (cut (yP (n : Int)) 3 (((yP (n : Int)).length : Nat) : Int)) 2, nth (cut (yP (n : Int)) 3 (((yP (n : Int)).length : Nat) : Int)) 3⟩⟩ : aH) = qV (n : Int) := by
  have : IntKind.i64.wrap (nth [(n : Int), 0, 0] 0) = (n : Int) := WS h
  rw [this]
  rfl
 rw [e, tp1 _ n h1 h, ob, Rj _ _ (by show 8 < G + 10; omega) (by show 8 < 1000000; omega), ob]
 rfl
def A1 (g : aJ) : Nat := 16 + 1208 * g.ak.toNat
def B1 (g : aJ) : Nat := A1 g + 2 * g.ay.toNat
def C1 (g : aJ) : Nat := B1 g + 8 * g.aA.toNat
theorem C8 (hg : GG g) : C1 g % 8 = 0 ∧ 16 ≤ C1 g ∧ C1 g ≤ 5424 ∧ A1 g % 8 = 0 := by
 have t1 := hg.t1; have t2 := hg.t2; have s2 := hg.s2; have s1 := hg.s1; have h1 := hg.h1; have h2 := hg.h2; have s8 := hg.s8
 unfold C1 B1 A1
 omega
theorem VO (F : Nat) (hg : GG g) : qQ F g = some (A1 g : Int) := by
 have t1 := hg.t1; have t2 := hg.t2
 unfold qQ A1
 rw [cZ (by omega) (by omega), cZ (by omega) (by omega)]
 congr 1
 omega
theorem Rk (F : Nat) (hg : GG g) : pJ F g = some (B1 g : Int) := by
 have t1 := hg.t1; have t2 := hg.t2; have s2 := hg.s2; have s1 := hg.s1; have c8 := C8 hg
 unfold pJ
 rw [VO F hg, ob, cZ (by omega) (by omega), cZ (by unfold C1 B1 at c8; omega) (by unfold C1 B1 at c8; omega)]
 unfold B1
 congr 1
 omega
theorem xJ (F : Nat) (hg : GG g) : qA F g = some (C1 g : Int) := by
 have h1 := hg.h1; have h2 := hg.h2; have t1 := hg.t1; have c8 := C8 hg
 unfold qA
 rw [lT F hg, ob, Bool.not_true, cf, Rk F hg, ob, cZ (by omega) (by omega), cZ (by unfold C1 at c8; omega) (by unfold C1 at c8; omega)]
 unfold C1
 congr 1
 omega
theorem wrap_small {n : Int} (h0 : 0 ≤ n) (h1 : n < 1000000000) : IntKind.i64.wrap n = n := by rw [IntKind.wrap_i64]; omega
theorem I8 {n : Int} (h0 : 0 ≤ n) (h1 : n < 1000000000) : IntKind.u64.wrap n = n := by rw [IntKind.wrap_u64]; omega
theorem EH {a : Int} (h0 : 0 ≤ a) : Int.tdiv a 8 = a / 8 := Int.tdiv_eq_ediv_of_nonneg h0
theorem zJ (F : Nat) (hg : GG g) : tV F g = some ((C1 g / 8 + 1 : Nat) : Int) := by
 have c8 := C8 hg
 unfold tV
 rw [lT F hg, ob, Bool.not_true, cf, xJ F hg, ob, EH (by omega), wrap_small (by omega) (by omega), cZ (by omega) (by omega)]
 congr 1
theorem CG (F : Nat) (hg : GG g) : ru F g = some 8 := by
 unfold ru
 rw [lT F hg, ob, Bool.not_true, cf]
theorem Px (F : Nat) {n a b : Int} (h1 : a ≤ n) (h2 : n ≤ b) : oD F n a b = some true := by
 unfold oD
 rw [decide_eq_true h1, decide_eq_true h2]
 rfl
theorem pK (F : Nat) (hg : GG g) {v : Nat} (h : v < g.ak.toNat) : kE F g v = some (((16 + 1208 * v : Nat) : Int), 1208) := by
 have t1 := hg.t1; have t2 := hg.t2
 unfold kE
 rw [lT F hg, ob, bY (fun _ => ⟨by omega, by omega⟩), Bool.not_true, fff, lzt, Px F (by omega) (by omega), ob, show (false || !true) = false from rfl, cf, cZ (by omega) (by omega), cZ (by omega) (by omega)]
 congr 2
 omega
theorem zK (F : Nat) (hg : GG g) {v : Nat} (h : v < g.ay.toNat) : tX F g v = some ((A1 g + 2 * v : Nat) : Int) := by
 have t1 := hg.t1; have s2 := hg.s2; have s1 := hg.s1; have c8 := C8 hg
 unfold tX
 rw [lT F hg, ob, bY (fun _ => ⟨by omega, by omega⟩), Bool.not_true, fff, lzt, Px F (by omega) (by omega), ob, show (false || !true) = false from rfl, cf, VO F hg, ob, cZ (by omega) (by omega), cZ (by unfold C1 B1 at c8; omega) (by unfold C1 B1 at c8; omega)]
 congr 1
theorem zL (F : Nat) (hg : GG g) {v : Nat} (h : v < g.aA.toNat) : um F g v = some ((B1 g + 8 * v : Nat) : Int) := by
 have t1 := hg.t1; have h1 := hg.h1; have h2 := hg.h2; have c8 := C8 hg
 unfold um
 rw [lT F hg, ob, bY (fun _ => ⟨by omega, by omega⟩), Bool.not_true, fff, lzt, Px F (by omega) (by omega), ob, show (false || !true) = false from rfl, cf, Rk F hg, ob, cZ (by omega) (by omega), cZ (by unfold C1 at c8; omega) (by unfold C1 at c8; omega)]
 congr 1
def WU (c : dS) : Int := if c.xType = 1 then 1793 else if c.xType = 3 then 4294969091 else 0
def thW (t : aH) : List Int := [if t.xType = 2 then 770 + 65536 * t.jw else t.xType, t.mM, 0, 0, 0, 0, 0, 0]
noncomputable def wf (g : aJ) (size : Int) (b : Int) (i : Nat) : Int :=
 if i < 8 then (sup ⟨g, b⟩).getD i 0
 else if i < A1 g then 0
 else if i < B1 g then (if (i - A1 g) % 2 = 0 then WU (sf g.ak.toNat ((i - A1 g) / 2)).gY else (sf g.ak.toNat ((i - A1 g) / 2)).xUp + 1)
 else if i < C1 g then (thW (tf g.ak.toNat size ((i - B1 g) / 8))).getD ((i - B1 g) % 8) 0
 else (sup ⟨g, b⟩).getD (i - C1 g) 0
theorem Py {n a m : Nat} {f : Nat → Int} {l2 : List Int} (h1 : a + l2.length ≤ n) (h2 : l2.length ≤ m) : cpy (tab n f) a m l2 = tab n (fun i => if a ≤ i ∧ i < a + l2.length then l2.getD (i - a) 0 else f i) := by
 have hmin : min l2.length m = l2.length := Nat.min_eq_left h2
 rw [Yo _ _ _ _ (by rw [hmin, aP]; exact h1), hmin, List.take_length]
 apply List.ext_getElem?
 intro i
 have hl : ((tab n f).take a).length = a := by rw [List.length_take, aP]; omega
 by_cases c0 : i < a
 ·rw [List.append_assoc, List.getElem?_append_left (by omega), List.getElem?_take_of_lt c0, qp (by omega), qp (by omega), if_neg (by omega)]
 ·rw [List.append_assoc, List.getElem?_append_right (by omega), hl]
  by_cases c1 : i < a + l2.length
  ·rw [List.getElem?_append_left (by omega), qp (by omega), if_pos ⟨by omega, c1⟩]
   simp [List.getD_eq_getElem?_getD, show i - a < l2.length by omega]
  ·rw [List.getElem?_append_right (by omega), List.getElem?_drop]
   have e : a + l2.length + (i - a - l2.length) = i := by omega
   rw [e]
   by_cases c2 : i < n
   ·rw [qp c2, qp c2, if_neg (by omega)]
   ·rw [List.getElem?_eq_none (by rw [aP]; omega), List.getElem?_eq_none (by rw [aP]; omega)]
end Go.V.P
set_option linter.unusedVariables false
set_option linter.unusedSimpArgs false
namespace Go.V.P
open Go.V Go.Proofs
variable {g : aJ} {size : Int}
theorem Z8 (F : Nat) (hF : 5 ≤ F) (t i : Nat) : qy F (sf t i).gY = some (WU (sf t i).gY, true) := by
 obtain ⟨G, rfl⟩ : ∃ G, F = G + 5 := ⟨F - 5, by omega⟩
 rcases zI t i with e | e | e | e <;> rw [e]
 ·exact cw1 G
 ·exact cw2 G
 ·exact cw2 G
 ·exact cw3 G
theorem Z9 (F : Nat) (hF : 5 ≤ F) (t i : Nat) : rX F (WU (sf t i).gY) = some ((sf t i).gY, true) := by
 obtain ⟨G, rfl⟩ : ∃ G, F = G + 5 := ⟨F - 5, by omega⟩
 rcases zI t i with e | e | e | e <;> rw [e]
 ·exact adA G
 ·exact acH G
 ·exact acH G
 ·exact adB G
theorem KF {i t : Nat} (h2 : 2 ≤ i) (h : i < 2 + t) (ht : t ≤ 4) : (8 * ((i : Int) - 2)) = 0 ∨ (8 * ((i : Int) - 2)) = 8 ∨ (8 * ((i : Int) - 2)) = 16 ∨ (8 * ((i : Int) - 2)) = 24 := by omega
theorem abe (F : Nat) (hF : 20 ≤ F) {t : Nat} (ht : t ≤ 4) (hz1 : 1 ≤ size) (hz2 : size ≤ 4096) (i : Nat) : jo F (tf t size i) = some (thW (tf t size i)) := by
 obtain ⟨G, rfl⟩ : ∃ G, F = G + 6 := ⟨F - 6, by omega⟩
 rcases vZ t i size with ⟨_, e⟩ | ⟨_, e⟩ | ⟨c1, c2, e⟩ | ⟨c1, _, e⟩ <;> rw [e]
 ·obtain ⟨n, rfl⟩ : ∃ n : Nat, size = n := ⟨size.toNat, by omega⟩
  exact tp1 G n (by omega) (by omega)
 ·exact tp2 G
 ·rcases KF c1 c2 ht with h | h | h | h <;> rw [h]
  ·exact adC G
  ·exact adD G
  ·exact adE G
  ·exact adF G
 ·exact tp4 G
theorem abf (F : Nat) (hF : 20 ≤ F) {t : Nat} (ht : t ≤ 4) (hz1 : 1 ≤ size) (hz2 : size ≤ 4096) (i : Nat) : kG F (thW (tf t size i)) = some (tf t size i, true) := by
 obtain ⟨G, rfl⟩ : ∃ G, F = G + 10 := ⟨F - 10, by omega⟩
 rcases vZ t i size with ⟨_, e⟩ | ⟨_, e⟩ | ⟨c1, c2, e⟩ | ⟨c1, _, e⟩ <;> rw [e]
 ·obtain ⟨n, rfl⟩ : ∃ n : Nat, size = n := ⟨size.toNat, by omega⟩
  exact tg1 G n (by omega) (by omega)
 ·exact tg2 G
 ·rcases KF c1 c2 ht with h | h | h | h <;> rw [h]
  ·exact adG G
  ·exact adH G
  ·exact adI G
  ·exact adJ G
 ·exact tg4 G
theorem xK (t : aH) : (thW t).length = 8 := rfl
theorem aaQ (t i : Nat) : (sf t i).xUp = -1 ∨ (sf t i).xUp = 1 := by
 rcases zI t i with e | e | e | e <;> rw [e] <;> simp
def N1 (g : aJ) : Nat := C1 g + 8
noncomputable def wS (g : aJ) (b : Int) (v : Nat) (i : Nat) : Int :=
 if i < 8 then (sup ⟨g, b⟩).getD i 0
 else if i < A1 g then 0
 else if i < A1 g + 2 * v then (if (i - A1 g) % 2 = 0 then WU (sf g.ak.toNat ((i - A1 g) / 2)).gY else (sf g.ak.toNat ((i - A1 g) / 2)).xUp + 1)
 else if i < C1 g then 0
 else (sup ⟨g, b⟩).getD (i - C1 g) 0
noncomputable def wT (g : aJ) (size : Int) (b : Int) (v : Nat) (i : Nat) : Int :=
 if i < 8 then (sup ⟨g, b⟩).getD i 0
 else if i < A1 g then 0
 else if i < B1 g then (if (i - A1 g) % 2 = 0 then WU (sf g.ak.toNat ((i - A1 g) / 2)).gY else (sf g.ak.toNat ((i - A1 g) / 2)).xUp + 1)
 else if i < B1 g + 8 * v then (thW (tf g.ak.toNat size ((i - B1 g) / 8))).getD ((i - B1 g) % 8) 0
 else if i < C1 g then 0
 else (sup ⟨g, b⟩).getD (i - C1 g) 0
theorem abg (F : Nat) (hF : 200 ≤ F) (hg : GG g) (b : Int) (k : List Int → Option (List Int)) : ji F (st0 g size) k F 0 (tab (N1 g) (wS g b 0)) = k (tab (N1 g) (wS g b g.ay.toNat)) := by
 have t1 := hg.t1; have t2 := hg.t2; have s2 := hg.s2; have s1 := hg.s1; have c8 := C8 hg
 have hl : (st0 g size).ay.length = g.ay.toNat := aP _ _
 refine qw (fun n v l => ji F (st0 g size) k n v l) g.ay.toNat (fun v => tab (N1 g) (wS g b v)) _ (fun n v hv => ?_) (fun n => ?_) F 0 (by omega) (by omega)
 ·have hn : nth (st0 g size).ay (v : Int) = sf g.ak.toNat v := dU hv
  have BN : (st0 g size).bH = g := rfl
  have hu := aaQ g.ak.toNat v
  have hlt : A1 g + 2 * v + 1 < B1 g := by unfold B1; omega
  have hA8 : 16 ≤ A1 g := by unfold A1; omega
  have hlt2 : B1 g ≤ C1 g := by unfold C1; omega
  have hN : N1 g = C1 g + 8 := rfl
  conv => lhs; unfold ji
  rw [hl, dlt hv, ct, eU (by omega) (by rw [hl]; omega), BN, zK F hg hv, ob, hn, Z8 F (by omega), ob, eU (by omega) (by rw [aP]; omega), cZ (by omega) (by omega), cZ (by omega) (by omega), eU (by omega) (by rw [aP]; omega), cZ (by omega) (by omega), cs, cs]
  rw [I8 (by omega) (by omega), qH, qH, Int.toNat_natCast, Int.toNat_natCast]
  congr 1
  refine fV fun j hj => ?_
  unfold wS
  by_cases c1 : j = A1 g + 2 * v + 1
  ·subst c1
   rw [if_pos rfl, if_neg (by omega), if_neg (by omega), if_pos (by omega), if_neg (by omega), show (A1 g + 2 * v + 1 - A1 g) / 2 = v by omega]
  ·rw [if_neg c1]
   by_cases c2 : j = A1 g + 2 * v
   ·subst c2
    rw [if_pos rfl, if_neg (by omega), if_neg (by omega), if_pos (by omega), if_pos (by omega), show (A1 g + 2 * v - A1 g) / 2 = v by omega]
   ·rw [if_neg c2]
    by_cases c3 : j < 8
    ·rw [if_pos c3, if_pos c3]
    ·rw [if_neg c3, if_neg c3]
     by_cases c4 : j < A1 g
     ·rw [if_pos c4, if_pos c4]
     ·rw [if_neg c4, if_neg c4]
      by_cases c5 : j < A1 g + 2 * v
      ·rw [if_pos c5, if_pos (show j < A1 g + 2 * (v + 1) by omega)]
      ·rw [if_neg c5, if_neg (show ¬ j < A1 g + 2 * (v + 1) by omega)]
 ·conv => lhs; unfold ji
  rw [hl, dge, cf]
theorem abh (F : Nat) (hF : 200 ≤ F) (hg : GG g) (hz1 : 1 ≤ size) (hz2 : size ≤ 4096) (b : Int) (k : List Int → Option (List Int)) : jk F (st0 g size) k F 0 (tab (N1 g) (wT g size b 0)) = k (tab (N1 g) (wT g size b g.aA.toNat)) := by
 have t1 := hg.t1; have t2 := hg.t2; have h1 := hg.h1; have h2 := hg.h2; have c8 := C8 hg
 have hl : (st0 g size).aA.length = g.aA.toNat := aP _ _
 refine qw (fun n v l => jk F (st0 g size) k n v l) g.aA.toNat (fun v => tab (N1 g) (wT g size b v)) _ (fun n v hv => ?_) (fun n => ?_) F 0 (by omega) (by omega)
 ·have hn : nth (st0 g size).aA (v : Int) = tf g.ak.toNat size v := dU hv
  have BN : (st0 g size).bH = g := rfl
  have hlt : B1 g + 8 * v + 8 ≤ C1 g := by unfold C1; omega
  have hA : A1 g ≤ B1 g := by unfold B1; omega
  have hA8 : 16 ≤ A1 g := by unfold A1; omega
  have hN : N1 g = C1 g + 8 := rfl
  have e0 : 0 + (((B1 g + 8 * v : Nat) : Int)).toNat * 1 = B1 g + 8 * v := by omega
  have e1 : (((N1 g : Nat) : Int)).toNat - (((B1 g + 8 * v : Nat) : Int)).toNat = N1 g - (B1 g + 8 * v) := by omega
  conv => lhs; unfold jk
  rw [hl, dlt hv, ct, eU (by omega) (by rw [hl]; omega), BN, zL F hg hv, ob, aP, bY (by omega), hn, abe F (by omega) (by omega) hz1 hz2, ob, xK, e0, e1, bY (by omega), cZ (by omega) (by omega), cs]
  rw [Py (by rw [xK]; omega) (by rw [xK]; omega), xK]
  congr 1
  refine fV fun j hj => ?_
  unfold wT
  by_cases c1 : B1 g + 8 * v ≤ j ∧ j < B1 g + 8 * v + 8
  ·rw [if_pos c1, if_neg (by omega), if_neg (by omega), if_neg (by omega), if_pos (by omega), show (j - B1 g) / 8 = v by omega, show (j - B1 g) % 8 = j - (B1 g + 8 * v) by omega]
  ·rw [if_neg c1]
   by_cases c3 : j < 8
   ·rw [if_pos c3, if_pos c3]
   ·rw [if_neg c3, if_neg c3]
    by_cases c4 : j < A1 g
    ·rw [if_pos c4, if_pos c4]
    ·rw [if_neg c4, if_neg c4]
     by_cases c5 : j < B1 g
     ·rw [if_pos c5, if_pos c5]
     ·rw [if_neg c5, if_neg c5]
      by_cases c6 : j < B1 g + 8 * v
      ·rw [if_pos c6, if_pos (show j < B1 g + 8 * (v + 1) by omega)]
      ·rw [if_neg c6, if_neg (show ¬ j < B1 g + 8 * (v + 1) by omega)]
 ·conv => lhs; unfold jk
  rw [hl, dge, cf]
noncomputable def P1 (g : aJ) (size b : Int) : List Int := tab (N1 g) (wf g size b)
theorem OE (F : Nat) (hF : 200 ≤ F) (hg : GG g) (hz1 : 1 ≤ size) (hz2 : size ≤ 4096) (b : Int) : rC F (st0 g size) b = some (P1 g size b) := by
 have t1 := hg.t1; have t2 := hg.t2; have h1 := hg.h1; have h2 := hg.h2; have c8 := C8 hg
 have BN : (st0 g size).bH = g := rfl
 have hA : A1 g ≤ B1 g := by unfold B1; omega
 have hA8 : 16 ≤ A1 g := by unfold A1; omega
 have hBC : B1 g ≤ C1 g := by unfold C1; omega
 have hN : N1 g = C1 g + 8 := rfl
 have e0 : ((((C1 g / 8 + 1 : Nat) : Int)) * 8).toNat = N1 g := by omega
 unfold rC
 rw [KD F (by omega) hg hz1 hz2, ob, Bool.not_true, cf, BN, zJ F hg, ob, cZ (by omega) (by omega), bY (by omega), zH F (by omega) _ (lT F hg), ob, kC, e0, List.length_replicate, bY (by omega), xJ F hg, ob, bY (by omega), au, List.length_replicate, bY (by omega), jn_, sV]
 rw [Py (by rw [kC]; omega) (by rw [kC]; omega), Py (by rw [kC]; omega) (by rw [kC]; omega), kC]
 have eS : tab (N1 g) (fun i => if 0 + (((C1 g : Nat) : Int)).toNat * 1 ≤ i ∧ i < 0 + (((C1 g : Nat) : Int)).toNat * 1 + 8 then (sup ⟨g, b⟩).getD (i - (0 + (((C1 g : Nat) : Int)).toNat * 1)) 0 else if 0 ≤ i ∧ i < 0 + 8 then (sup ⟨g, b⟩).getD (i - 0) 0 else 0) = tab (N1 g) (wS g b 0) := by
  refine fV fun j hj => ?_
  have e1 : 0 + (((C1 g : Nat) : Int)).toNat * 1 = C1 g := by omega
  rw [e1]
  unfold wS
  by_cases c1 : C1 g ≤ j
  ·rw [if_pos (by omega), if_neg (by omega), if_neg (by omega), if_neg (by omega), if_neg (by omega)]
  ·rw [if_neg (by omega)]
   by_cases c2 : j < 8
   ·rw [if_pos (by omega), if_pos c2]; rfl
   ·rw [if_neg (by omega), if_neg c2]
    by_cases c3 : j < A1 g
    ·rw [if_pos c3]
    ·rw [if_neg c3, if_neg (by omega), if_pos (by omega)]
 rw [eS, abg F hF hg b, jn_]
 have eT : tab (N1 g) (wS g b g.ay.toNat) = tab (N1 g) (wT g size b 0) := by
  refine fV fun j hj => ?_
  unfold wS wT
  have e2 : A1 g + 2 * g.ay.toNat = B1 g := rfl
  rw [e2]
  by_cases c1 : j < 8
  ·rw [if_pos c1, if_pos c1]
  ·rw [if_neg c1, if_neg c1]
   by_cases c2 : j < A1 g
   ·rw [if_pos c2, if_pos c2]
   ·rw [if_neg c2, if_neg c2]
    by_cases c3 : j < B1 g
    ·rw [if_pos c3, if_pos c3]
    ·rw [if_neg c3, if_neg c3, if_neg (show ¬ j < B1 g + 8 * 0 by omega)]
 rw [eT, abh F hF hg hz1 hz2 b]
 unfold P1
 congr 1
 refine fV fun j hj => ?_
 unfold wT wf
 have e2 : B1 g + 8 * g.aA.toNat = C1 g := rfl
 rw [e2]
 by_cases c1 : j < 8
 ·rw [if_pos c1, if_pos c1]
 ·rw [if_neg c1, if_neg c1]
  by_cases c2 : j < A1 g
  ·rw [if_pos c2, if_pos c2]
  ·rw [if_neg c2, if_neg c2]
   by_cases c3 : j < B1 g
   ·rw [if_pos c3, if_pos c3]
   ·rw [if_neg c3, if_neg c3]
    by_cases c4 : j < C1 g
    ·rw [if_pos c4, if_pos c4]
    ·rw [if_neg c4, if_neg c4, if_neg c4]
end Go.V.P
set_option linter.unusedVariables false
set_option linter.unusedSimpArgs false
namespace Go.V.P
open Go.V Go.Proofs
variable {g : aJ} {size : Int}
def mx (a b : Int) : Int := if b > a then b else a
theorem Yp (a b c : Int) : bu Tryz.prog .max #[22, 22, 22] 22 #[false, false, false] [.int .u64 a, .int .u64 b, .int .u64 c] = some (.int .u64 (mx (mx a b) c)) := rfl
theorem Gj (a : Int) : int? .u64 (.int .u64 a) = some a := rfl
theorem aac (s : dK) : nth (sup s) 1 = IntKind.u64.wrap s.bH.ak ∧ nth (sup s) 2 = IntKind.u64.wrap s.bH.ay ∧ nth (sup s) 3 = IntKind.u64.wrap s.bH.aA ∧ nth (sup s) 4 = s.uj := ⟨rfl, rfl, rfl, rfl⟩
theorem Ih (F : Nat) (hF : 20 ≤ F) (hg : GG g) (b : Int) : oI F (sup ⟨g, b⟩) = some (⟨g, b⟩, true) := by
 have t1 := hg.t1; have t2 := hg.t2; have s2 := hg.s2; have s1 := hg.s1; have h1 := hg.h1; have h2 := hg.h2
 obtain ⟨n1, n2, n3, n4⟩ := aac ⟨g, b⟩
 dsimp only at n1 n2 n3 n4
 rw [I8 (by omega) (by omega)] at n1 n2 n3
 have hl : ((sup ⟨g, b⟩).length : Nat) = 8 := kC _
 have hb : (((8 : Nat) : Int) != 8) = false := rfl
 have e : (⟨IntKind.i64.wrap (nth (sup ⟨g, b⟩) 1), IntKind.i64.wrap (nth (sup ⟨g, b⟩) 2), IntKind.i64.wrap (nth (sup ⟨g, b⟩) 3)⟩ : aJ) = g := by
  rw [n1, n2, n3, wrap_small (by omega) (by omega), wrap_small (by omega) (by omega), wrap_small (by omega) (by omega)]
 unfold oI
 rw [bY (fun _ => ⟨by decide, by rw [hl]; decide⟩), bY (fun _ => ⟨by decide, by rw [hl]; decide⟩), bY (fun _ => ⟨by decide, by rw [hl]; decide⟩), e, hl, hb, fff, lzt, Yp, ob, Gj, ob, n1, n2, n3]
 have hm : decide ((4096 : Int) < mx (mx g.ak g.ay) g.aA) = false := by
  apply decide_eq_false
  unfold mx
  split <;> split <;> omega
 rw [hm, show (false || false) = false from rfl, cf, eU (by decide) (by rw [hl]; decide), eU (by decide) (by rw [hl]; decide), eU (by decide) (by rw [hl]; decide), eU (by decide) (by rw [hl]; decide), n4, zH F (by omega) _ (lT F hg), ob, Rj F _ (by rw [hl]; omega) (by rw [hl]; decide), ob, Bool.not_true, cf]
theorem yQ {n a b : Nat} {f : Nat → Int} (h1 : a ≤ b) (h2 : b ≤ n) : cut (tab n f) (a : Int) (b : Int) = tab (b - a) (fun i => f (a + i)) := by
 unfold cut
 rw [Int.toNat_natCast, Int.toNat_natCast]
 apply List.ext_getElem?
 intro i
 by_cases hi : i < b - a
 ·rw [List.getElem?_take_of_lt hi, List.getElem?_drop, qp (by omega), qp hi]
 ·rw [List.getElem?_eq_none (by rw [List.length_take, List.length_drop, aP]; omega), List.getElem?_eq_none (by rw [aP]; omega)]
theorem Pz (s : dK) : sup s = tab 8 (fun i => (sup s).getD i 0) := Q9 (sup s) 0
theorem WV (hg : GG g) (size b : Int) : cut (P1 g size b) 0 8 = sup ⟨g, b⟩ := by
 have c8 := C8 hg
 have hN : N1 g = C1 g + 8 := rfl
 unfold P1
 rw [show (0 : Int) = ((0 : Nat) : Int) from rfl, show (8 : Int) = ((8 : Nat) : Int) from rfl, yQ (by omega) (by omega), Pz]
 exact fV fun j hj => by unfold wf; rw [if_pos (by omega), Nat.zero_add]
theorem Rl (hg : GG g) (size b : Int) : cut (P1 g size b) ((C1 g : Nat) : Int) ((N1 g : Nat) : Int) = sup ⟨g, b⟩ := by
 have c8 := C8 hg
 have hN : N1 g = C1 g + 8 := rfl
 have hA : A1 g ≤ B1 g := by unfold B1; omega
 have hBC : B1 g ≤ C1 g := by unfold C1; omega
 unfold P1
 rw [yQ (by omega) (by omega), Pz, show N1 g - C1 g = 8 by omega]
 exact fV fun j hj => by unfold wf; rw [if_neg (by omega), if_neg (by omega), if_neg (by omega), if_neg (by omega), show C1 g + j - C1 g = j by omega]
theorem EZ (F : Nat) (hF : 20 ≤ F) (hg : GG g) (size b : Int) : iV F (P1 g size b) = some (⟨g, b⟩, true, true) := by
 have c8 := C8 hg
 have hN : N1 g = C1 g + 8 := rfl
 have hl : (P1 g size b).length = N1 g := aP _ _
 unfold iV
 rw [hl, decide_eq_false (show ¬ (((N1 g : Nat) : Int) < 8) by omega), show (Int.tmod ((N1 g : Nat) : Int) 8 != 0) = false by rw [I7 (by omega), bne_eq_false_iff_eq]; omega, show (false || false) = false from rfl, cf, bY (by omega), WV hg, Ih F hF hg, ob, ttt, lzt, zJ F hg, ob, cZ (by omega) (by omega), bY (by omega)]
 rw [show ((N1 g : Nat) : Int) - 8 = ((C1 g : Nat) : Int) by omega, Rl hg, Ih F hF hg, ob, ttt, lzt, zJ F hg, ob, EH (by omega), wrap_small (by omega) (by omega)]
 have e : (((C1 g / 8 + 1 : Nat) : Int) == ((N1 g : Nat) : Int) / 8) = true := by rw [beq_iff_eq]; omega
 rw [e, show (true && true) = true from rfl, ct]
theorem abj (F : Nat) (hF : 200 ≤ F) (hg : GG g) (size b : Int) (k : List aZ → Option (aI × Int)) : iH F (P1 g size b) (⟨g, b⟩, true, true) k F 0 [] = k (tab g.ay.toNat (sf g.ak.toNat)) := by
 have t1 := hg.t1; have t2 := hg.t2; have s2 := hg.s2; have s1 := hg.s1; have c8 := C8 hg
 have hN : N1 g = C1 g + 8 := rfl
 have hBC : B1 g ≤ C1 g := by unfold C1; omega
 have hA8 : 16 ≤ A1 g := by unfold A1; omega
 have hl : (P1 g size b).length = N1 g := aP _ _
 refine qw (fun n v l => iH F (P1 g size b) (⟨g, b⟩, true, true) k n v l) g.ay.toNat (fun v => tab v (sf g.ak.toNat)) _ (fun n v hv => ?_) (fun n => ?_) F 0 (by omega) (by omega)
 ·have hlt : A1 g + 2 * v + 1 < B1 g := by unfold B1; omega
  have hu := aaQ g.ak.toNat v
  conv => lhs; unfold iH
  rw [decide_eq_true (show (v : Int) < g.ay by omega), ct, jn_, zK F hg hv, ob, eU (by omega) (by rw [hl]; omega)]
  have e1 : nth (P1 g size b) ((A1 g + 2 * v : Nat) : Int) = WU (sf g.ak.toNat v).gY := by
   unfold P1
   rw [dU (by omega)]
   unfold wf
   rw [if_neg (by omega), if_neg (by omega), if_pos (by omega), if_pos (by omega), show (A1 g + 2 * v - A1 g) / 2 = v by omega]
  have e2 : nth (P1 g size b) (((A1 g + 2 * v : Nat) : Int) + 1) = (sf g.ak.toNat v).xUp + 1 := by
   unfold P1
   rw [cs, dU (by omega)]
   unfold wf
   rw [if_neg (by omega), if_neg (by omega), if_pos (by omega), if_neg (by omega), show (A1 g + 2 * v + 1 - A1 g) / 2 = v by omega]
  rw [e1, Z9 F (by omega), ob, bY (fun _ => ⟨by omega, by omega⟩), bY (fun _ => ⟨by omega, by rw [hl]; omega⟩), e2, decide_eq_false (show ¬ ((96 : Int) < (sf g.ak.toNat v).xUp + 1) by omega), Bool.not_true, show (false || false) = false from rfl, cf, cZ (by omega) (by omega), eU (by omega) (by rw [hl]; omega), wrap_small (by omega) (by omega), cZ (by omega) (by omega), bY (by rw [aP]; simp only [List.length_cons, List.length_nil]; omega)]
  dsimp only
  rw [cZ (by omega) (by omega), cs, oG, Int.add_sub_cancel]
 ·conv => lhs; unfold iH
  rw [decide_eq_false (show ¬ (((g.ay.toNat : Nat) : Int) < g.ay) by omega), cf]
theorem abk (F : Nat) (hF : 200 ≤ F) (hg : GG g) (hz1 : 1 ≤ size) (hz2 : size ≤ 4096) (b : Int) (k : List aH → Option (aI × Int)) : iI F (P1 g size b) (⟨g, b⟩, true, true) k F 0 [] = k (tab g.aA.toNat (tf g.ak.toNat size)) := by
 have t1 := hg.t1; have t2 := hg.t2; have h1 := hg.h1; have h2 := hg.h2; have c8 := C8 hg
 have hN : N1 g = C1 g + 8 := rfl
 have hA : A1 g ≤ B1 g := by unfold B1; omega
 have hA8 : 16 ≤ A1 g := by unfold A1; omega
 have hl : (P1 g size b).length = N1 g := aP _ _
 refine qw (fun n v l => iI F (P1 g size b) (⟨g, b⟩, true, true) k n v l) g.aA.toNat (fun v => tab v (tf g.ak.toNat size)) _ (fun n v hv => ?_) (fun n => ?_) F 0 (by omega) (by omega)
 ·have hlt : B1 g + 8 * v + 8 ≤ C1 g := by unfold C1; omega
  conv => lhs; unfold iI
  rw [decide_eq_true (show (v : Int) < g.aA by omega), ct, zL F hg hv, ob, cZ (by omega) (by omega), hl, bY (by omega)]
  have e1 : cut (P1 g size b) ((B1 g + 8 * v : Nat) : Int) (((B1 g + 8 * v : Nat) : Int) + 8) = thW (tf g.ak.toNat size v) := by
   unfold P1
   rw [show (((B1 g + 8 * v : Nat) : Int) + 8) = ((B1 g + 8 * v + 8 : Nat) : Int) by omega, yQ (by omega) (by omega), show B1 g + 8 * v + 8 - (B1 g + 8 * v) = 8 by omega, Q9 (thW (tf g.ak.toNat size v)) 0, xK]
   refine fV fun j hj => ?_
   unfold wf
   rw [if_neg (by omega), if_neg (by omega), if_neg (by omega), if_pos (by omega), show (B1 g + 8 * v + j - B1 g) / 8 = v by omega, show (B1 g + 8 * v + j - B1 g) % 8 = j by omega]
  rw [e1, abf F (by omega) (by omega) hz1 hz2, ob, Bool.not_true, cf, bY (by rw [aP]; simp only [List.length_cons, List.length_nil]; omega), cZ (by omega) (by omega), cs, oG]
 ·conv => lhs; unfold iI
  rw [decide_eq_false (show ¬ (((g.aA.toNat : Nat) : Int) < g.aA) by omega), cf]
theorem Ii (F : Nat) (hF : 200 ≤ F) (hg : GG g) (hz1 : 1 ≤ size) (hz2 : size ≤ 4096) (b : Int) : jQ F (P1 g size b) = some (st0 g size, 0) := by
 unfold jQ
 rw [EZ F (by omega) hg, ob, show (!true && !true) = false from rfl, cf, jn_, abj F hF hg, jn_, abk F hF hg hz1 hz2]
 have := KD F (by omega) hg hz1 hz2
 unfold st0 at this
 rw [this, ob, Bool.not_true, cf]
 rfl
end Go.V.P
set_option linter.unusedVariables false
set_option linter.unusedSimpArgs false
namespace Go.V.P
open Go.V Go.Proofs
variable {g : aJ} {size : Int}
def D0 : aV := ⟨0, 0, ⟨0, 0, 0, 0⟩, ⟨0, 0, 0⟩, []⟩
def Z0 : List Int := tab 1208 (fun _ => 0)
theorem Gl (hg : GG g) (size b : Int) {v : Nat} (hv : v < g.ak.toNat) : cut (P1 g size b) ((16 + 1208 * v : Nat) : Int) (((16 + 1208 * v : Nat) : Int) + 1208) = Z0 := by
 have c8 := C8 hg
 have hN : N1 g = C1 g + 8 := rfl
 have hA : 16 + 1208 * v + 1208 ≤ A1 g := by unfold A1; omega
 have hA2 : A1 g ≤ B1 g := by unfold B1; omega
 have hBC : B1 g ≤ C1 g := by unfold C1; omega
 unfold P1 Z0
 rw [show (((16 + 1208 * v : Nat) : Int) + 1208) = ((16 + 1208 * v + 1208 : Nat) : Int) by omega, yQ (by omega) (by omega), show 16 + 1208 * v + 1208 - (16 + 1208 * v) = 1208 by omega]
 exact fV fun j hj => by unfold wf; rw [if_neg (by omega), if_pos (by omega)]
theorem Ku (F : Nat) (hg : GG g) : kZ F g Z0 = some (D0, true) := by
 have t1 := hg.t1
 have hl : Z0.length = 1208 := aP _ _
 unfold kZ
 rw [show kE F g 0 = some (((16 + 1208 * 0 : Nat) : Int), 1208) from pK F hg (v := 0) (by omega), ob, hl, show (((1208 : Int) == 0) || (((1208 : Nat) : Int) != 1208)) = false from rfl, cf, eU (by decide) (by rw [hl]; decide)]
 have e0 : nth Z0 0 = 0 := dU (v := 0) (by decide)
 have e7 : nth Z0 7 = 0 := dU (v := 7) (by decide)
 rw [e0, show ((0 : Int) == 0) = true from rfl, ct, jn_, eU (by decide) (by rw [hl]; decide), e7]
 rfl
theorem PD (a b : Int) : bu Tryz.prog .max #[22, 22] 22 #[false, false] [.int .u64 a, .int .u64 b] = some (.int .u64 (mx a b)) := rfl
theorem WW {b : Int} (h0 : 0 ≤ b) (h1 : b < 4611686018427387904) : IntKind.u64.wrap (b + 1) = b + 1 := by rw [IntKind.wrap_u64]; omega
theorem PE (F : Nat) (hF : 200 ≤ F) (hg : GG g) (hz1 : 1 ≤ size) (hz2 : size ≤ 4096) {b : Int} (h0 : 0 ≤ b) (h1 : b < 4611686018427387904) : nD F (P1 g size b) = some (⟨st0 g size, tab g.ak.toNat (fun _ => D0), b + 1, true⟩, true) := by
 have t1 := hg.t1; have t2 := hg.t2; have c8 := C8 hg
 have hN : N1 g = C1 g + 8 := rfl
 have hl : (P1 g size b).length = N1 g := aP _ _
 unfold nD
 rw [EZ F (by omega) hg, ob, show (!true && !true) = false from rfl, cf, jn_, hl, cZ (by omega) (by omega), bY (by omega), show ((N1 g : Nat) : Int) - 8 = ((C1 g : Nat) : Int) by omega, Rl hg, Ih F (by omega) hg, ob, show (true && true) = true from rfl, ct]
 dsimp only
 rw [PD, ob, Gj, ob, show mx b b = b by unfold mx; split <;> rfl, decide_eq_false (show ¬ ((4611686018427387904 : Int) ≤ b) by omega), cf, jn_]
 have key : ∀ k, iO F (⟨g, b⟩, true, true) k F (P1 g size b) 0 0 [] = k (P1 g size b) 0 (tab g.ak.toNat (fun _ => D0)) := by
  intro k
  refine qw (fun n v l => iO F (⟨g, b⟩, true, true) k n (P1 g size b) 0 v l) g.ak.toNat (fun v => tab v (fun _ => D0)) _ (fun n v hv => ?_) (fun n => ?_) F 0 (by omega) (by omega)
  ·conv => lhs; unfold iO
   have hA : 16 + 1208 * v + 1208 ≤ A1 g := by unfold A1; omega
   have hA2 : A1 g ≤ B1 g := by unfold B1; omega
   have hBC : B1 g ≤ C1 g := by unfold C1; omega
   rw [decide_eq_true (show (v : Int) < g.ak by omega), ct, pK F hg hv, ob, jn_, cZ (by omega) (by omega), hl, bY (by omega), Gl hg size b hv, Ku F hg, ob]
   dsimp only
   rw [Bool.not_true, cf, jn_, show (D0.bK == 2) = false from rfl, cf]
   dsimp only
   rw [bY (by rw [aP]; simp only [List.length_cons, List.length_nil]; omega), cZ (by omega) (by omega), cs, oG]
  ·conv => lhs; unfold iO
   rw [decide_eq_false (show ¬ (((g.ak.toNat : Nat) : Int) < g.ak) by omega), cf]
 rw [key, Ii F hF hg hz1 hz2, ob, WW h0 h1]
 rfl
theorem Yq (F : Nat) (hF : 200 ≤ F) (hg : GG g) (hz1 : 1 ≤ size) (hz2 : size ≤ 4096) {b : Int} (h0 : 0 ≤ b) (h1 : b < 4611686018427387904) : uJ F (P1 g size b) = some true := by
 unfold uJ
 rw [PE F hF hg hz1 hz2 h0 h1, ob]
theorem aad (F : Nat) : qh F D0 = some D0 := rfl
end Go.V.P
set_option linter.unusedVariables false
set_option linter.unusedSimpArgs false
namespace Go.V.P
open Go.V Go.Proofs
def v8 (h : Nat → Int) : V8 Int := ⟨h 0, h 1, h 2, h 3, h 4, h 5, h 6, h 7⟩
theorem abl (h : Nat → Int) {j : Nat} (hj : j < 8) (x : Int) : (v8 h).put j x = v8 (fun i => if i = j then x else h i) := by
 rcases j with _ | _ | _ | _ | _ | _ | _ | _ | j <;> first | rfl | omega
theorem abm (h : Nat → Int) {j : Nat} (hj : j < 8) : (v8 h).get j = h j := by
 rcases j with _ | _ | _ | _ | _ | _ | _ | _ | j <;> first | rfl | omega
theorem Rn {h h' : Nat → Int} (e : ∀ j, j < 8 → h j = h' j) : v8 h = v8 h' := by
 unfold v8
 rw [e 0 (by omega), e 1 (by omega), e 2 (by omega), e 3 (by omega), e 4 (by omega), e 5 (by omega), e 6 (by omega), e 7 (by omega)]
theorem get_put {v : V8 Int} {j k : Nat} (hj : j < 8) (hk : k < 8) (x : Int) : (v.put j x).get k = if k = j then x else v.get k := by
 rcases j with _ | _ | _ | _ | _ | _ | _ | _ | j <;> first | omega | (rcases k with _ | _ | _ | _ | _ | _ | _ | _ | k <;> first | rfl | omega)
def Ro (f : Nat → Int) (v r : Nat) : bV := ⟨v8 (fun j => if 8 * r + j < v then f (8 * r + j) else 0), v8 (fun j => if 8 * r + j < v then f (8 * r + j) else 0), false, false⟩
theorem aae (F : Nat) {n : Nat} (h1 : 1 ≤ n) (h2 : n ≤ 4096) : zM F (n : Int) = some (some ⟨List.replicate n ⟨⟨0, 0, 0, 0, 0, 0, 0, 0⟩, ⟨0, 0, 0, 0, 0, 0, 0, 0⟩, false, false⟩, false, 0, 0, []⟩, 0) := by
 unfold zM
 rw [decide_eq_false (show ¬ ((n : Int) < 1) by omega), decide_eq_false (show ¬ ((4096 : Int) < (n : Int)) by omega), show (false || false) = false from rfl, cf, bY (by omega), Int.toNat_natCast]
def Rq (R : Nat) (f : Nat → Int) : aC := ⟨tab R (Ro f (8 * R)), false, 0, 0, []⟩
theorem Yr (F : Nat) {R : Nat} (f : Nat → Int) (h1 : 1 ≤ R) (h2 : R ≤ 4096) (hF : 8 * R < F) : xM F (tab (8 * R) f) = some (some (Rq R f), 0) := by
 unfold xM
 rw [aP, EH (by omega), I7 (by omega), show ((8 * R : Nat) : Int) / 8 = (R : Int) by omega, show ((8 * R : Nat) : Int) % 8 = 0 by omega, wrap_small (by omega) (by omega), aae F h1 h2, ob]
 unfold Eo
 dsimp only
 rw [show (((0 : Int) != 0) || ((0 : Int) != 0)) = false from rfl, cf, jn_]
 have e0 : List.replicate R (⟨⟨0, 0, 0, 0, 0, 0, 0, 0⟩, ⟨0, 0, 0, 0, 0, 0, 0, 0⟩, false, false⟩ : bV) = tab R (Ro f 0) := by
  rw [sV]; exact fV fun j hj => by simp [Ro, v8]
 rw [e0]
 refine qw (fun n v l => oU F (tab (8 * R) f) _ n v l) (8 * R) (fun v => tab R (Ro f v)) _ (fun n v hv => ?_) (fun n => ?_) F 0 (by omega) (by omega)
 ·conv => lhs; unfold oU
  rw [aP, dlt hv, ct, eU (by omega) (by rw [aP]; omega), EH (by omega), I7 (by omega), wrap_small (by omega) (by omega), eU (by omega) (by rw [aP]; omega), bY (by omega), bY (by omega), cZ (by omega) (by omega), cs, dU hv, show ((v : Int) / 8) = ((v / 8 : Nat) : Int) by omega, dU (by omega), show ((v : Int) % 8).toNat = v % 8 by omega]
  rw [qH, Int.toNat_natCast]
  congr 1
  refine fV fun r hr => ?_
  by_cases c : r = v / 8
  ·subst c
   rw [if_pos rfl]
   unfold Ro
   dsimp only
   rw [abl _ (by omega)]
   have : v8 (fun i => if i = v % 8 then f v else if 8 * (v / 8) + i < v then f (8 * (v / 8) + i) else 0) = v8 (fun j => if 8 * (v / 8) + j < v + 1 then f (8 * (v / 8) + j) else 0) := Rn fun j hj => by
    by_cases c1 : j = v % 8
    ·rw [if_pos c1, if_pos (by omega)]; congr 1; omega
    ·rw [if_neg c1]
     by_cases c2 : 8 * (v / 8) + j < v
     ·rw [if_pos c2, if_pos (by omega)]
     ·rw [if_neg c2, if_neg (by omega)]
   rw [this]
  ·rw [if_neg c]
   unfold Ro
   have : v8 (fun j => if 8 * r + j < v then f (8 * r + j) else 0) = v8 (fun j => if 8 * r + j < v + 1 then f (8 * r + j) else 0) := Rn fun j hj => by
    by_cases c2 : 8 * r + j < v
    ·rw [if_pos c2, if_pos (by omega)]
    ·rw [if_neg c2, if_neg (by omega)]
   rw [this]
 ·conv => lhs; unfold oU
  rw [aP, dge, cf]
  rfl
def wd (M : aC) (i : Nat) : Int := (nth M.xl ((i / 8 : Nat) : Int)).xNew.get (i % 8)
structure Mem (M : aC) (R : Nat) (w : Nat → Int) (c : Nat) : Prop where
 len : M.xl.length = R
 wds : ∀ i, i < 8 * R → wd M i = w i
 off : M.dD = false
 fuse : M.bP = 0
 Ap : 0 ≤ M.bC
 cnt : M.bC ≤ c
theorem KG {R : Nat} (f : Nat → Int) : Mem (Rq R f) R f 0 := by
 refine ⟨aP _ _, fun i hi => ?_, rfl, rfl, by show (0 : Int) ≤ 0; decide, by show (0 : Int) ≤ 0; decide⟩
 unfold wd Rq
 dsimp only
 rw [dU (by omega)]
 unfold Ro
 dsimp only
 rw [abm _ (by omega), if_pos (by omega)]
 congr 1
 omega
theorem aaf (v : V8 Int) : [v.c0, v.c1, v.c2, v.c3, v.c4, v.c5, v.c6, v.c7] = tab 8 (fun j => v.get j) := rfl
theorem aag {α : Type} (n m : Nat) (f : Nat → α) : tab (n + m) f = tab n f ++ tab m (fun i => f (n + i)) := by
 apply List.ext_getElem?
 intro i
 by_cases c : i < n
 ·rw [List.getElem?_append_left (by rw [aP]; exact c), qp (by omega), qp c]
 ·rw [List.getElem?_append_right (by rw [aP]; omega), aP]
  by_cases c2 : i < n + m
  ·rw [qp c2, qp (by omega)]; congr 2; omega
  ·rw [List.getElem?_eq_none (by rw [aP]; omega), List.getElem?_eq_none (by rw [aP]; omega)]
theorem wo (F : Nat) {M : aC} {R c : Nat} {w : Nat → Int} (h : Mem M R w c) (hF : R < F) (hR : R ≤ 4096) : gK F M = some (tab (8 * R) w) := by
 have hl := h.len
 unfold gK
 rw [hl, cZ (by omega) (by omega), bY (by omega), jn_, show List.replicate (0 : Int).toNat (0 : Int) = [] from rfl]
 have e : tab (8 * R) w = tab (8 * R) (wd M) := fV fun i hi => (h.wds i hi).symm
 rw [e]
 refine qw (fun n v l => kX F M _ n v l) R (fun v => tab (8 * v) (wd M)) _ (fun n v hv => ?_) (fun n => ?_) F 0 (by omega) (by omega)
 ·conv => lhs; unfold kX
  rw [hl, dlt hv, ct, eU (by omega) (by rw [hl]; omega), bY (by rw [aP]; simp only [List.length_cons, List.length_nil]; omega), cZ (by omega) (by omega), cs, show 8 * (v + 1) = 8 * v + 8 by omega, aag, aaf]
  congr 2
  refine fV fun j hj => ?_
  unfold wd
  rw [show (8 * v + j) / 8 = v by omega, show (8 * v + j) % 8 = j by omega]
 ·conv => lhs; unfold kX
  rw [hl, dge, cf]
theorem E5 (F : Nat) {M : aC} {a b : Int} (h : M.dD = false) (h0 : 0 ≤ a) (h1 : a < b) : nG F M a b = some 0 := by
 unfold nG
 rw [h, cf, decide_eq_false (show ¬ (a < 0) by omega), decide_eq_false (show ¬ (b ≤ a) by omega)]
 rfl
theorem D8 (F : Nat) {M : aC} (h : M.bP = 0) (h0 : 0 ≤ M.bC) (h1 : M.bC ≤ 1000000000) : nM F M = some (⟨M.xl, M.dD, M.bC + 1, 0, M.bQ⟩, true) := by
 unfold nM
 rw [jn_, h, show decide ((0 : Int) < 0) = false from rfl, cf]
 dsimp only
 rw [cZ (by omega) (by omega)]
theorem zN {α : Type} [Inhabited α] {l : List α} {i j : Int} {x : α} (hi : ix l i) (hj : 0 ≤ j) : nth (dZ l i x) j = if j = i then x else nth l j := by
 by_cases c : j = i
 ·subst c; rw [if_pos rfl, Gm hi]
 ·rw [if_neg c]
  have : i.toNat ≠ j.toNat := by unfold ix at hi; omega
  simp [nth, dZ, List.getD_eq_getElem?_getD, List.getElem?_set_ne this]
theorem Rt (F : Nat) {M : aC} {R c : Nat} {w : Nat → Int} (h : Mem M R w c) (hR : R ≤ 4096) (hc : c ≤ 1000000000) {a : Nat} (ha : a < 8 * R) (v : Int) :
  ∃ M', jh F M (a : Int) v = some (M', 0) ∧ Mem M' R (fun i => if i = a then v else w i) (c + 1) := by
 have hl := h.len; have hf := h.fuse; have h0 := h.Ap; have h1 := h.cnt; have hoff := h.off
 have hix : ix M.xl ((a / 8 : Nat) : Int) := ⟨by omega, by rw [hl]; omega⟩
 refine ⟨⟨dZ M.xl ((a / 8 : Nat) : Int) ⟨(nth M.xl ((a / 8 : Nat) : Int)).jl, (nth M.xl ((a / 8 : Nat) : Int)).xNew.put (a % 8) v, true, false⟩, M.dD, M.bC + 1, 0, M.bQ⟩, ?_, ?_⟩
 ·unfold jh
  rw [hl, cZ (by omega) (by omega), E5 F hoff (by omega) (by omega), ob, show ((0 : Int) != 0) = false from rfl, cf, D8 F hf h0 (by omega), ob, Bool.not_true, cf, EH (by omega), I7 (by omega), wrap_small (by omega) (by omega), show ((a : Int) / 8) = ((a / 8 : Nat) : Int) by omega, bY hix]
  unfold qK xO
  rw [bY hix, ob, decide_eq_true (show (0 : Int) ≤ (a : Int) % 8 by omega), decide_eq_true (show (a : Int) % 8 < 8 by omega), show (!(true && true)) = false from rfl, cf, bY (by omega), ob, show ((a : Int) % 8).toNat = a % 8 by omega]
 ·refine ⟨by dsimp only; rw [aj]; exact hl, fun i hi => ?_, hoff, rfl, by dsimp only; omega, by dsimp only; omega⟩
  unfold wd
  dsimp only
  rw [zN hix (by omega)]
  by_cases c1 : ((i / 8 : Nat) : Int) = ((a / 8 : Nat) : Int)
  ·rw [if_pos c1]
   dsimp only
   rw [get_put (by omega) (by omega)]
   by_cases c2 : i = a
   ·subst c2; rw [if_pos rfl, if_pos rfl]
   ·rw [if_neg (by omega), if_neg c2, ← h.wds i hi]
    unfold wd
    rw [c1]
  ·rw [if_neg c1, if_neg (fun e => c1 (by rw [e])), ← h.wds i hi]
   rfl
theorem Ru (F : Nat) {M : aC} {R c : Nat} {w : Nat → Int} (h : Mem M R w c) (hR : R ≤ 4096) (hc : c ≤ 1000000000) {r : Int} (h0r : 0 ≤ r) (hr : r < R) :
  ∃ M', jU F M r = some (M', 0) ∧ Mem M' R w (c + 1) := by
 have hl := h.len; have hf := h.fuse; have h0 := h.Ap; have h1 := h.cnt; have hoff := h.off
 have hix : ix M.xl r := ⟨h0r, by rw [hl]; omega⟩
 refine ⟨⟨dZ M.xl r ⟨(nth M.xl r).jl, (nth M.xl r).xNew, (nth M.xl r).rZ, ((nth M.xl r).pO || (nth M.xl r).rZ)⟩, M.dD, M.bC + 1, 0, M.bQ⟩, ?_, ?_⟩
 ·unfold jU
  rw [hl, E5 F hoff (by omega) (by omega), ob, show ((0 : Int) != 0) = false from rfl, cf, D8 F hf h0 (by omega), ob, Bool.not_true, cf, bY hix]
  unfold qL
  rw [bY hix, ob]
 ·refine ⟨by dsimp only; rw [aj]; exact hl, fun i hi => ?_, hoff, rfl, by dsimp only; omega, by dsimp only; omega⟩
  rw [← h.wds i hi]
  unfold wd
  dsimp only
  rw [zN hix (by omega)]
  by_cases c1 : ((i / 8 : Nat) : Int) = r
  ·rw [if_pos c1, c1]
  ·rw [if_neg c1]
theorem OG (F : Nat) {M : aC} {R c : Nat} {w : Nat → Int} (h : Mem M R w c) {r : Nat} (hr : r < R) : ∃ M' b, mQ F M (r : Int) = some (M', b) ∧ Mem M' R w c := by
 have hl := h.len
 have hix : ix M.xl (r : Int) := ⟨by omega, by rw [hl]; omega⟩
 unfold mQ
 rw [bY hix]
 cases hs : (nth M.xl (r : Int)).pO
 ·exact ⟨M, false, by rw [cf], h⟩
 ·rw [ct]
  unfold mV
  rw [bY hix]
  cases ho : (nth M.xl (r : Int)).rZ
  ·exact ⟨M, false, by rw [Bool.not_false, ct, ob], h⟩
  ·rw [Bool.not_true, cf, ob]
   refine ⟨_, true, rfl, by dsimp only; rw [aj]; exact hl, fun i hi => ?_, h.off, h.fuse, h.Ap, h.cnt⟩
   rw [← h.wds i hi]
   unfold wd
   dsimp only
   rw [zN hix (by omega)]
   by_cases c1 : ((i / 8 : Nat) : Int) = (r : Int)
   ·rw [if_pos c1, c1]
   ·rw [if_neg c1]
theorem Yt (F : Nat) (x : aC × Bool) {R : Nat} (hx : x.1.xl.length = R) (hR : R ≤ 4096) (w : Nat → Int) (c : Nat) (k : List bV → Bool → Int → Int → List Int → Option (aC × Int)) (hk : ∀ M', Mem M' R w c → ∃ M'', k M'.xl M'.dD M'.bC M'.bP M'.bQ = some (M'', 0) ∧ Mem M'' R w c) :
  ∀ (n v : Nat) (M : aC), v ≤ R → R - v < n → Mem M R w c → ∃ M'', jR F x k n (v : Int) M.xl M.dD M.bC M.bP M.bQ = some (M'', 0) ∧ Mem M'' R w c := by
 intro n
 induction n with
 | zero => intro v M h1 h2; omega
 | succ n ih =>
  intro v M h1 h2 h
  unfold jR
  rw [hx]
  by_cases hv : v < R
  ·obtain ⟨M', b, e, h'⟩ := OG F h hv
   rw [dlt hv, ct, eU (by omega) (by rw [h.len]; omega), show (⟨M.xl, M.dD, M.bC, M.bP, M.bQ⟩ : aC) = M from rfl, e, ob, cZ (by omega) (by omega), cs]
   exact ih (v + 1) M' (by omega) (by omega) h'
  ·rw [decide_eq_false (show ¬ ((v : Int) < ((R : Nat) : Int)) by omega), cf]
   exact hk M h
theorem Rw (F : Nat) {M : aC} {R c : Nat} {w : Nat → Int} (h : Mem M R w c) (hR : R ≤ 4096) (hF : R < F) (hc : c ≤ 1000000000) : ∃ M', lI F M = some (M', 0) ∧ Mem M' R w (c + 1) := by
 have hl := h.len; have hf := h.fuse; have h0 := h.Ap; have h1 := h.cnt; have hoff := h.off
 unfold lI
 rw [E5 F hoff (by omega) (by omega), ob, show ((0 : Int) != 0) = false from rfl, cf, D8 F hf h0 (by omega), ob, Bool.not_true, cf, jn_]
 have h' : Mem (⟨M.xl, M.dD, M.bC + 1, 0, M.bQ⟩ : aC) R w (c + 1) := ⟨hl, h.wds, hoff, rfl, by dsimp only; omega, by dsimp only; omega⟩
 exact Yt F _ hl hR w (c + 1) _ (fun M' hM' => ⟨M', rfl, hM'⟩) F 0 _ (by omega) (by omega) h'
end Go.V.P
set_option linter.unusedVariables false
set_option linter.unusedSimpArgs false
namespace Go.V.P
open Go.V Go.Proofs
theorem OH {x : Int} {l : List Int} (h : x ∈ rD l) : x ∈ l := by
 unfold rD Go.Lib.compact Go.Lib.compactUpTo at h
 obtain ⟨j, hj, rfl⟩ := List.mem_map.1 h
 have hj2 := List.mem_range.1 (List.mem_filter.1 hj).1
 simp [hj2]
theorem Gn (l : List Int) : (rD l).length ≤ l.length := by
 unfold rD Go.Lib.compact Go.Lib.compactUpTo
 rw [List.length_map]
 exact Nat.le_trans (List.length_filter_le _ _) (by simp)
theorem OI {x : Int} {l : List Int} (h : x ∈ qj l) : x ∈ l := by
 unfold qj at h
 exact List.mem_mergeSort.1 h
def app (ws : List aB) (w : Nat → Int) : Nat → Int := match ws with
 | [] => w
 | x :: ws => app ws (fun i => if i = x.xAt.toNat then x.xV else w i)
theorem xP (a b : List aB) (w : Nat → Int) : app (a ++ b) w = app b (app a w) := by
 induction a generalizing w with
 | nil => rfl
 | cons x a ih => exact ih _
def JI (R : Nat) (ws : List aB) : Prop := ∀ x ∈ ws, 0 ≤ x.xAt ∧ x.xAt < 8 * R
theorem rows_ok (F : Nat) {R : Nat} {ws : List aB} (hR : R ≤ 4096) (h : JI R ws) (hl : ws.length ≤ 10000) (hF : ws.length < F) : ∃ l, oJ F ws = some l ∧ l.length ≤ ws.length ∧ ∀ x ∈ l, 0 ≤ x ∧ x < R := by
 have key : oJ F ws = some (rD (qj (tab ws.length (fun i => (nth ws (i : Int)).xAt / 8)))) := by
  unfold oJ
  rw [jn_]
  refine qw (fun n v l => kN F ws _ n v l) ws.length (fun v => tab v (fun i => (nth ws (i : Int)).xAt / 8)) _ (fun n v hv => ?_) (fun n => ?_) F 0 (by omega) (by omega)
  ·have hm : nth ws (v : Int) ∈ ws := by
    rw [jW ws hv]; exact List.getElem_mem hv
   obtain ⟨a1, a2⟩ := h _ hm
   conv => lhs; unfold kN
   rw [dlt hv, ct, jn_, eU (by omega) (by omega), decide_eq_true a1, ct, EH a1, wrap_small (by omega) (by omega), bY (by rw [aP]; simp only [List.length_cons, List.length_nil]; omega)]
   dsimp only
   rw [cZ (by omega) (by omega), cs, oG]
  ·conv => lhs; unfold kN
   rw [dge, cf, bY (by rw [aP]; omega), bY (by rw [ah, aP]; omega)]
 refine ⟨_, key, ?_, fun x hx => ?_⟩
 ·refine Nat.le_trans (Gn _) ?_
  rw [ah, aP]
  exact Nat.le_refl _
 ·have := OI (OH hx)
  unfold tab at this
  obtain ⟨i, hi, rfl⟩ := List.mem_map.1 this
  have hi := List.mem_range.1 hi
  have hm : nth ws (i : Int) ∈ ws := by rw [jW ws hi]; exact List.getElem_mem hi
  obtain ⟨a1, a2⟩ := h _ hm
  omega
theorem aah (F : Nat) {R : Nat} {ws : List aB} (hR : R ≤ 4096) (hfit : JI R ws) (hl : ws.length ≤ 10000) (Q : aC → Prop) (k : List bV → Bool → Int → Int → List Int → Option (aC × Int)) (w0 : Nat → Int) (c0 : Nat)
  (hk : ∀ M, Mem M R (app ws w0) (c0 + ws.length) → ∃ M', k M.xl M.dD M.bC M.bP M.bQ = some (M', 0) ∧ Q M') (hc : c0 ≤ 100000000) :
  ∀ (n v : Nat) (M : aC), v ≤ ws.length → ws.length - v < n → Mem M R (app (ws.take v) w0) (c0 + v) → ∃ M', lV F ws k n (v : Int) M.xl M.dD M.bC M.bP M.bQ = some (M', 0) ∧ Q M' := by
 intro n
 induction n with
 | zero => intro v M h1 h2; omega
 | succ n ih =>
  intro v M h1 h2 h
  unfold lV
  by_cases hv : v < ws.length
  ·have hm : nth ws (v : Int) ∈ ws := by rw [jW ws hv]; exact List.getElem_mem hv
   obtain ⟨a1, a2⟩ := hfit _ hm
   obtain ⟨M', e, h'⟩ := Rt F h hR (by omega) (a := (nth ws (v : Int)).xAt.toNat) (by omega) (nth ws (v : Int)).xV
   rw [show (((nth ws (v : Int)).xAt.toNat : Nat) : Int) = (nth ws (v : Int)).xAt by omega] at e
   rw [dlt hv, ct, eU (by omega) (by omega), show (⟨M.xl, M.dD, M.bC, M.bP, M.bQ⟩ : aC) = M from rfl, e, ob, show ((0 : Int) != 0) = false from rfl, cf, cZ (by omega) (by omega), cs]
   refine ih (v + 1) M' (by omega) (by omega) ?_
   have e2 : app (ws.take (v + 1)) w0 = fun i => if i = (nth ws (v : Int)).xAt.toNat then (nth ws (v : Int)).xV else app (ws.take v) w0 i := by
    rw [List.take_succ_eq_append_getElem hv, xP, jW ws hv]
    rfl
   rw [e2, show c0 + (v + 1) = c0 + v + 1 by omega]
   exact h'
  ·have : v = ws.length := by omega
   subst this
   rw [dge, cf]
   rw [List.take_length] at h
   exact hk M h
theorem aai (F : Nat) {R : Nat} (hR : R ≤ 4096) {rows : List Int} (hr : ∀ x ∈ rows, 0 ≤ x ∧ x < R) (hl : rows.length ≤ 10000) (Q : aC → Prop) (k : List bV → Bool → Int → Int → List Int → Option (aC × Int)) (w : Nat → Int) (c0 : Nat)
  (hk : ∀ M, Mem M R w (c0 + rows.length) → ∃ M', k M.xl M.dD M.bC M.bP M.bQ = some (M', 0) ∧ Q M') (hc : c0 ≤ 100000000) :
  ∀ (n v : Nat) (M : aC), v ≤ rows.length → rows.length - v < n → Mem M R w (c0 + v) → ∃ M', lW F k rows n (v : Int) M.xl M.dD M.bC M.bP M.bQ = some (M', 0) ∧ Q M' := by
 intro n
 induction n with
 | zero => intro v M h1 h2; omega
 | succ n ih =>
  intro v M h1 h2 h
  unfold lW
  by_cases hv : v < rows.length
  ·have hm : nth rows (v : Int) ∈ rows := by rw [jW rows hv]; exact List.getElem_mem hv
   obtain ⟨a1, a2⟩ := hr _ hm
   obtain ⟨M', e, h'⟩ := Ru F h hR (by omega) a1 a2
   rw [dlt hv, ct, eU (by omega) (by omega), show (⟨M.xl, M.dD, M.bC, M.bP, M.bQ⟩ : aC) = M from rfl, e, ob, show ((0 : Int) != 0) = false from rfl, cf, cZ (by omega) (by omega), cs]
   exact ih (v + 1) M' (by omega) (by omega) h'
  ·have : v = rows.length := by omega
   subst this
   rw [dge, cf]
   exact hk M h
theorem VP (F : Nat) {M : aC} {R c : Nat} {w : Nat → Int} (h : Mem M R w c) (hR : R ≤ 4096) {ws : List aB} (hfit : JI R ws) (hl : ws.length ≤ 10000) (hF : ws.length < F) (hF2 : R < F) (hc : c ≤ 10000000) :
  ∃ M', rE F M ws = some (M', 0) ∧ Mem M' R (app ws w) (c + 2 * ws.length + 1) := by
 obtain ⟨rows, e, hlr, hr⟩ := rows_ok F hR hfit hl hF
 unfold rE
 rw [jn_]
 refine aah F hR hfit hl (fun M' => Mem M' R (app ws w) (c + 2 * ws.length + 1)) _ w c (fun M1 hM1 => ?_) (by omega) F 0 M (by omega) (by omega) (by simpa [app] using h)
 rw [jn_, e, ob]
 refine aai F hR hr (by omega) (fun M' => Mem M' R (app ws w) (c + 2 * ws.length + 1)) _ (app ws w) (c + ws.length) (fun M2 hM2 => ?_) (by omega) F 0 M1 (by omega) (by omega) (by simpa using hM1)
 obtain ⟨M3, e3, h3⟩ := Rw F hM2 hR hF2 (by omega)
 refine ⟨M3, ?_, ⟨h3.len, h3.wds, h3.off, h3.fuse, h3.Ap, by have := h3.cnt; omega⟩⟩
 rw [show (⟨M2.xl, M2.dD, M2.bC, M2.bP, M2.bQ⟩ : aC) = M2 from rfl, e3, ob]
end Go.V.P
set_option linter.unusedVariables false
set_option linter.unusedSimpArgs false
namespace Go.V.P
open Go.V Go.Proofs
variable {g : aJ} {size : Int}
theorem Rx {ws : List aB} {w : Nat → Int} (h : ∀ x ∈ ws, w x.xAt.toNat = x.xV) : app ws w = w := by
 induction ws with
 | nil => rfl
 | cons x ws ih =>
  unfold app
  have : (fun i => if i = x.xAt.toNat then x.xV else w i) = w := by
   funext i
   by_cases c : i = x.xAt.toNat
   ·rw [if_pos c, c]; exact (h x List.mem_cons_self).symm
   ·rw [if_neg c]
  rw [this]
  exact ih fun y hy => h y (List.mem_cons_of_mem _ hy)
theorem Kv (a : Nat) (f : Nat → Int) (w : Nat → Int) (i : Nat) : ∀ n : Nat, app (tab n (fun j => (⟨((a + j : Nat) : Int), f j⟩ : aB))) w i = if a ≤ i ∧ i < a + n then f (i - a) else w i
 | 0 => by rw [Yc, if_neg (by omega)]; rfl
 | n + 1 => by
  rw [oG, xP]
  show (if i = (((a + n : Nat) : Int)).toNat then f n else app (tab n (fun j => (⟨((a + j : Nat) : Int), f j⟩ : aB))) w i) = _
  rw [Kv a f w i n, Int.toNat_natCast]
  by_cases c : i = a + n
  ·rw [if_pos c, if_pos (by omega)]; congr 1; omega
  ·rw [if_neg c]
   by_cases c2 : a ≤ i ∧ i < a + n
   ·rw [if_pos c2, if_pos (by omega)]
   ·rw [if_neg c2, if_neg (by omega)]
noncomputable def blk (g : aJ) (b : Int) (a : Nat) : List aB := tab 8 (fun j => ⟨((a + j : Nat) : Int), (sup ⟨g, b⟩).getD j 0⟩)
theorem Gp (F : Nat) (hF : 20 ≤ F) (hg : GG g) (s : aI) (hs : s.bH = g) (was : List aV) (b : Int) (first : Bool) (a : Nat) (ha : a ≤ 100000) : kT F ⟨s, was, b, first⟩ (a : Int) = some (blk g b a) := by
 unfold kT
 dsimp only
 rw [jn_, hs, zH F (by omega) _ (lT F hg), ob]
 refine qw (fun n v l => mW F (a : Int) _ (sup ⟨g, b⟩) n v l) 8 (fun v => tab v (fun j => (⟨((a + j : Nat) : Int), (sup ⟨g, b⟩).getD j 0⟩ : aB))) _ (fun n v hv => ?_) (fun n => ?_) F 0 (by omega) (by omega)
 ·conv => lhs; unfold mW
  rw [kC, dlt hv, ct, eU (by omega) (by rw [kC]; omega), cZ (by omega) (by omega), bY (by rw [aP]; simp only [List.length_cons, List.length_nil]; omega), cZ (by omega) (by omega), cs, oG, show ((a : Int) + (v : Int)) = ((a + v : Nat) : Int) by omega, jW _ (by rw [kC]; exact hv)]
  simp [List.getD_eq_getElem?_getD, show v < (sup ⟨g, b⟩).length by rw [kC]; exact hv]
 ·conv => lhs; unfold mW
  rw [kC, dge, cf]
  rfl
theorem Yu (G : Nat) : lg (G + 10) D0 = some 0 := by kernel_rfl
def marks (t : Nat) : List aB := tab t (fun v => ⟨((16 + 1208 * v : Nat) : Int), 0⟩)
theorem Yv (F : Nat) (hF : 20 ≤ F) (hg : GG g) (b : Int) : oK F ⟨st0 g size, tab g.ak.toNat (fun _ => D0), b, true⟩ = some [marks g.ak.toNat, [⟨8, 0⟩], blk g b (C1 g), blk g b 0] := by
 have t1 := hg.t1; have t2 := hg.t2; have c8 := C8 hg
 unfold oK
 dsimp only
 rw [jn_]
 have BN : (st0 g size).bH = g := rfl
 obtain ⟨G, hG⟩ : ∃ G, F = G + 10 := ⟨F - 10, by omega⟩
 have hfirst : lg F D0 = some 0 := by rw [hG]; exact Yu G
 have key : ∀ k, gX F ⟨st0 g size, tab g.ak.toNat (fun _ => D0), b, true⟩ k F 0 [] [] = k (marks g.ak.toNat) [] := by
  intro k
  refine qw (fun n v l => gX F ⟨st0 g size, tab g.ak.toNat (fun _ => D0), b, true⟩ k n v l []) g.ak.toNat (fun v => tab v (fun v => (⟨((16 + 1208 * v : Nat) : Int), 0⟩ : aB))) _ (fun n v hv => ?_) (fun n => ?_) F 0 (by omega) (by omega)
  ·conv => lhs; unfold gX
   dsimp only
   rw [aP, dlt hv, ct, eU (by omega) (by rw [aP]; omega), BN, pK F hg hv, ob, jn_, dU hv, show (D0.bK == 2) = false from rfl, cf]
   dsimp only
   rw [jn_, show (D0.bK == 1) = false from rfl, cf]
   dsimp only
   rw [aad, ob, hfirst, ob, bY (by rw [aP]; simp only [List.length_cons, List.length_nil]; omega), cZ (by omega) (by omega), cs, oG]
  ·conv => lhs; unfold gX
   dsimp only
   rw [aP, dge, cf]
   rfl
 have h1 : 1 = ([(⟨8, 0⟩ : aB)] : List aB).length := rfl
 have hb0 : kT F ⟨st0 g size, tab g.ak.toNat (fun _ => D0), b, true⟩ 0 = some (blk g b 0) := Gp F hF hg _ BN _ _ _ 0 (by omega)
 have hbC : kT F ⟨st0 g size, tab g.ak.toNat (fun _ => D0), b, true⟩ ((C1 g : Nat) : Int) = some (blk g b (C1 g)) := Gp F hF hg _ BN _ _ _ _ (by omega)
 rw [key, BN, CG F hg, ob, bY h1, bY h1, bY (by simp), ct, xJ F hg, ob, hbC, ob, hb0, ob, bY (by simp)]
 rfl
def o9 (l : List (List aB)) (w : Nat → Int) : Nat → Int := match l with
 | [] => w
 | ws :: l => o9 l (app ws w)
theorem yR (a b : List (List aB)) (w : Nat → Int) : o9 (a ++ b) w = o9 b (o9 a w) := by
 induction a generalizing w with
 | nil => rfl
 | cons x a ih => exact ih _
theorem VQ (F : Nat) {R : Nat} {l : List (List aB)} (hR : R ≤ 4096) (hF : R < F) (hF2 : 1000 ≤ F) (hfit : ∀ ws ∈ l, JI R ws ∧ ws.length ≤ 900) (hl : l.length ≤ 100) (Q : aC → aW → Prop) (k : List bV → Bool → Int → Int → List Int → Option (aC × Option aW × Int)) (w0 : Nat → Int) (c0 : Nat)
  (hk : ∀ M, Mem M R (o9 l w0) (c0 + 2000 * l.length) → ∃ M' G, k M.xl M.dD M.bC M.bP M.bQ = some (M', some G, 0) ∧ Q M' G) (hc : c0 ≤ 1000000) :
  ∀ (n v : Nat) (M : aC), v ≤ l.length → l.length - v < n → Mem M R (o9 (l.take v) w0) (c0 + 2000 * v) → ∃ M' G, lX F k l n (v : Int) M.xl M.dD M.bC M.bP M.bQ = some (M', some G, 0) ∧ Q M' G := by
 intro n
 induction n with
 | zero => intro v M h1 h2; omega
 | succ n ih =>
  intro v M h1 h2 h
  unfold lX
  by_cases hv : v < l.length
  ·have hm : nth l (v : Int) ∈ l := by rw [jW l hv]; exact List.getElem_mem hv
   obtain ⟨a1, a2⟩ := hfit _ hm
   obtain ⟨M', e, h'⟩ := VP F h hR a1 (by omega) (by omega) hF (by omega)
   rw [dlt hv, ct, eU (by omega) (by omega), show (⟨M.xl, M.dD, M.bC, M.bP, M.bQ⟩ : aC) = M from rfl, e, ob, show ((0 : Int) != 0) = false from rfl, cf, cZ (by omega) (by omega), cs]
   refine ih (v + 1) M' (by omega) (by omega) ?_
   have e2 : o9 (l.take (v + 1)) w0 = app (nth l (v : Int)) (o9 (l.take v) w0) := by
    rw [List.take_succ_eq_append_getElem hv, yR, jW l hv]
    rfl
   rw [e2]
   exact ⟨h'.len, h'.wds, h'.off, h'.fuse, h'.Ap, by have := h'.cnt; omega⟩
  ·have : v = l.length := by omega
   subst this
   rw [dge, cf]
   rw [List.take_length] at h
   exact hk M h
theorem Yw (hg : GG g) (b : Int) (i : Nat) : o9 [marks g.ak.toNat, [⟨8, 0⟩], blk g (b + 1) (C1 g), blk g (b + 1) 0] (wf g size b) i = if i < N1 g then wf g size (b + 1) i else wf g size b i := by
 have t1 := hg.t1; have t2 := hg.t2; have c8 := C8 hg
 have hA8 : 16 ≤ A1 g := by unfold A1; omega
 have hAB : A1 g ≤ B1 g := by unfold B1; omega
 have hBC : B1 g ≤ C1 g := by unfold C1; omega
 have hN : N1 g = C1 g + 8 := rfl
 have m1 : app (marks g.ak.toNat) (wf g size b) = wf g size b := Rx fun x hx => by
  unfold marks tab at hx
  obtain ⟨v, hv, rfl⟩ := List.mem_map.1 hx
  have hv := List.mem_range.1 hv
  have hA : 16 + 1208 * v + 1208 ≤ A1 g := by unfold A1; omega
  dsimp only
  rw [Int.toNat_natCast]
  unfold wf
  rw [if_neg (by omega), if_pos (by omega)]
 have m2 : app [⟨8, 0⟩] (wf g size b) = wf g size b := Rx fun x hx => by
  rw [List.mem_singleton] at hx
  subst hx
  show wf g size b 8 = 0
  unfold wf
  rw [if_neg (by omega), if_pos (by omega)]
 show app (blk g (b + 1) 0) (app (blk g (b + 1) (C1 g)) (app [⟨8, 0⟩] (app (marks g.ak.toNat) (wf g size b)))) i = _
 rw [m1, m2]
 unfold blk
 rw [Kv, Kv]
 by_cases c1 : i < 8
 ·rw [if_pos (by omega), if_pos (by omega)]
  unfold wf
  rw [if_pos c1, Nat.sub_zero]
 ·rw [if_neg (by omega)]
  by_cases c2 : C1 g ≤ i ∧ i < C1 g + 8
  ·rw [if_pos c2, if_pos (by omega)]
   unfold wf
   rw [if_neg c1, if_neg (by omega), if_neg (by omega), if_neg (by omega)]
  ·rw [if_neg c2]
   by_cases c3 : i < N1 g
   ·rw [if_pos c3]
    unfold wf
    rw [if_neg c1, if_neg c1]
    by_cases c4 : i < A1 g
    ·rw [if_pos c4, if_pos c4]
    ·rw [if_neg c4, if_neg c4]
     by_cases c5 : i < B1 g
     ·rw [if_pos c5, if_pos c5]
     ·rw [if_neg c5, if_neg c5, if_pos (by omega), if_pos (by omega)]
   ·rw [if_neg c3]
def sN : aY := ⟨0, D0, []⟩
theorem Yx (F : Nat) (hF : 5000 ≤ F) (hg : GG g) (hz1 : 1 ≤ size) (hz2 : size ≤ 4096) (b : Int) {M : aC} {c : Nat} {w : Nat → Int} (h : Mem M (N1 g / 8) w c) (hw : tab (N1 g) w = P1 g size b) :
  oV F M = some (some ⟨M, g, List.replicate g.ak.toNat sN, [], false⟩, 0) := by
 have t1 := hg.t1; have t2 := hg.t2; have c8 := C8 hg
 have hN : N1 g = C1 g + 8 := rfl
 have hA8 : 16 ≤ A1 g := by unfold A1; omega
 have hl : (P1 g size b).length = N1 g := aP _ _
 have BN : (st0 g size).bH = g := rfl
 have tY : gK F M = some (P1 g size b) := by
  rw [wo F h (by omega) (by omega), show 8 * (N1 g / 8) = N1 g by omega, hw]
 have n8 : nth (P1 g size b) 8 = 0 := by
  unfold P1
  rw [show (8 : Int) = ((8 : Nat) : Int) from rfl, dU (by omega)]
  unfold wf
  rw [if_neg (by omega), if_pos (by omega)]
 unfold oV jC
 rw [h.off, ob, cf, tY, ob, Ii F (by omega) hg hz1 hz2, ob]
 dsimp only
 rw [show ((0 : Int) != 0) = false from rfl, fff, lzt, BN, CG F hg, ob, bY (fun _ => ⟨by decide, by rw [hl]; omega⟩), n8, show (false || ((0 : Int) != 0)) = false from rfl, cf, jn_]
 refine qI (fun n v => jV F (P1 g size b) (st0 g size, 0) _ n v) g.ak.toNat _ (fun n v hv => ?_) (fun n => ?_) F 0 (by omega) (by omega)
 ·have hA : 16 + 1208 * v + 1208 ≤ A1 g := by unfold A1; omega
  have hAB : A1 g ≤ B1 g := by unfold B1; omega
  have hBC : B1 g ≤ C1 g := by unfold C1; omega
  conv => lhs; unfold jV
  dsimp only
  rw [BN, decide_eq_true (show (v : Int) < g.ak by omega), ct, pK F hg hv, ob, jn_, cZ (by omega) (by omega), hl, bY (by omega), Gl hg size b hv, Ku F hg, ob]
  dsimp only
  rw [show (((!true) || (D0.bK == 1)) || (D0.bK == 2)) = false from rfl, cf, cZ (by omega) (by omega), cs]
 ·conv => lhs; unfold jV
  dsimp only
  rw [BN, decide_eq_false (show ¬ (((g.ak.toNat : Nat) : Int) < g.ak) by omega), cf, bY (by omega)]
  rfl
theorem PG (F : Nat) (hF : 5000 ≤ F) (hg : GG g) (hz1 : 1 ≤ size) (hz2 : size ≤ 4096) {b : Int} (h0 : 0 ≤ b) (h1 : b < 4611686018427387904) {M : aC} {c : Nat} (hc : c ≤ 1000000) (h : Mem M (N1 g / 8) (wf g size b) c) :
  ∃ M' c' w', lY F M = some (M', some ⟨M', g, List.replicate g.ak.toNat sN, [], false⟩, 0) ∧ Mem M' (N1 g / 8) w' c' ∧ tab (N1 g) w' = P1 g size (b + 1) := by
 have t1 := hg.t1; have t2 := hg.t2; have c8 := C8 hg
 have hN : N1 g = C1 g + 8 := rfl
 have hA8 : 16 ≤ A1 g := by unfold A1; omega
 have hAB : A1 g ≤ B1 g := by unfold B1; omega
 have hBC : B1 g ≤ C1 g := by unfold C1; omega
 have tY : gK F M = some (P1 g size b) := by
  rw [wo F h (by omega) (by omega), show 8 * (N1 g / 8) = N1 g by omega]; rfl
 have hw' : tab (N1 g) (o9 [marks g.ak.toNat, [⟨8, 0⟩], blk g (b + 1) (C1 g), blk g (b + 1) 0] (wf g size b)) = P1 g size (b + 1) := by
  unfold P1
  exact fV fun i hi => by rw [Yw hg b i, if_pos hi]
 have hfit : ∀ ws ∈ [marks g.ak.toNat, [⟨8, 0⟩], blk g (b + 1) (C1 g), blk g (b + 1) 0], JI (N1 g / 8) ws ∧ ws.length ≤ 900 := by
  intro ws hws
  simp only [List.mem_cons, List.not_mem_nil, or_false] at hws
  rcases hws with rfl | rfl | rfl | rfl
  ·refine ⟨fun x hx => ?_, by unfold marks; rw [aP]; omega⟩
   unfold marks tab at hx
   obtain ⟨v, hv, rfl⟩ := List.mem_map.1 hx
   have hv := List.mem_range.1 hv
   have hA : 16 + 1208 * v + 1208 ≤ A1 g := by unfold A1; omega
   dsimp only
   omega
  ·refine ⟨fun x hx => ?_, by simp⟩
   rw [List.mem_singleton] at hx
   subst hx
   dsimp only
   omega
  ·refine ⟨fun x hx => ?_, by unfold blk; rw [aP]; omega⟩
   unfold blk tab at hx
   obtain ⟨v, hv, rfl⟩ := List.mem_map.1 hx
   have hv := List.mem_range.1 hv
   dsimp only
   omega
  ·refine ⟨fun x hx => ?_, by unfold blk; rw [aP]; omega⟩
   unfold blk tab at hx
   obtain ⟨v, hv, rfl⟩ := List.mem_map.1 hx
   have hv := List.mem_range.1 hv
   dsimp only
   omega
 have key := VQ F (R := N1 g / 8) (l := [marks g.ak.toNat, [⟨8, 0⟩], blk g (b + 1) (C1 g), blk g (b + 1) 0]) (by omega) (by omega) (by omega) hfit (by simp) (fun M' G => G = ⟨M', g, List.replicate g.ak.toNat sN, [], false⟩ ∧ Mem M' (N1 g / 8) (o9 [marks g.ak.toNat, [⟨8, 0⟩], blk g (b + 1) (C1 g), blk g (b + 1) 0] (wf g size b)) (c + 8000))
  (fun v7 v8 v9 v10 v11 => (oV F (⟨v7, v8, v9, v10, v11⟩ : aC)).bind fun x13 => Eo (x13.1) (some ((⟨v7, v8, v9, v10, v11⟩ : aC), none, x13.2)) fun o14 => some ((⟨v7, v8, v9, v10, v11⟩ : aC), (some (⟨(⟨v7, v8, v9, v10, v11⟩ : aC), o14.dB, o14.xw, o14.cu, o14.fP⟩ : aW)), x13.2))
  (wf g size b) c (fun M1 hM1 => by
   have hgn := Yx F hF hg hz1 hz2 (b + 1) hM1 hw'
   refine ⟨M1, _, ?_, rfl, ⟨hM1.len, hM1.wds, hM1.off, hM1.fuse, hM1.Ap, by have := hM1.cnt; simp at this; omega⟩⟩
   rw [show (⟨M1.xl, M1.dD, M1.bC, M1.bP, M1.bQ⟩ : aC) = M1 from rfl, hgn, ob]
   rfl) hc F 0 M (by omega) (by simp; omega) (by simpa [o9] using h)
 obtain ⟨M', G, e, rfl, hM'⟩ := key
 refine ⟨M', _, _, ?_, hM', hw'⟩
 unfold lY jC
 rw [h.off, ob, cf, tY, ob, PE F (by omega) hg hz1 hz2 h0 h1, ob, Bool.not_true, cf, jn_, Yv F (by omega) hg, ob]
 rw [h.off] at e
 exact e
end Go.V.P
set_option linter.unusedVariables false
set_option linter.unusedSimpArgs false
namespace Go.V.P
open Go.V Go.Proofs
variable {g : aJ} {size : Int}
theorem VR (F : Nat) (hF : 10000 ≤ F) (hg : GG g) (hz1 : 1 ≤ size) (hz2 : size ≤ 4096) : uo F g size = some (some (Rq (N1 g / 8) (wf g size 0)), 0) := by
 have c8 := C8 hg
 have hN : N1 g = C1 g + 8 := rfl
 unfold uo
 rw [Ig F (by omega) hg hz1 hz2, ob, show ((0 : Int) != 0) = false from rfl, cf, OE F (by omega) hg hz1 hz2, ob]
 have := Yr F (R := N1 g / 8) (wf g size 0) (by omega) (by omega) (by omega)
 rw [show 8 * (N1 g / 8) = N1 g by omega] at this
 unfold P1
 rw [this, ob]
 rfl
theorem Ry (F : Nat) (hF : 5000 ≤ F) (hg : GG g) (hz1 : 1 ≤ size) (hz2 : size ≤ 4096) {b : Int} {M : aC} {c : Nat} {w : Nat → Int} (h : Mem M (N1 g / 8) w c) (hw : tab (N1 g) w = P1 g size b) :
  mO F ⟨M, g, List.replicate g.ak.toNat sN, [], false⟩ = some (st0 g size, 0) := by
 have t1 := hg.t1; have t2 := hg.t2; have c8 := C8 hg
 have hN : N1 g = C1 g + 8 := rfl
 have hA8 : 16 ≤ A1 g := by unfold A1; omega
 have hl : (P1 g size b).length = N1 g := aP _ _
 have tY : gK F M = some (P1 g size b) := by
  rw [wo F h (by omega) (by omega), show 8 * (N1 g / 8) = N1 g by omega, hw]
 unfold mO jy jC
 dsimp only
 rw [h.off, ob, show (false || false) = false from rfl, cf, List.length_replicate, decide_eq_false (show ¬ ((0 : Int) < 0) by omega), decide_eq_false (show ¬ (((g.ak.toNat : Nat) : Int) ≤ 0) by omega), show (false || false) = false from rfl, cf, ob, show ((0 : Int) != 0) = false from rfl, cf, tY, ob, jn_]
 refine qI (fun n v => jS F ⟨M, g, List.replicate g.ak.toNat sN, [], false⟩ _ n (P1 g size b) v) g.ak.toNat _ (fun n v hv => ?_) (fun n => ?_) F 0 (by omega) (by omega)
 ·have hA : 16 + 1208 * v + 1208 ≤ A1 g := by unfold A1; omega
  have hAB : A1 g ≤ B1 g := by unfold B1; omega
  have hBC : B1 g ≤ C1 g := by unfold C1; omega
  conv => lhs; unfold jS nI
  dsimp only
  rw [List.length_replicate, dlt hv, ct, jn_, pK F hg hv, ob, cZ (by omega) (by omega), hl, bY (by omega), Gl hg size b hv, Ku F hg, ob, ob]
  dsimp only
  rw [show (true && (D0.bK == 2)) = false from rfl, cf]
  rw [cZ (by omega) (by omega), cs]
 ·conv => lhs; unfold jS
  dsimp only
  rw [List.length_replicate, dge, cf, Ii F (by omega) hg hz1 hz2, ob]
def iP : aJ := ⟨2, 32, 16⟩
theorem wu : GG iP := ⟨by decide, by decide, by decide, by decide, by decide, by decide, by decide⟩
theorem Yy (F : Nat) (hF : 10000 ≤ F) (hF2 : F < 1000000) : nN F = some true := by
 have hg := wu
 have hN : N1 iP = 2632 := by decide
 have hs : (st0 iP 64).ay.length = 32 := aP _ _
 have ht : (st0 iP 64).aA.length = 16 := aP _ _
 obtain ⟨M', c', w', e, hM', hw'⟩ := PG F (by omega) hg (size := 64) (by decide) (by decide) (b := 0) (by decide) (by decide) (c := 0) (by decide) (KG (wf iP 64 0))
 have tY : gK F M' = some (P1 iP 64 (0 + 1)) := by
  rw [wo F hM' (by rw [hN]; omega) (by rw [hN]; omega), show 8 * (N1 iP / 8) = N1 iP by rw [hN], hw']
 have hl : (P1 iP 64 (0 + 1)).length = 2632 := (aP _ _).trans hN
 have n4 : nth (P1 iP 64 (0 + 1)) 4 = 1 := by
  unfold P1
  rw [show (4 : Int) = ((4 : Nat) : Int) from rfl, dU (by rw [hN]; omega)]
  rfl
 unfold nN
 rw [show ql F = some iP from rfl, ob, VR F hF hg (by decide) (by decide), ob]
 unfold Eo
 dsimp only
 rw [show (((0 : Int) != 0) || false) = false from rfl, cf, e, ob]
 dsimp only
 rw [show (((0 : Int) != 0) || false) = false from rfl, cf, Ry F (by omega) hg (by decide) (by decide) hM' hw', ob, ob, Ig F (by omega) hg (by decide) (by decide), ob, tY, ob]
 dsimp only
 rw [show ((0 : Int) == 0) = true from rfl, ttt, lzt, OD F _ (by rw [hs]; omega) (by rw [ht]; omega) hF2, ob, hl, show decide ((8 : Int) < ((2632 : Nat) : Int)) = true from rfl, show ((true && true) && true) = true from rfl, bY (fun _ => ⟨by decide, by rw [hl]; decide⟩), n4, show ((1 : Int) == 1) = true from rfl, show (true && true) = true from rfl, ttt, lzt, Yq F (by omega) hg (by decide) (by decide) (by decide) (by decide), ob]
 rfl
end Go.V.P
set_option linter.unusedVariables false
set_option linter.unusedSimpArgs false
namespace Go.V.P
open Go.V Go.Proofs
theorem oc_ {α β : Type} (x : α) (y : Option β) (f : α → Option β) : Eo (some x) y f = f x := by unfold Eo; rfl
def Tot {α : Type} (o : Option α) (Q : α → Prop) : Prop := ∃ r, o = some r ∧ Q r
section
variable {α β : Type} {Q : β → Prop} {P : α → Prop}
theorem bZ {x : β} (h : Q x) : Tot (some x) Q := ⟨x, rfl, h⟩
theorem T_eq {a : Option β} {x : β} (e : a = some x) (h : Q x) : Tot a Q := ⟨x, e, h⟩
theorem iR {a : Option α} {f : α → Option β} (h : Tot a P) (h2 : ∀ r, P r → Tot (f r) Q) : Tot (a.bind f) Q := by
 obtain ⟨r, rfl, hr⟩ := h
 rw [ob]; exact h2 r hr
theorem iQ {a : Option α} {x : α} {f : α → Option β} (e : a = some x) (h2 : Tot (f x) Q) : Tot (a.bind f) Q := by rw [e, ob]; exact h2
theorem dF {c : Prop} [Decidable c] {x : Option β} (hc : c) (h : Tot x Q) : Tot (gd c x) Q := by rw [bY hc]; exact h
theorem gJ {b : Bool} {x y : Option β} (h1 : b = true → Tot x Q) (h2 : b = false → Tot y Q) : Tot (bif b then x else y) Q := by
 cases b
 ·rw [cf]; exact h2 rfl
 ·rw [ct]; exact h1 rfl
theorem lC {κ : Type} {k : κ} {f : κ → Option β} (h : Tot (f k) Q) : Tot (jn k f) Q := by rw [jn_]; exact h
theorem tZ [Inhabited α] {b : Bool} {x : Option α} {f : α → Option β} (h : b = true → Tot x P) (h2 : ∀ r, (b = true → P r) → Tot (f r) Q) : Tot ((lz b x).bind f) Q := by
 cases b
 ·rw [lzf, ob]; exact h2 _ (fun h => by cases h)
 ·rw [lzt]; exact iR (h rfl) fun r hr => h2 r fun _ => hr
theorem zn (L : Nat → Int → Option β) (len : Nat) (I : Nat → Prop) (hstep : ∀ n (v : Nat), v < len → I v → (I (v + 1) → Tot (L n ((v + 1 : Nat) : Int)) Q) → Tot (L (n + 1) v) Q) (hend : ∀ n, I len → Tot (L (n + 1) len) Q) : ∀ (n v : Nat), v ≤ len → len - v < n → I v → Tot (L n v) Q := by
 intro n
 induction n with
 | zero => intro v h1 h2; omega
 | succ n ih =>
  intro v h1 h2 hI
  by_cases hv : v < len
  ·exact hstep n v hv hI fun h => ih (v + 1) (by omega) (by omega) h
  ·have : v = len := by omega
   subst this
   exact hend n hI
theorem lu {σ : Type} (L : Nat → Int → σ → Option β) (len : Nat) (I : Nat → σ → Prop) (hstep : ∀ n (v : Nat) s, v < len → I v s → (∀ s', I (v + 1) s' → Tot (L n ((v + 1 : Nat) : Int) s') Q) → Tot (L (n + 1) v s) Q) (hend : ∀ n s, I len s → Tot (L (n + 1) len s) Q) : ∀ (n v : Nat) (s : σ), v ≤ len → len - v < n → I v s → Tot (L n v s) Q := by
 intro n
 induction n with
 | zero => intro v s h1 h2; omega
 | succ n ih =>
  intro v s h1 h2 hI
  by_cases hv : v < len
  ·exact hstep n v s hv hI fun s' h => ih (v + 1) s' (by omega) (by omega) h
  ·have : v = len := by omega
   subst this
   exact hend n s hI
end
def KH (c : dS) : Bool := (c.xType == 0) && ((c.iG == 0) && ((c.kS == 0) && ((c.gI == 0) && true)))
theorem wz (F : Nat) (c : dS) : jq F c = some (KH c) := rfl
theorem KI (F : Nat) (c : dS) : Tot (oO F c) fun _ => True := by
 unfold oO
 refine iQ (wz F c) (gJ (fun _ => bZ trivial) fun _ => ?_)
 refine iQ rfl (tZ (P := fun _ => True) (fun _ => T_eq rfl trivial) fun _ _ => tZ (P := fun _ => True) (fun _ => T_eq rfl trivial) fun _ _ => tZ (P := fun _ => True) (fun _ => T_eq rfl trivial) fun _ _ => tZ (P := fun _ => True) (fun _ => T_eq rfl trivial) fun _ _ => bZ trivial)
def KJ (s : aI) (a : Int) : Bool := (decide (0 ≤ a) && decide (a < ((s.aA.length : Nat) : Int))) && ((nth s.aA a).xType != 0)
theorem KL (F : Nat) (s : aI) (a : Int) : fD F s a = some (KJ s a) := by
 unfold fD
 rw [bY (fun h => by simpa [ix] using h)]
 rfl
theorem D9 {s : aI} {a : Int} (h : KJ s a = true) : ix s.aA a := by
 unfold KJ at h
 simp only [Bool.and_eq_true, decide_eq_true_eq] at h
 exact h.1
def aaj (x : aZ) : Prop := (KH x.gY = true → x.xUp = -1) ∧ (KH x.gY = false → -1 ≤ x.xUp)
theorem Yz (F : Nat) (s : aI) (hs : s.ay.length ≤ 1000) (hF : s.ay.length < F) : Tot (kV F s) fun b => b = true → ∀ i : Nat, i < s.ay.length → aaj (nth s.ay (i : Int)) := by
 unfold kV
 refine lC ?_
 refine zn (fun n v => fF F s _ n v) s.ay.length (fun v => ∀ i : Nat, i < v → aaj (nth s.ay (i : Int))) (fun n v hv hI hk => ?_) (fun n hI => ?_) F 0 (by omega) (by omega) (fun i h => by omega)
 ·show Tot (fF F s _ (n + 1) v) _
  unfold fF
  rw [dlt hv, ct]
  refine dF ⟨by omega, by omega⟩ (iR (KI F _) fun b _ => gJ (fun _ => bZ (fun h => by cases h)) fun _ => lC ?_)
  refine iQ (wz F _) ?_
  have rest : ∀ v39 : Bool, (v39 = false → aaj (nth s.ay (v : Int))) → Tot (bif v39 then some false else (jq F ((nth s.ay v).gY)).bind fun x42 => (lz (((!x42) == true)) (fD F s ((nth s.ay v).gY.iG))).bind fun x43 => gd (((!x42) == true) = true → (!x43) = false → ix s.aA ((nth s.ay v).gY.iG)) ((bif ((!x42) && ((!x43) || ((nth s.aA ((nth s.ay v).gY.iG)).xType != (nth s.ay v).gY.xType))) then some false else gd (inI ((v : Int) + (1 : Int))) (fF F s (fun _ => some true) n ((v : Int) + (1 : Int))))))
    (fun b => b = true → ∀ i : Nat, i < s.ay.length → aaj (nth s.ay (i : Int))) := by
   intro b hb
   refine gJ (fun _ => bZ (fun h => by cases h)) fun hbf => iQ (wz F _) ?_
   refine tZ (P := fun b => b = KJ s _) (fun _ => T_eq (KL F s _) rfl) fun x43 hx => ?_
   refine dF (fun h1 h2 => D9 (hx h1 ▸ by simpa using h2)) (gJ (fun _ => bZ (fun h => by cases h)) fun _ => dF ⟨by omega, by omega⟩ ?_)
   rw [cs]
   refine hk fun i hi => ?_
   by_cases h : i < v
   ·exact hI i h
   ·obtain rfl : i = v := by omega
    exact hb hbf
  refine gJ (fun h => rest _ fun h2 => ?_) fun h => iQ (wz F _) (rest _ fun h2 => ?_)
  ·rw [h] at h2; cases h2
  ·refine ⟨fun h3 => ?_, fun h3 => ?_⟩
   ·rw [h3] at h; simpa using h
   ·rw [h3] at h2; simp at h2; omega
 ·show Tot (fF F s _ (n + 1) _) _
  unfold fF
  rw [dge, cf]
  exact bZ fun _ => hI
end Go.V.P
set_option linter.unusedVariables false
set_option linter.unusedSimpArgs false
namespace Go.V.P
open Go.V Go.Proofs
def CJ (t : aH) : Prop := t.xType = 2 → 1 ≤ t.iY ∧ t.iY ≤ 4 ∧ 0 ≤ t.jw ∧ t.jw ≤ 96
theorem PK {n : Int} (h1 : 1 ≤ n) (h2 : n ≤ 4) : 2 ≤ pF .i64 (1 : Int) n ∧ pF .i64 (1 : Int) n ≤ 16 := by
 have : n = 1 ∨ n = 2 ∨ n = 3 ∨ n = 4 := by omega
 rcases this with rfl | rfl | rfl | rfl <;> decide
theorem KN (F : Nat) (a b c : Int) : nJ F a b c = some (decide (b ≤ a) && decide (a ≤ c)) := rfl
theorem WX (F : Nat) (t : aH) : Tot (qY F t) fun _ => True := by
 unfold qY
 refine gJ (fun _ => bZ trivial) fun _ => gJ (fun _ => bZ trivial) fun _ => gJ (fun _ => gJ (fun _ => bZ trivial) fun _ => bZ trivial) fun _ => gJ (fun _ => bZ trivial) fun _ => gJ (fun _ => bZ trivial) fun _ => bZ trivial
theorem E8 (F : Nat) (t : aH) : Tot (jH F t) fun b => b = true → CJ t := by
 unfold jH
 refine iR (WX F t) fun x _ => gJ (fun _ => bZ fun h => by cases h) fun _ => gJ (fun h => ?_) fun _ => gJ (fun h => ?_) fun h2 => gJ (fun _ => ?_) fun _ => ?_
 ·refine iQ (KN ..) (tZ (P := fun _ => True) (fun _ => T_eq (KN ..) trivial) fun _ _ => bZ fun _ h2 => ?_)
  rw [beq_iff_eq] at h; omega
 ·refine iQ (KN ..) ?_
  by_cases hb : 1 ≤ t.iY ∧ t.iY ≤ 4
  ·have hi := PK hb.1 hb.2
   refine dF (fun _ => by omega) (dF (fun _ => ⟨by omega, by omega⟩) (tZ (P := fun b => b = true → 0 ≤ t.jw ∧ t.jw ≤ 96) (fun _ => T_eq (KN ..) fun h => ?_) fun r hr => bZ fun h3 _ => ?_))
   ·simp only [Bool.and_eq_true, decide_eq_true_eq] at h; omega
   ·simp only [Bool.and_eq_true, decide_eq_true_eq] at h3
    have := hr (by simp [hb.1, hb.2]) h3.2
    exact ⟨hb.1, hb.2, this.1, this.2⟩
  ·have hf : (decide (1 ≤ t.iY) && decide (t.iY ≤ 4)) = false := by
    cases hc : (decide (1 ≤ t.iY) && decide (t.iY ≤ 4)) with
    | false => rfl
    | true => exact absurd (by simpa using hc) hb
   rw [hf]
   exact dF (fun h => by cases h) (dF (fun h => by cases h) (tZ (P := fun _ => True) (fun h => by cases h) fun r _ => bZ fun h => by cases h))
 ·refine iQ (KN ..) (tZ (P := fun _ => True) (fun _ => T_eq (KN ..) trivial) fun _ _ => bZ fun _ h3 => ?_)
  rw [h3] at h2; cases h2
 ·refine bZ fun _ h3 => ?_
  rw [h3] at h2; cases h2
def Ij (s : aI) : Prop := GG s.bH ∧ s.ay.length = s.bH.ay.toNat ∧ s.aA.length = s.bH.aA.toNat
theorem Ij.s {s : aI} (h : Ij s) : s.ay.length ≤ 96 ∧ s.aA.length ≤ 48 := by
 obtain ⟨⟨h1, h2, h3, h4, h5, h6, h7⟩, h8, h9⟩ := h
 omega
theorem Um (F : Nat) (hF : 100 ≤ F) (s : aI) (hs : Ij s) : Tot (jO F s) fun b => b = true → ∀ i : Nat, i < s.aA.length → CJ (nth s.aA (i : Int)) := by
 obtain ⟨hs1, hs2⟩ := hs.s
 have hg := hs.1
 have t1 := hg.t1; have t2 := hg.t2
 unfold jO
 refine lC ?_
 refine zn (fun n v => fC F s _ n v) s.aA.length (fun v => ∀ i : Nat, i < v → CJ (nth s.aA (i : Int))) (fun n v hv hI hk => ?_) (fun n hI => ?_) F 0 (by omega) (by omega) (fun i h => by omega)
 ·show Tot (fC F s _ (n + 1) v) _
  unfold fC
  rw [dlt hv, ct]
  refine dF ⟨by omega, by omega⟩ (iR (E8 F _) fun b hb => gJ (fun _ => bZ (fun h => by cases h)) fun hb1 => ?_)
  have acM : CJ (nth s.aA (v : Int)) := hb (by simpa using hb1)
  refine dF (fun h1 h2 => ?_) (dF (fun h1 h2 => ?_) (tZ (P := fun _ => True) (fun _ => T_eq (wz F _) trivial) fun x41 _ => gJ (fun _ => bZ (fun h => by cases h)) fun _ => dF (fun h => ⟨by omega, by omega⟩) (dF (fun h => ⟨by omega, by omega⟩) (tZ (P := fun _ => True) (fun h => ?_) fun x45 _ => gJ (fun _ => bZ (fun h => by cases h)) fun _ => tZ (P := fun _ => True) (fun h => T_eq (KA F (by omega) s (by omega) _) trivial) fun x47 _ => gJ (fun _ => bZ (fun h => by cases h)) fun _ => dF ⟨by omega, by omega⟩ ?_))))
  ·simp only [beq_iff_eq, decide_eq_true_eq, decide_eq_false_iff_not] at h1 h2
   exact ⟨by omega, by omega⟩
  ·simp only [beq_iff_eq, decide_eq_true_eq, decide_eq_false_iff_not] at h1 h2
   exact ⟨by omega, by omega⟩
  ·simp only [Bool.and_eq_true, beq_iff_eq, decide_eq_true_eq] at h
   exact T_eq (Gh F hg (by omega) (by omega)) trivial
  ·rw [cs]
   refine hk fun i hi => ?_
   by_cases h : i < v
   ·exact hI i h
   ·obtain rfl : i = v := by omega
    exact acM
 ·show Tot (fC F s _ (n + 1) _) _
  unfold fC
  rw [dge, cf]
  exact bZ fun _ => hI
theorem WY (F : Nat) (hF : 100 ≤ F) (s : aI) (hs : Ij s) (ht : ∀ i : Nat, i < s.aA.length → CJ (nth s.aA (i : Int))) : Tot (kD F s) fun _ => True := by
 obtain ⟨hs1, hs2⟩ := hs.s
 unfold kD
 refine dF ⟨by omega, by omega, by omega, by omega⟩ (lC ?_)
 refine lu (fun n v l => fA F s _ n v l) s.aA.length (fun v l => l.length = s.ay.length) (fun n v l hv hI hk => ?_) (fun n l hI => ?_) F 0 _ (by omega) (by omega) (by simp)
 ·show Tot (fA F s _ (n + 1) v l) _
  unfold fA
  rw [dlt hv, ct]
  refine lC (dF ⟨by omega, by omega⟩ (gJ (fun _ => dF ⟨by omega, by omega⟩ (by rw [cs]; exact hk l hI)) fun hne => ?_))
  have h2 : (nth s.aA (v : Int)).xType = 2 := by simpa using hne
  obtain ⟨b1, b2, b3, b4⟩ := ht v hv h2
  have hi := PK b1 b2
  refine dF (by omega) ?_
  refine lu (fun n w l => eY F s v _ n w l) (pF .i64 (1 : Int) (nth s.aA (v : Int)).iY).toNat (fun w l => l.length = s.ay.length) (fun n w l hw hI hk2 => ?_) (fun n l hI => ?_) F 0 _ (by omega) (by omega) hI
  ·show Tot (eY F s v _ (n + 1) w l) _
   unfold eY
   rw [decide_eq_true (by omega : (w : Int) < pF .i64 (1 : Int) (nth s.aA (v : Int)).iY), ct]
   refine dF ⟨by omega, by omega⟩ (dF (fun h => ?_) (gJ (fun _ => bZ trivial) fun h => dF ?_ (dF ⟨by omega, by omega⟩ ?_)))
   ·simp only [decide_eq_false_iff_not] at h
    exact ⟨by omega, by omega⟩
   ·simp only [Bool.or_eq_false_iff, decide_eq_false_iff_not] at h
    exact ⟨by omega, by omega⟩
   ·rw [cs]
    exact hk2 _ (by rw [aj]; exact hI)
  ·show Tot (eY F s v _ (n + 1) _ l) _
   unfold eY
   rw [decide_eq_false (by omega : ¬ (((pF .i64 (1 : Int) (nth s.aA (v : Int)).iY).toNat : Nat) : Int) < pF .i64 (1 : Int) (nth s.aA (v : Int)).iY), cf]
   exact dF ⟨by omega, by omega⟩ (by rw [cs]; exact hk l hI)
 ·show Tot (fA F s _ (n + 1) _ l) _
  unfold fA
  rw [dge, cf]
  refine lC ?_
  refine zn (fun n v => fJ F s l _ n v) s.ay.length (fun _ => True) (fun n v hv _ hk => ?_) (fun n _ => ?_) F 0 (by omega) (by omega) trivial
  ·show Tot (fJ F s l _ (n + 1) v) _
   unfold fJ
   rw [dlt hv, ct]
   refine dF ⟨by omega, by omega⟩ (dF ⟨by omega, by omega⟩ (tZ (P := fun _ => True) (fun _ => T_eq (wz F _) trivial) fun x23 _ => gJ (fun _ => bZ trivial) fun _ => dF ⟨by omega, by omega⟩ (by rw [cs]; exact hk trivial)))
  ·show Tot (fJ F s l _ (n + 1) _) _
   unfold fJ
   rw [dge, cf]
   exact bZ trivial
end Go.V.P
set_option linter.unusedVariables false
set_option linter.unusedSimpArgs false
namespace Go.V.P
open Go.V Go.Proofs
def PL (s : aI) : Prop := ∀ i : Nat, i < s.aA.length → CJ (nth s.aA (i : Int))
theorem PL.at {s : aI} (h : PL s) {a : Int} (ha : ix s.aA a) : CJ (nth s.aA a) := by
 have := h a.toNat (by have := ha.1; have := ha.2; omega)
 rwa [show ((a.toNat : Nat) : Int) = a by have := ha.1; omega] at this
theorem VT (F : Nat) {t : aH} (h : CJ t) (a : Int) : Tot (uq F t a) fun _ => True := by
 unfold uq
 refine dF (fun h1 => ?_) (dF (fun h1 => ?_) (bZ trivial))
 ·simp only [Bool.and_eq_true, beq_iff_eq] at h1
  have := h h1.1; omega
 ·simp only [Bool.and_eq_true, beq_iff_eq] at h1
  obtain ⟨b1, b2, b3, b4⟩ := h h1.1
  have := PK b1 b2
  exact ⟨by omega, by omega⟩
theorem WZ (F : Nat) (hF : 100 ≤ F) {s : aI} (hs : s.aA.length ≤ 48) (h : PL s) (a : Int) : Tot (mX F s a) fun _ => True := by
 unfold mX jY
 refine iR (P := fun _ => True) (lC ?_) fun _ _ => bZ trivial
 refine zn (fun n v => dV F s.aA _ _ n v) s.aA.length (fun _ => True) (fun n v hv _ hk => ?_) (fun n _ => ?_) F 0 (by omega) (by omega) trivial
 ·show Tot (dV F s.aA _ _ (n + 1) v) _
  unfold dV
  rw [dlt hv, ct]
  refine dF ⟨by omega, by omega⟩ (iR (P := fun _ => True) ?_ fun x _ => gJ (fun _ => bZ trivial) fun _ => dF ⟨by omega, by omega⟩ (by rw [cs]; exact hk trivial))
  unfold lJ
  exact iR (VT F (h v hv) a) fun _ _ => bZ trivial
 ·show Tot (dV F s.aA _ _ (n + 1) _) _
  unfold dV
  rw [dge, cf]
  exact bZ trivial
def left (L : Nat) (m : List Int) : Nat := ((List.range L).filter fun i : Nat => !m.contains (i : Int)).length
theorem left_le (L : Nat) (m : List Int) : left L m ≤ L := Nat.le_trans (List.length_filter_le _ _) (by simp)
theorem W9 (L : Nat) {m m' : List Int} (h : ∀ x, m.contains x = true → m'.contains x = true) : left L m' ≤ left L m := by
 unfold left
 generalize List.range L = l
 induction l with
 | nil => simp
 | cons a l ih =>
  simp only [List.filter_cons]
  cases h1 : m.contains (a : Int) with
  | true => rw [h _ h1]; simpa using ih
  | false =>
   cases h2 : m'.contains (a : Int) with
   | true => simp only [Bool.not_true, Bool.not_false, if_true, Bool.false_eq_true, if_false, List.length_cons]; omega
   | false => simp only [Bool.not_false, if_true, List.length_cons]; omega
theorem aak (L : Nat) {m : List Int} {a : Nat} (ha : a < L) (hm : m.contains (a : Int) = false) : left L (m ++ [(a : Int)]) < left L m := by
 unfold left
 have key : ∀ l : List Nat, a ∈ l → (l.filter fun i : Nat => !(m ++ [(a : Int)]).contains (i : Int)).length < (l.filter fun i : Nat => !m.contains (i : Int)).length ∧ True := by
  intro l
  induction l with
  | nil => intro h; cases h
  | cons b l ih =>
   intro h
   have hle : (l.filter fun i : Nat => !(m ++ [(a : Int)]).contains (i : Int)).length ≤ (l.filter fun i : Nat => !m.contains (i : Int)).length := by
    clear ih h
    induction l with
    | nil => simp
    | cons c l ih =>
     simp only [List.filter_cons]
     cases h1 : m.contains (c : Int) with
     | true => rw [show (m ++ [(a : Int)]).contains (c : Int) = true by simp only [List.contains_append, h1, Bool.true_or]]; simpa using ih
     | false =>
      cases h2 : (m ++ [(a : Int)]).contains (c : Int) with
      | true => simp only [Bool.not_true, Bool.not_false, if_true, Bool.false_eq_true, if_false, List.length_cons]; omega
      | false => simp only [Bool.not_false, if_true, List.length_cons]; omega
   refine ⟨?_, trivial⟩
   by_cases hab : a = b
   ·subst hab
    simp only [List.filter_cons, hm]
    rw [show (m ++ [(a : Int)]).contains (a : Int) = true by simp]
    simp only [Bool.not_true, Bool.not_false, if_true, Bool.false_eq_true, if_false, List.length_cons]; omega
   ·have hin : a ∈ l := by
     rcases List.mem_cons.1 h with h | h
     ·exact absurd h hab
     ·exact h
    have := (ih hin).1
    simp only [List.filter_cons]
    have hne : ((b : Int) == (a : Int)) = false := by rw [beq_eq_false_iff_ne]; omega
    rw [show (m ++ [(a : Int)]).contains (b : Int) = m.contains (b : Int) by simp only [List.contains_append, List.contains_cons, hne, List.contains_nil, Bool.or_false]]
    cases m.contains (b : Int) <;> simp only [Bool.not_true, Bool.not_false, if_true, Bool.false_eq_true, if_false, List.length_cons] <;> omega
 exact (key (List.range L) (by simpa using ha)).1
theorem Un (F : Nat) (hF : 200 ≤ F) {s : aI} (hs : s.ay.length ≤ 100) (h : PL s) : ∀ (D : Nat) (node : Int) (m : List Int), ix s.aA node → left s.aA.length m < D →
  Tot (lK F D s node m) fun r => ∀ x, m.contains x = true → r.contains x = true := by
 intro D
 induction D with
 | zero => intro node m _ h; omega
 | succ D ih =>
  intro node m hn hD
  unfold lK
  refine gJ (fun _ => bZ fun x hx => hx) fun hc => ?_
  have acN : ((node.toNat : Nat) : Int) = node := by have := hn.1; omega
  have hlt := aak s.aA.length (m := m) (a := node.toNat) (by have := hn.1; have := hn.2; omega) (by rw [acN]; exact hc)
  rw [acN] at hlt
  refine lu (fun n v l => jI F s node _ n v l) s.ay.length (fun v l => (∀ x, (m ++ [node]).contains x = true → l.contains x = true)) (fun n v l hv hI hk => ?_) (fun n l hI => ?_) F 0 _ (by omega) (by omega) (fun x hx => hx)
  ·show Tot (jI F s node _ (n + 1) v l) _
   unfold jI
   rw [dlt hv, ct]
   refine lC (dF ⟨by omega, by omega⟩ (dF (fun _ => hn) (tZ (P := fun _ => True) (fun _ => VT F (h.at hn) _) fun x33 _ => tZ (P := fun b => b = KJ s (nth s.ay (v : Int)).gY.iG) (fun _ => T_eq (KL F s _) rfl) fun x34 hx34 => gJ (fun hb => ?_) fun _ => ?_)))
   ·simp only [Bool.and_eq_true] at hb
    have h34 := hx34 (by simp [hb.1.1, hb.1.2])
    rw [hb.2] at h34
    refine iR (ih _ l (D9 h34.symm) (by have := W9 s.aA.length hI; omega)) fun r hr => dF ⟨by omega, by omega⟩ ?_
    rw [cs]
    exact hk r fun x hx => hr x (hI x hx)
   ·refine dF ⟨by omega, by omega⟩ ?_
    rw [cs]
    exact hk l hI
  ·show Tot (jI F s node _ (n + 1) _ l) _
   unfold jI
   rw [dge, cf]
   exact bZ fun x hx => hI x (by rw [List.contains_append, hx, Bool.true_or])
theorem Uo (F : Nat) (hF : 200 ≤ F) {s : aI} (hs : s.ay.length ≤ 100) (hs2 : s.aA.length ≤ 48) (h : PL s) (a b : Int) : Tot (lZ F s a b) fun _ => True := by
 unfold lZ
 refine iQ (KL F s a) (dF (fun h1 => D9 (by simpa using h1)) (gJ (fun _ => bZ trivial) fun h2 => ?_))
 have hin : ix s.aA a := by
  simp only [Bool.or_eq_false_iff] at h2
  exact D9 (by simpa using h2.1)
 unfold xQ
 refine iR (Un F hF hs h F a [] hin (by have := left_le s.aA.length []; omega)) fun r _ => iR (WZ F (by omega) hs2 h b) fun _ _ => bZ trivial
theorem YA (F : Nat) (hF : 200 ≤ F) {s : aI} (hs : s.ay.length ≤ 100) (hs2 : s.aA.length ≤ 48) (h : PL s) : Tot (kW F s) fun _ => True := by
 unfold kW
 refine lC ?_
 refine zn (fun n v => fQ F s _ n v) s.ay.length (fun _ => True) (fun n v hv _ hk => ?_) (fun n _ => ?_) F 0 (by omega) (by omega) trivial
 ·show Tot (fQ F s _ (n + 1) v) _
  unfold fQ
  rw [dlt hv, ct]
  exact dF ⟨by omega, by omega⟩ (tZ (P := fun _ => True) (fun _ => Uo F hF hs hs2 h _ _) fun _ _ => gJ (fun _ => bZ trivial) fun _ => dF ⟨by omega, by omega⟩ (by rw [cs]; exact hk trivial))
 ·show Tot (fQ F s _ (n + 1) _) _
  unfold fQ
  rw [dge, cf]
  exact bZ trivial
end Go.V.P
set_option linter.unusedVariables false
set_option linter.unusedSimpArgs false
namespace Go.V.P
open Go.V Go.Proofs
def fU (s : aI) (i : Nat) : Int := bif KH (nth s.ay (i : Int)).gY then -2 else (nth s.ay (i : Int)).xUp
theorem Xa (F : Nat) (hF : 200 ≤ F) {s : aI} (hs : s.ay.length ≤ 100) : lU F s = some ⟨tab s.ay.length (fU s)⟩ := by
 have : Tot (lU F s) fun r => r = ⟨tab s.ay.length (fU s)⟩ := by
  unfold lU
  refine lC ?_
  refine lu (fun n v l => iw F s _ n v l) s.ay.length (fun v l => l = tab v (fU s)) (fun n v l hv hI hk => ?_) (fun n l hI => ?_) F 0 _ (by omega) (by omega) rfl
  ·show Tot (iw F s _ (n + 1) v l) _
   unfold iw
   rw [dlt hv, ct]
   have hl : l.length = v := by rw [hI, aP]
   have rest : ∀ y : Int, y = fU s v → Tot (gd ((l.length + ([y] : List Int).length) * 8 ≤ 140737488355328) (gd (inI ((v : Int) + (1 : Int))) (iw F s (fun v1 => some ⟨v1⟩) n ((v : Int) + (1 : Int)) (l ++ ([y] : List Int))))) fun r => r = ⟨tab s.ay.length (fU s)⟩ := by
    intro y hy
    refine dF (by simp only [List.length_cons, List.length_nil]; omega) (dF ⟨by omega, by omega⟩ ?_)
    rw [cs]
    exact hk _ (by rw [hI, hy, oG])
   refine dF ⟨by omega, by omega⟩ (lC (iQ (wz F _) (gJ (fun h => rest _ ?_) fun h => rest _ ?_)))
   ·unfold fU; rw [h]; rfl
   ·unfold fU; rw [h]; rfl
  ·show Tot (iw F s _ (n + 1) _ l) _
   unfold iw
   rw [dge, cf]
   exact bZ (by rw [hI])
 obtain ⟨r, h1, h2⟩ := this
 rw [h1, h2]
def isB (l : List Int) (a : Int) : Bool := (decide (0 ≤ a) && decide (a < ((l.length : Nat) : Int))) && (nth l a != (-2 : Int))
theorem YB (F : Nat) (f : iF) (a : Int) : iD F f a = some (isB f.xUp a) := by
 unfold iD
 rw [bY (fun h => by simpa [ix] using h)]
 rfl
theorem YC {l : List Int} {a : Int} (h : isB l a = true) : ix l a ∧ nth l a ≠ -2 := by
 unfold isB at h
 simp only [Bool.and_eq_true, decide_eq_true_eq, bne_iff_ne, ne_eq] at h
 exact h
theorem Ur (F : Nat) (hF : 200 ≤ F) (f : iF) : Tot (oP F f) fun b => b = true → ∀ i : Nat, i < f.xUp.length → nth f.xUp (i : Int) = -2 ∨ nth f.xUp (i : Int) = -1 ∨ isB f.xUp (nth f.xUp (i : Int)) = true := by
 unfold oP
 refine gJ (fun _ => bZ fun h => by cases h) fun hlen => lC ?_
 have hl : f.xUp.length ≤ 96 := by simp only [decide_eq_false_iff_not] at hlen; omega
 refine zn (fun n v => iT F f _ n v) f.xUp.length (fun v => ∀ i : Nat, i < v → nth f.xUp (i : Int) = -2 ∨ nth f.xUp (i : Int) = -1 ∨ isB f.xUp (nth f.xUp (i : Int)) = true) (fun n v hv hI hk => ?_) (fun n hI => ?_) F 0 (by omega) (by omega) (fun i h => by omega)
 ·show Tot (iT F f _ (n + 1) v) _
  unfold iT
  rw [dlt hv, ct]
  refine dF ⟨by omega, by omega⟩ (tZ (P := fun b => b = isB f.xUp (nth f.xUp (v : Int))) (fun _ => T_eq (YB F f _) rfl) fun x91 hx => gJ (fun _ => bZ fun h => by cases h) fun h2 => dF ⟨by omega, by omega⟩ ?_)
  rw [cs]
  refine hk fun i hi => ?_
  by_cases h : i < v
  ·exact hI i h
  ·obtain rfl : i = v := by omega
   by_cases h3 : nth f.xUp (i : Int) = -2
   ·exact .inl h3
   ·by_cases h4 : nth f.xUp (i : Int) = -1
    ·exact .inr (.inl h4)
    ·have h5 : ((nth f.xUp (i : Int) != -2) && (nth f.xUp (i : Int) != -1)) = true := by simp [h3, h4]
     have h6 := hx (by rw [h5]; rfl)
     rw [h5, Bool.true_and] at h2
     exact .inr (.inr (by rw [← h6]; simpa using h2))
 ·show Tot (iT F f _ (n + 1) _) _
  unfold iT
  rw [dge, cf]
  refine lC ?_
  refine zn (fun n v => iU F f _ n v) f.xUp.length (fun _ => True) (fun n v hv _ hk => ?_) (fun n _ => ?_) F 0 (by omega) (by omega) trivial
  ·show Tot (iU F f _ (n + 1) v) _
   unfold iU
   rw [dlt hv, ct]
   refine lC ?_
   refine lu (fun n d a => fG F f _ n d a) (f.xUp.length + 1) (fun _ _ => True) (fun n d a hd _ hk2 => ?_) (fun n a _ => ?_) F 0 _ (by omega) (by omega) trivial
   ·show Tot (fG F f _ (n + 1) d a) _
    unfold fG
    refine iQ (YB F f a) (gJ (fun h => gJ (fun _ => bZ fun h => by cases h) fun _ => dF ⟨by omega, by omega⟩ (dF (YC h).1 (by rw [cs]; exact hk2 _ trivial))) fun _ => ?_)
    exact dF ⟨by omega, by omega⟩ (by rw [cs]; exact hk trivial)
   ·show Tot (fG F f _ (n + 1) _ a) _
    unfold fG
    refine iQ (YB F f a) (gJ (fun h => gJ (fun _ => bZ fun h => by cases h) fun hh => ?_) fun _ => ?_)
    ·simp only [decide_eq_false_iff_not] at hh; omega
    ·exact dF ⟨by omega, by omega⟩ (by rw [cs]; exact hk trivial)
  ·show Tot (iU F f _ (n + 1) _) _
   unfold iU
   rw [dge, cf]
   exact bZ fun _ => hI
theorem Gq (F : Nat) (a : Int) : Tot (vI F a) fun _ => True := by
 unfold vI
 exact iQ rfl (gJ (fun _ => bZ trivial) fun _ => bZ trivial)
theorem PN (F : Nat) (a b : Int) : Tot (rF F a b) fun _ => True := by
 unfold rF xk
 exact iR (P := fun _ => True) (iR (Gq F _) fun _ _ => iR (Gq F _) fun _ _ => bZ trivial) fun _ _ => bZ trivial
theorem YD (F : Nat) (a b : dS) : Tot (vH F a b) fun _ => True := by
 unfold vH
 exact iQ (wz F a) (gJ (fun _ => bZ trivial) fun _ => tZ (P := fun _ => True) (fun _ => PN F _ _) fun _ _ => bZ trivial)
def abn (s : aI) (a : Int) : Prop := a < 0 ∨ (ix s.ay a ∧ KH (nth s.ay a).gY = false)
theorem Rz (F : Nat) (hF : 200 ≤ F) {s : aI} (hs : s.ay.length ≤ 100) (h : ∀ i : Nat, i < s.ay.length → abn s (nth s.ay (i : Int)).xUp) : Tot (jG F s) fun _ => True := by
 unfold jG
 refine lC ?_
 refine zn (fun n v => dX F s _ n v) s.ay.length (fun _ => True) (fun n v hv _ hk => ?_) (fun n _ => ?_) F 0 (by omega) (by omega) trivial
 ·show Tot (dX F s _ (n + 1) v) _
  unfold dX
  rw [dlt hv, ct]
  have hk' : Tot (gd (inI ((v : Int) + 1)) (dX F s (fun _ => some true) n ((v : Int) + 1))) fun _ => True := dF ⟨by omega, by omega⟩ (by rw [cs]; exact hk trivial)
  refine lC (dF ⟨by omega, by omega⟩ ?_)
  refine lu (fun n w a => dQ F s v _ n a w) s.ay.length (fun _ a => abn s a) (fun n w a hw ha hk2 => ?_) (fun n a _ => ?_) F 0 _ (by omega) (by omega) (h v hv)
  ·show Tot (dQ F s v _ (n + 1) a w) _
   unfold dQ
   rw [dlt hw, ct]
   refine gJ (fun _ => hk') fun hneg => ?_
   have hix : ix s.ay a := by
    rcases ha with ha | ha
    ·simp only [decide_eq_false_iff_not] at hneg; omega
    ·exact ha.1
   refine dF hix (iR (YD F _ _) fun x83 _ => gJ (fun _ => bZ trivial) fun _ => dF ⟨by omega, by omega⟩ ?_)
   rw [cs]
   have := h a.toNat (by have := hix.1; have := hix.2; omega)
   rw [show ((a.toNat : Nat) : Int) = a by have := hix.1; omega] at this
   exact hk2 _ this
  ·show Tot (dQ F s v _ (n + 1) a _) _
   unfold dQ
   rw [dge, cf]
   exact hk'
 ·show Tot (dX F s _ (n + 1) _) _
  unfold dX
  rw [dge, cf]
  exact bZ trivial
theorem CO (F : Nat) (hF : 200 ≤ F) (s : aI) : Tot (oH F s) fun b => b = true → Ij s ∧ PL s ∧ ∀ i : Nat, i < s.ay.length → -1 ≤ (nth s.ay (i : Int)).xUp ∧ (nth s.ay (i : Int)).xUp < 97 := by
 unfold oH
 by_cases hg : GG s.bH
 ·refine iQ (lT F hg) (gJ (fun _ => bZ fun h => by cases h) fun h => ?_)
  have hsz : Ij s := by
   have h1 := hg.t1; have h2 := hg.s1; have h3 := hg.h1
   simp only [Bool.not_true, Bool.false_or, Bool.or_eq_false_iff, bne_eq_false_iff_eq] at h
   exact ⟨hg, by omega, by omega⟩
  obtain ⟨hs1, hs2⟩ := hsz.s
  refine iR (Yz F s (by omega) (by omega)) fun x3 h3 => ?_
  refine tZ (P := fun b => b = true → PL s) (fun _ => Um F (by omega) s hsz) fun x4 h4 => ?_
  have ht : (x3 && x4) = true → PL s := fun h => by
   simp only [Bool.and_eq_true] at h
   exact h4 (by rw [h.1]; rfl) h.2
  refine tZ (P := fun _ => True) (fun h => WY F (by omega) s hsz (ht (by simpa using h))) fun x5 _ => ?_
  refine tZ (P := fun _ => True) (fun h => YA F hF (by omega) (by omega) (ht (by simp only [beq_iff_eq, Bool.and_eq_true] at h ⊢; exact h.1))) fun x6 _ => ?_
  refine tZ (P := fun f => f = (⟨tab s.ay.length (fU s)⟩ : iF)) (fun _ => T_eq (Xa F hF (by omega)) rfl) fun x7 h7 => ?_
  refine tZ (P := fun b => b = true → ∀ i : Nat, i < x7.xUp.length → nth x7.xUp (i : Int) = -2 ∨ nth x7.xUp (i : Int) = -1 ∨ isB x7.xUp (nth x7.xUp (i : Int)) = true) (fun _ => Ur F hF x7) fun x8 h8 => ?_
  have hat : (((((x3 && x4) && x5) && (!x6)) && x8) == true) = true → ∀ i : Nat, i < s.ay.length → abn s (nth s.ay (i : Int)).xUp ∧ -1 ≤ (nth s.ay (i : Int)).xUp ∧ (nth s.ay (i : Int)).xUp < 97 := by
   intro h i hi
   have hh : ((((x3 && x4) && x5) && (!x6)) == true) = true := by
    simp only [beq_iff_eq, Bool.and_eq_true] at h ⊢; exact h.1
   have h8' := h8 hh (by simp only [beq_iff_eq, Bool.and_eq_true] at h; exact h.2)
   have hup := h3 (by simp only [beq_iff_eq, Bool.and_eq_true] at hh; exact hh.1.1.1) i hi
   rw [h7 hh] at h8'
   simp only [aP] at h8'
   have := h8' i hi
   rw [dU hi] at this
   cases hn : KH (nth s.ay (i : Int)).gY with
   | true =>
    have h1 := hup.1 hn
    exact ⟨.inl (by omega), by omega, by omega⟩
   | false =>
    have hge := hup.2 hn
    have hf : fU s i = (nth s.ay (i : Int)).xUp := by unfold fU; rw [hn]; rfl
    rw [hf] at this
    rcases this with h | h | h
    ·omega
    ·exact ⟨.inl (by omega), by omega, by omega⟩
    ·obtain ⟨a1, a2⟩ := YC h
     have a1' : 0 ≤ (nth s.ay (i : Int)).xUp ∧ (nth s.ay (i : Int)).xUp < (s.ay.length : Nat) := by
      have := a1.2; rw [aP] at this; exact ⟨a1.1, this⟩
     refine ⟨.inr ⟨a1', ?_⟩, by omega, by omega⟩
     rw [tC a1'.1 (by omega)] at a2
     cases hc : KH (nth s.ay (nth s.ay (i : Int)).xUp).gY with
     | false => rfl
     | true =>
      exfalso; apply a2
      unfold fU
      rw [show ((((nth s.ay (i : Int)).xUp).toNat : Nat) : Int) = (nth s.ay (i : Int)).xUp by omega, hc]; rfl
  refine tZ (P := fun _ => True) (fun h => Rz F hF (by omega) fun i hi => (hat h i hi).1) fun x9 _ => bZ fun h => ⟨hsz, ?_, ?_⟩
  ·simp only [Bool.and_eq_true] at h
   exact ht (by simp [h.1.1.1.1.1, h.1.1.1.1.2])
  ·simp only [Bool.and_eq_true] at h
   intro i hi
   exact (hat (by simp only [beq_iff_eq, Bool.and_eq_true]; exact h.1) i hi).2
 ·refine iQ (Pv F hg) (gJ (fun _ => bZ fun h => by cases h) fun h => ?_)
  cases h
end Go.V.P
set_option linter.unusedVariables false
set_option linter.unusedSimpArgs false
namespace Go.V.P
open Go.V Go.Proofs
theorem Us {n : Nat} (h : n < 18446744073709551616) : IntKind.u64.wrap (n : Int) = n := by rw [IntKind.wrap_u64]; omega
theorem aal {n : Nat} (h : n < 18446744073709551616) : (BitVec.ofInt 64 (n : Int)).toNat = n := by
 rw [BitVec.toNat_ofInt]; omega
theorem abo {a b : Nat} (ha : a < 18446744073709551616) (hb : b < 18446744073709551616) : tN .u64 (a : Int) (b : Int) = ((a &&& b : Nat) : Int) := by
 show IntKind.u64.wrap (((BitVec.ofInt 64 (a : Int) &&& BitVec.ofInt 64 (b : Int)).toNat : Nat) : Int) = _
 rw [BitVec.toNat_and, aal ha, aal hb]
 exact Us (Nat.lt_of_le_of_lt Nat.and_le_left ha)
theorem VU {a b : Nat} (ha : a < 18446744073709551616) (hb : b < 18446744073709551616) : ior .u64 (a : Int) (b : Int) = ((a ||| b : Nat) : Int) := by
 show IntKind.u64.wrap (((BitVec.ofInt 64 (a : Int) ||| BitVec.ofInt 64 (b : Int)).toNat : Nat) : Int) = _
 rw [BitVec.toNat_or, aal ha, aal hb]
 exact Us (Nat.or_lt_two_pow (n := 64) ha hb)
theorem abp {a n : Nat} (h : n ≤ 64) : kL .u64 (a : Int) (n : Int) = ((a / 2 ^ n : Nat) : Int) := by
 show Int.fdiv (a : Int) (2 ^ (min ((n : Int).toNat) 64)) = _
 rw [show min ((n : Int).toNat) 64 = n by omega, show ((2 : Int) ^ n) = ((2 ^ n : Nat) : Int) by simp, Int.fdiv_eq_ediv_of_nonneg _ (Int.natCast_nonneg _)]
 rfl
theorem PO {a n : Nat} (h : n ≤ 64) (h2 : a * 2 ^ n < 18446744073709551616) : pF .u64 (a : Int) (n : Int) = ((a * 2 ^ n : Nat) : Int) := by
 show IntKind.u64.wrap ((a : Int) * 2 ^ (min ((n : Int).toNat) 64)) = _
 rw [show min ((n : Int).toNat) 64 = n by omega, show ((a : Int) * (2 : Int) ^ n) = ((a * 2 ^ n : Nat) : Int) by simp]
 exact Us h2
theorem field_n {w a l : Nat} (hw : w < 18446744073709551616) (h : a ≤ 64) (hm : (2 ^ l - 1) * 2 ^ a < 18446744073709551616) : kL .u64 (tN .u64 (w : Int) (((2 ^ l - 1) * 2 ^ a : Nat) : Int)) (a : Int) = ((w / 2 ^ a % 2 ^ l : Nat) : Int) := by
 rw [abo hw hm, abp h]
 congr 1
 rw [← Nat.shiftRight_eq_div_pow, Nat.shiftRight_and_distrib, ← Nat.shiftLeft_eq, Nat.shiftLeft_shiftRight, Nat.and_two_pow_sub_one_eq_mod, Nat.shiftRight_eq_div_pow]
theorem Ut {x y a : Nat} (h : x < 2 ^ a) : x ||| (y * 2 ^ a) = x + y * 2 ^ a := by
 rw [Nat.or_comm, ← Nat.shiftLeft_eq, ← Nat.shiftLeft_add_eq_or_of_lt h, Nat.shiftLeft_eq, Nat.add_comm]
noncomputable def mk (f : aU) : Int := pF .u64 (IntKind.u64.wrap ((pF .u64 (1 : Int) f.Ik) - (1 : Int))) f.eH
theorem PS (F : Nat) {f : aU} (h1 : 0 ≤ f.Ik) (h2 : 0 ≤ f.eH) : gW F f = some (mk f) := by
 unfold gW
 rw [bY h1, bY h2]; rfl
def I9 (fs : List aU) : Prop := ∀ i : Nat, i < fs.length → 0 ≤ (nth fs (i : Int)).eH ∧ 0 ≤ (nth fs (i : Int)).Ik
theorem Aq (F : Nat) {fs : List aU} (hg : fE F fs = some true) (hf : I9 fs) (hF : fs.length < F) (hl : fs.length ≤ 100) (w : Int) :
  nH F w fs = some (tab fs.length fun i => kL .u64 (tN .u64 w (mk (nth fs (i : Int)))) (nth fs (i : Int)).eH) := by
 have : Tot (nH F w fs) fun r => r = tab fs.length fun i => kL .u64 (tN .u64 w (mk (nth fs (i : Int)))) (nth fs (i : Int)).eH := by
  unfold nH
  refine iQ hg (gJ (fun h => by cases h) fun _ => dF ⟨by omega, by omega, by omega, by omega⟩ (lC ?_))
  refine lu (fun n v l => jX F w fs _ n v l) fs.length (fun v l => l = tab v fun i => kL .u64 (tN .u64 w (mk (nth fs (i : Int)))) (nth fs (i : Int)).eH) (fun n v l hv hI hk => ?_) (fun n l hI => ?_) F 0 _ (by omega) (by omega) rfl
  ·show Tot (jX F w fs _ (n + 1) v l) _
   unfold jX
   rw [dlt hv, ct]
   have hlen : l.length = v := by rw [hI, aP]
   refine dF ⟨by omega, by omega⟩ (iQ (PS F (hf v hv).2 (hf v hv).1) (dF (hf v hv).1 (dF (by simp only [List.length_cons, List.length_nil]; omega) (dF ⟨by omega, by omega⟩ ?_))))
   rw [cs]
   exact hk _ (by rw [hI, oG])
  ·show Tot (jX F w fs _ (n + 1) _ l) _
   unfold jX
   rw [dge, cf]
   exact bZ (by rw [hI])
 obtain ⟨r, h1, h2⟩ := this
 rw [h1, h2]
theorem Ja (F : Nat) {fs : List aU} (hg : fE F fs = some true) (hf : I9 fs) (hF : fs.length < F) (hl : fs.length ≤ 100) (vs : List Int) : Tot (jB F fs vs) fun _ => True := by
 unfold jB
 refine iQ hg (gJ (fun _ => bZ trivial) fun h => lC ?_)
 have hlen : vs.length = fs.length := by
  simp only [Bool.or_eq_false_iff, bne_eq_false_iff_eq] at h; omega
 refine lu (fun n v l => fZ F fs vs _ n l v) fs.length (fun _ _ => True) (fun n v l hv _ hk => ?_) (fun n l _ => ?_) F 0 _ (by omega) (by omega) trivial
 ·show Tot (fZ F fs vs _ (n + 1) l v) _
  unfold fZ
  rw [dlt hv, ct]
  refine dF ⟨by omega, by omega⟩ (dF ⟨by omega, by omega⟩ (iQ (PS F (hf v hv).2 (hf v hv).1) (dF (hf v hv).1 (gJ (fun _ => bZ trivial) fun _ => dF ⟨by omega, by omega⟩ (dF (hf v hv).1 (dF ⟨by omega, by omega⟩ ?_))))))
  rw [cs]
  exact hk _ trivial
 ·show Tot (fZ F fs vs _ (n + 1) l _) _
  unfold fZ
  rw [dge, cf]
  exact bZ trivial
theorem PU {fs : List aU} (h : fs.all (fun f => decide (0 ≤ f.eH) && decide (0 ≤ f.Ik)) = true) : I9 fs := by
 intro i hi
 rw [jW fs hi]
 have := List.all_eq_true.1 h _ (List.getElem_mem hi)
 simpa using this
def oF : List aU := [⟨0, 8⟩, ⟨8, 8⟩, ⟨16, 16⟩, ⟨32, 32⟩]
def cF : List aU := [⟨0, 8⟩, ⟨8, 8⟩, ⟨16, 16⟩, ⟨32, 16⟩]
def bF : List aU := [⟨0, 8⟩, ⟨8, 8⟩, ⟨16, 8⟩, ⟨24, 8⟩, ⟨32, 8⟩]
theorem aaR : I9 oF := PU rfl
theorem aaS : I9 cF := PU rfl
theorem YE : I9 bF := PU rfl
theorem Uu : I9 prs := PU rfl
theorem PV (G : Nat) : fE (G + 6) oF = some true := by kernel_rfl
theorem VW (G : Nat) : fE (G + 6) cF = some true := by kernel_rfl
theorem PW (G : Nat) : fE (G + 6) bF = some true := by kernel_rfl
theorem YF (F : Nat) : uK F = some oF := rfl
theorem YG (F : Nat) : sD F = some cF := rfl
theorem up6 {P : Nat → Prop} (h : ∀ G, P (G + 6)) {F : Nat} (hF : 6 ≤ F) : P F := by
 obtain ⟨G, rfl⟩ : ∃ G, F = G + 6 := ⟨F - 6, by omega⟩
 exact h G
theorem YH {F : Nat} (hF : 6 ≤ F) : lQ F = some bF := up6 (P := fun F => lQ F = some bF) byt hF
theorem YI (F : Nat) {fs : List aU} (hg : fE F fs = some true) (w : Int) : Tot (xR F w fs) fun _ => True := by
 unfold fE at hg
 obtain ⟨x, hx, _⟩ := aG hg
 unfold xR
 exact iQ hx (bZ trivial)
theorem RD (F : Nat) (hF : 10 ≤ F) (w : Int) : Tot (rX F w) fun _ => True := by
 unfold rX
 have hg : fE F cF = some true := up6 (P := fun F => fE F cF = some true) VW (by omega)
 refine iQ (YG F) (iQ (Aq F hg aaS (by show 4 < F; omega) (by decide) w) ?_)
 have hl : (tab cF.length fun i => kL .u64 (tN .u64 w (mk (nth cF (i : Int)))) (nth cF (i : Int)).eH).length = 4 := aP _ _
 refine dF ⟨by omega, by omega⟩ (dF ⟨by omega, by omega⟩ (dF ⟨by omega, by omega⟩ (dF ⟨by omega, by omega⟩ (iQ (YG F) (iR (YI F hg w) fun x8 _ => tZ (P := fun _ => True) (fun _ => KI F _) fun x9 _ => gJ (fun _ => bZ trivial) fun _ => bZ trivial)))))
theorem NW (F : Nat) (hF : 10 ≤ F) (t : aH) : Tot (jo F t) fun r => r.length ≤ 8 := by
 unfold jo
 have hb : fE F bF = some true := up6 (P := fun F => fE F bF = some true) PW (by omega)
 have hp : fE F prs = some true := up6 (P := fun F => fE F prs = some true) Cm (by omega)
 refine iR (E8 F t) fun b _ => gJ (fun _ => bZ (by simp)) fun _ => lC ?_
 have rest : ∀ x : Int, Tot (jn (fun (v5 : Int) => (jn (fun (v7 : Int) => (jn (fun (_ : Unit) => some ((([v5, v7, t.lD] : List Int) ++ ([t.dn.c0, t.dn.c1, t.dn.c2, t.dn.c3] : List Int)) ++ ([(0 : Int)] : List Int))) fun k9 => gd ((([v5, v7, t.lD] : List Int).length + ([t.dn.c0, t.dn.c1, t.dn.c2, t.dn.c3] : List Int).length) * 8 ≤ 140737488355328) (gd (((([v5, v7, t.lD] : List Int) ++ ([t.dn.c0, t.dn.c1, t.dn.c2, t.dn.c3] : List Int)).length + ([(0 : Int)] : List Int).length) * 8 ≤ 140737488355328) (k9 ())))) fun k8 => (oQ F ).bind fun x12 => (jB F x12 ([(IntKind.u64.wrap t.mM), (IntKind.u64.wrap t.nK), (IntKind.u64.wrap t.gI)] : List Int)).bind fun x13 => k8 x13.1)) fun k6 => (lQ F ).bind fun x14 => (jB F x14 ([(IntKind.u64.wrap t.xType), (IntKind.u64.wrap t.iY), (IntKind.u64.wrap t.jw), x, (IntKind.u64.wrap t.eH)] : List Int)).bind fun x15 => k6 x15.1) fun r => r.length ≤ 8 := by
  intro x
  refine lC (iQ (YH (by omega)) (iR (Ja F hb YE (by show 5 < F; omega) (by decide) _) fun x15 _ => lC (iQ (CB F) (iR (Ja F hp Uu (by show 3 < F; omega) (by decide) _) fun x13 _ => lC (dF (by simp only [List.length_append, List.length_cons, List.length_nil]; omega) (dF (by simp only [List.length_append, List.length_cons, List.length_nil]; omega) (bZ (by simp))))))))
 exact gJ (fun _ => rest 1) fun _ => rest 0
theorem Uw (F : Nat) (a b : List Int) (hF : a.length < F) (hl : a.length ≤ 1000000) : Tot (je F a b) fun r => r = true → a = b := by
 unfold je
 refine gJ (fun _ => bZ fun h => by cases h) fun hne => lC ?_
 have hlen : a.length = b.length := by simp only [bne_eq_false_iff_eq] at hne; omega
 refine zn (fun n v => eP F a b _ n v) a.length (fun v => ∀ i : Nat, i < v → nth a (i : Int) = nth b (i : Int)) (fun n v hv hI hk => ?_) (fun n hI => ?_) F 0 (by omega) (by omega) (fun i h => by omega)
 ·show Tot (eP F a b _ (n + 1) v) _
  unfold eP
  rw [dlt hv, ct]
  refine dF ⟨by omega, by omega⟩ (dF ⟨by omega, by omega⟩ (gJ (fun _ => bZ fun h => by cases h) fun h => dF ⟨by omega, by omega⟩ ?_))
  rw [cs]
  refine hk fun i hi => ?_
  by_cases hiv : i < v
  ·exact hI i hiv
  ·obtain rfl : i = v := by omega
   simpa using h
 ·show Tot (eP F a b _ (n + 1) _) _
  unfold eP
  rw [dge, cf]
  refine bZ fun _ => List.ext_getElem hlen fun i h1 h2 => ?_
  have := hI i h1
  rw [jW a h1, jW b h2] at this
  exact this
theorem NY (F : Nat) (hF : 20 ≤ F) (l : List Int) : Tot (kG F l) fun _ => True := by
 unfold kG
 have hb : fE F bF = some true := up6 (P := fun F => fE F bF = some true) PW (by omega)
 have hp : fE F prs = some true := up6 (P := fun F => fE F prs = some true) Cm (by omega)
 refine gJ (fun _ => bZ trivial) fun hne => ?_
 have hlen : l.length = 8 := by simp only [bne_eq_false_iff_eq] at hne; omega
 refine dF ⟨by omega, by omega⟩ (iQ (YH (by omega)) (iQ (Aq F hb YE (by show 5 < F; omega) (by decide) _) (dF ⟨by omega, by omega⟩ (iQ (CB F) (iQ (Aq F hp Uu (by show 3 < F; omega) (by decide) _) ?_)))))
 have h5 : ∀ w : Int, (tab bF.length fun i => kL .u64 (tN .u64 w (mk (nth bF (i : Int)))) (nth bF (i : Int)).eH).length = 5 := fun w => aP _ _
 have h3 : ∀ w : Int, (tab prs.length fun i => kL .u64 (tN .u64 w (mk (nth prs (i : Int)))) (nth prs (i : Int)).eH).length = 3 := fun w => aP _ _
 have hc : (cut l (3 : Int) ((l.length : Nat) : Int)).length = 5 := by
  unfold cut; simp [hlen]
 refine dF ⟨by omega, by rw [h5]; omega⟩ (dF ⟨by omega, by rw [h5]; omega⟩ (dF ⟨by omega, by rw [h5]; omega⟩ (dF ⟨by omega, by rw [h5]; omega⟩ (dF ⟨by omega, by rw [h5]; omega⟩ (dF ⟨by omega, by rw [h3]; omega⟩ (dF ⟨by omega, by rw [h3]; omega⟩ (dF ⟨by omega, by rw [h3]; omega⟩ (dF ⟨by omega, by omega⟩ (dF ⟨by omega, by omega, by omega⟩ (dF (by omega) ?_))))))))))
 exact iR (NW F (by omega) _) fun x19 h19 => iR (Uw F x19 l (by omega) (by omega)) fun x20 _ => gJ (fun _ => bZ trivial) fun _ => bZ trivial
end Go.V.P
set_option linter.unusedVariables false
set_option linter.unusedSimpArgs false
namespace Go.V.P
open Go.V Go.Proofs
theorem adM (F : Nat) (hF : 10 ≤ F) {w : Nat} (hw : w < 18446744073709551616) : nH F (w : Int) oF = some [((w % 256 : Nat) : Int), ((w / 256 % 256 : Nat) : Int), ((w / 65536 % 65536 : Nat) : Int), ((w / 4294967296 : Nat) : Int)] := by
 have hg : fE F oF = some true := up6 (P := fun F => fE F oF = some true) PV (by omega)
 rw [Aq F hg aaR (by show 4 < F; omega) (by decide)]
 show some [kL .u64 (tN .u64 (w : Int) (mk ⟨0, 8⟩)) ((0 : Nat) : Int), kL .u64 (tN .u64 (w : Int) (mk ⟨8, 8⟩)) ((8 : Nat) : Int), kL .u64 (tN .u64 (w : Int) (mk ⟨16, 16⟩)) ((16 : Nat) : Int), kL .u64 (tN .u64 (w : Int) (mk ⟨32, 32⟩)) ((32 : Nat) : Int)] = _
 have m0 : mk ⟨0, 8⟩ = (((2 ^ 8 - 1) * 2 ^ 0 : Nat) : Int) := by kernel_rfl
 have m1 : mk ⟨8, 8⟩ = (((2 ^ 8 - 1) * 2 ^ 8 : Nat) : Int) := by kernel_rfl
 have m2 : mk ⟨16, 16⟩ = (((2 ^ 16 - 1) * 2 ^ 16 : Nat) : Int) := by kernel_rfl
 have m3 : mk ⟨32, 32⟩ = (((2 ^ 32 - 1) * 2 ^ 32 : Nat) : Int) := by kernel_rfl
 rw [m0, m1, m2, m3, field_n hw (by decide) (by decide), field_n hw (by decide) (by decide), field_n hw (by decide) (by decide), field_n hw (by decide) (by decide)]
 have e0 : w / 2 ^ 0 % 2 ^ 8 = w % 256 := by simp
 have e3 : w / 2 ^ 32 % 2 ^ 32 = w / 4294967296 := by omega
 rw [e0, e3]
theorem mkv (F : Nat) : gW F ⟨0, 8⟩ = some 255 ∧ gW F ⟨8, 8⟩ = some 65280 ∧ gW F ⟨16, 16⟩ = some 4294901760 ∧ gW F ⟨32, 32⟩ = some 18446744069414584320 := ⟨by kernel_rfl, by kernel_rfl, by kernel_rfl, by kernel_rfl⟩
theorem adN (G : Nat) {a b c d : Nat} (ha : a < 256) (hb : b < 256) (hc : c < 65536) (hd : d < 4294967296) : jB (G + 6) oF [(a : Int), (b : Int), (c : Int), (d : Int)] = some (((a + b * 256 + c * 65536 + d * 4294967296 : Nat) : Int), true) := by
 obtain ⟨k0, k1, k2, k3⟩ := mkv (G + 6)
 unfold jB
 rw [PV, ob, show ((((oF.length : Nat) : Int)) != ((([(a : Int), (b : Int), (c : Int), (d : Int)] : List Int).length : Nat) : Int)) = false from rfl, show (!true || false) = false from rfl, cf, jn_]
 have e0 : ior .u64 0 (pF .u64 (a : Int) 0) = ((a : Nat) : Int) := by
  rw [show pF .u64 (a : Int) 0 = ((a * 2 ^ 0 : Nat) : Int) from PO (a := a) (n := 0) (by decide) (by omega), show (0 : Int) = ((0 : Nat) : Int) from rfl, VU (by omega) (by omega)]; simp
 have e1 : ior .u64 (a : Int) (pF .u64 (b : Int) 8) = ((a + b * 256 : Nat) : Int) := by
  rw [show pF .u64 (b : Int) 8 = ((b * 2 ^ 8 : Nat) : Int) from PO (a := b) (n := 8) (by decide) (by omega), VU (by omega) (by omega), Ut (by omega)]
 have e2 : ior .u64 ((a + b * 256 : Nat) : Int) (pF .u64 (c : Int) 16) = ((a + b * 256 + c * 65536 : Nat) : Int) := by
  rw [show pF .u64 (c : Int) 16 = ((c * 2 ^ 16 : Nat) : Int) from PO (a := c) (n := 16) (by decide) (by omega), VU (by omega) (by omega), Ut (by omega)]
 have e3 : ior .u64 ((a + b * 256 + c * 65536 : Nat) : Int) (pF .u64 (d : Int) 32) = ((a + b * 256 + c * 65536 + d * 4294967296 : Nat) : Int) := by
  rw [show pF .u64 (d : Int) 32 = ((d * 2 ^ 32 : Nat) : Int) from PO (a := d) (n := 32) (by decide) (by omega), VU (by omega) (by omega), Ut (by omega)]
 unfold fZ
 rw [show decide ((0 : Int) < ((oF.length : Nat) : Int)) = true from rfl, ct, eU (by decide) (by decide), eU (by decide) (by show (0 : Int) < 4; decide), show nth oF 0 = ⟨0, 8⟩ from rfl, k0, ob, bY (by decide), show nth [(a : Int), (b : Int), (c : Int), (d : Int)] 0 = (a : Int) from rfl, show kL .u64 255 (⟨0, 8⟩ : aU).eH = 255 by kernel_rfl, decide_eq_false (show ¬ ((255 : Int) < (a : Int)) by omega), cf, eU (by decide) (by show (0 : Int) < 4; decide), bY (by decide), cZ (by decide) (by decide), show (⟨0, 8⟩ : aU).eH = 0 from rfl, e0]
 unfold fZ
 rw [show decide ((0 : Int) + 1 < ((oF.length : Nat) : Int)) = true from rfl, ct, eU (by decide) (by decide), eU (by decide) (by show (0 : Int) + 1 < 4; decide), show nth oF (0 + 1) = ⟨8, 8⟩ from rfl, k1, ob, bY (by decide), show nth [(a : Int), (b : Int), (c : Int), (d : Int)] (0 + 1) = (b : Int) from rfl, show kL .u64 65280 (⟨8, 8⟩ : aU).eH = 255 by kernel_rfl, decide_eq_false (show ¬ ((255 : Int) < (b : Int)) by omega), cf, eU (by decide) (by show (0 : Int) + 1 < 4; decide), bY (by decide), cZ (by decide) (by decide), show (⟨8, 8⟩ : aU).eH = 8 from rfl, e1]
 unfold fZ
 rw [show decide ((0 : Int) + 1 + 1 < ((oF.length : Nat) : Int)) = true from rfl, ct, eU (by decide) (by decide), eU (by decide) (by show (0 : Int) + 1 + 1 < 4; decide), show nth oF (0 + 1 + 1) = ⟨16, 16⟩ from rfl, k2, ob, bY (by decide), show nth [(a : Int), (b : Int), (c : Int), (d : Int)] (0 + 1 + 1) = (c : Int) from rfl, show kL .u64 4294901760 (⟨16, 16⟩ : aU).eH = 65535 by kernel_rfl, decide_eq_false (show ¬ ((65535 : Int) < (c : Int)) by omega), cf, eU (by decide) (by show (0 : Int) + 1 + 1 < 4; decide), bY (by decide), cZ (by decide) (by decide), show (⟨16, 16⟩ : aU).eH = 16 from rfl, e2]
 unfold fZ
 rw [show decide ((0 : Int) + 1 + 1 + 1 < ((oF.length : Nat) : Int)) = true from rfl, ct, eU (by decide) (by decide), eU (by decide) (by show (0 : Int) + 1 + 1 + 1 < 4; decide), show nth oF (0 + 1 + 1 + 1) = ⟨32, 32⟩ from rfl, k3, ob, bY (by decide), show nth [(a : Int), (b : Int), (c : Int), (d : Int)] (0 + 1 + 1 + 1) = (d : Int) from rfl, show kL .u64 18446744069414584320 (⟨32, 32⟩ : aU).eH = 4294967295 by kernel_rfl, decide_eq_false (show ¬ ((4294967295 : Int) < (d : Int)) by omega), cf, eU (by decide) (by show (0 : Int) + 1 + 1 + 1 < 4; decide), bY (by decide), cZ (by decide) (by decide), show (⟨32, 32⟩ : aU).eH = 32 from rfl, e3]
 unfold fZ
 rw [show decide ((0 : Int) + 1 + 1 + 1 + 1 < ((oF.length : Nat) : Int)) = false from rfl, cf]
theorem max2 (F : Nat) (hF : 5 ≤ F) (a b : Int) : mY F [a, b] = some (mx a b) := by
 obtain ⟨G, rfl⟩ : ∃ G, F = G + 5 := ⟨F - 5, by omega⟩
 unfold mY
 rw [jn_, show decide (((([a, b] : List Int).length : Nat) : Int) < 1) = false from rfl, cf]
 dsimp only
 rw [eU (by decide) (by show (0 : Int) < 2; decide), jn_]
 unfold jZ
 rw [show decide ((1 : Int) < ((([a, b] : List Int).length : Nat) : Int)) = true from rfl, ct, eU (by decide) (by show (1 : Int) < 2; decide), PD, ob, Gj, ob, cZ (by decide) (by decide)]
 unfold jZ
 rw [show decide ((1 : Int) + 1 < ((([a, b] : List Int).length : Nat) : Int)) = false from rfl, cf]
 rfl
structure DG (g : aJ) (d : aV) : Prop where
 w : ∀ x ∈ d.xW, (A1 g : Int) ≤ x.xAt ∧ x.xAt < (C1 g : Int)
 len : d.xW.length ≤ 600
 err : 0 ≤ d.bJ.kP ∧ d.bJ.kP ≤ 255
 n : 0 ≤ d.bJ.xN ∧ d.bJ.xN ≤ 2147483647
 st : (d.bK = 0 ∧ d.bJ = ⟨0, 0, 0⟩ ∧ d.xW = [] ∧ d.jD = 0 ∧ d.xL = ⟨0, 0, 0, 0⟩) ∨ ((d.bK = 1 ∨ d.bK = 4) ∧ d.bJ = ⟨0, 0, 0⟩ ∧ d.xW = [] ∧ 1 ≤ d.jD ∧ d.jD ≤ 4294967295) ∨ ((d.bK = 2 ∨ d.bK = 3) ∧ 1 ≤ d.jD ∧ d.jD ≤ 4294967295)
theorem NZ (F : Nat) (hF : 1000 ≤ F) {g : aJ} (hg : GG g) (ws : List aB) : Tot (oL F g ws) fun b => b = true → ws.length ≤ 600 ∧ ∀ x ∈ ws, (A1 g : Int) ≤ x.xAt ∧ x.xAt < (C1 g : Int) := by
 unfold oL
 have hsl : 0 < g.ay.toNat := by have := hg.t1; have := hg.s1; omega
 have hA : A1 g ≤ 5424 := by have hC := C8 hg; unfold C1 B1 at hC; omega
 refine iQ (lT F hg) (gJ (fun _ => bZ fun h => by cases h) fun hlen => iQ (x := (A1 g : Int)) (by have := zK F hg hsl; simpa using this) (dF ⟨by omega, by omega⟩ (lC ?_)))
 have hl : ws.length ≤ 600 := by simp only [Bool.or_eq_false_iff, decide_eq_false_iff_not] at hlen; omega
 refine lu (fun n v p => lF F g ws _ n p v) ws.length (fun v p => (A1 g : Int) - 1 ≤ p ∧ ∀ i : Nat, i < v → (A1 g : Int) ≤ (nth ws (i : Int)).xAt ∧ (nth ws (i : Int)).xAt < (C1 g : Int)) (fun n v p hv hI hk => ?_) (fun n p hI => ?_) F 0 _ (by omega) (by omega) ⟨by omega, fun i h => by omega⟩
 ·show Tot (lF F g ws _ (n + 1) p v) _
  unfold lF
  rw [dlt hv, ct]
  refine dF ⟨by omega, by omega⟩ (tZ (P := fun x => x = (C1 g : Int)) (fun _ => T_eq (xJ F hg) rfl) fun x23 hx => gJ (fun _ => bZ fun h => by cases h) fun h => dF ⟨by omega, by omega⟩ ?_)
  rw [cs]
  simp only [Bool.or_eq_false_iff, decide_eq_false_iff_not] at h
  have hx := hx (by rw [decide_eq_false h.1]; rfl)
  refine hk _ ⟨by omega, fun i hi => ?_⟩
  by_cases hiv : i < v
  ·exact hI.2 i hiv
  ·obtain rfl : i = v := by omega
   omega
 ·show Tot (lF F g ws _ (n + 1) p _) _
  unfold lF
  rw [dge, cf]
  refine bZ fun _ => ⟨hl, fun x hx => ?_⟩
  obtain ⟨i, hi, rfl⟩ := List.getElem_of_mem hx
  have := hI.2 i hi
  rw [jW ws hi] at this
  exact this
theorem Ar (F : Nat) (hF : 1000 ≤ F) {g : aJ} (hg : GG g) (d : aV) : Tot (oW F g d) fun b => b = true → DG g d ∧ oL F g d.xW = some true := by
 unfold oW
 obtain ⟨b, hb, hb2⟩ := NZ F hF hg d.xW
 refine iQ hb (gJ (fun _ => bZ fun h => by cases h) fun h1 => ?_)
 simp only [Bool.or_eq_false_iff, decide_eq_false_iff_not] at h1
 obtain ⟨⟨⟨⟨h1, h2⟩, h3⟩, h4⟩, h5⟩ := h1
 obtain rfl : b = true := by simpa using h1
 obtain ⟨h6, h7⟩ := hb2 rfl
 have abq : ∀ st, DG g d := fun st => ⟨h7, h6, ⟨by omega, by omega⟩, ⟨by omega, by omega⟩, st⟩
 have hrep : ((d.bJ.kP == (0 : Int)) && ((d.bJ.xW == (0 : Int)) && ((d.bJ.xN == (0 : Int)) && true))) = true → d.bJ = ⟨0, 0, 0⟩ := by
  obtain ⟨_, _, _, ⟨a, b, c⟩, _⟩ := d
  intro h; simpa using h
 have hW : (((d.xW.length : Nat) : Int) == (0 : Int)) = true → d.xW = [] := by
  intro h; simpa using h
 refine gJ (fun hs => bZ fun h => ⟨?_, hb⟩) fun h0 => lC ?_
 ·simp only [Bool.and_eq_true] at h
  refine abq (.inl ⟨by simpa using hs, hrep (by simp [h.1.1.1]), hW h.1.1.2, by simpa using h.1.2, ?_⟩)
  obtain ⟨_, _, ⟨a, b, c, e⟩, _, _⟩ := d
  simpa using h.2
 ·have k5 : ∀ v4 : Bool, (v4 = true → d.bK = 1 ∨ d.bK = 4) → Tot (bif v4 then some (((((d.bJ.kP == (0 : Int)) && ((d.bJ.xW == (0 : Int)) && ((d.bJ.xN == (0 : Int)) && true))) && (((d.xW.length : Nat) : Int) == (0 : Int))) && (decide ((1 : Int) ≤ d.jD))) && (decide (d.jD ≤ (4294967295 : Int)))) else (jn (fun (v7 : Bool) => (bif v7 then some ((decide ((1 : Int) ≤ d.jD)) && (decide (d.jD ≤ (4294967295 : Int)))) else some false)) fun k8 => (bif (d.bK == (2 : Int)) then k8 (d.bK == (2 : Int)) else k8 (d.bK == (3 : Int))))) fun b => b = true → DG g d ∧ oL F g d.xW = some true := by
   intro v hv
   refine gJ (fun h => bZ fun hr => ⟨?_, hb⟩) fun _ => lC ?_
   ·simp only [Bool.and_eq_true, decide_eq_true_eq] at hr
    exact abq (.inr (.inl ⟨hv h, hrep (by simp [hr.1.1.1]), hW hr.1.1.2, hr.1.2, hr.2⟩))
   ·have k8 : ∀ v7 : Bool, (v7 = true → d.bK = 2 ∨ d.bK = 3) → Tot (bif v7 then some ((decide ((1 : Int) ≤ d.jD)) && (decide (d.jD ≤ (4294967295 : Int)))) else some false) fun b => b = true → DG g d ∧ oL F g d.xW = some true := by
     intro v hv
     refine gJ (fun h => bZ fun hr => ⟨?_, hb⟩) fun _ => bZ fun h => by cases h
     simp only [Bool.and_eq_true, decide_eq_true_eq] at hr
     exact abq (.inr (.inr ⟨hv h, hr.1, hr.2⟩))
    exact gJ (fun h => k8 _ fun _ => .inl (by simpa using h)) fun _ => k8 _ fun h => .inr (by simpa using h)
  exact gJ (fun h => k5 _ fun _ => .inl (by simpa using h)) fun _ => k5 _ fun h => .inr (by simpa using h)
theorem RF (F : Nat) {g : aJ} {d : aV} (hw : oL F g d.xW = some true) (h : DG g d) : oW F g d = some true := by
 obtain ⟨h1, h2, h3, h4, h5⟩ := h
 unfold oW
 rw [hw, ob, decide_eq_false (by omega : ¬ d.bJ.kP < 0), decide_eq_false (by omega : ¬ 255 < d.bJ.kP), decide_eq_false (by omega : ¬ d.bJ.xN < 0), decide_eq_false (by omega : ¬ 2147483647 < d.bJ.xN), show (!true || false || false || false || false) = false from rfl, cf]
 rcases h5 with ⟨e1, e2, e3, e4, e5⟩ | ⟨e1, e2, e3, e4, e5⟩ | ⟨e1, e4, e5⟩
 ·rw [e1, e2, e3, e4, e5]; rfl
 ·rw [e2, e3, decide_eq_true e4, decide_eq_true e5]
  rcases e1 with e1 | e1 <;> rw [e1] <;> rfl
 ·rw [decide_eq_true e4, decide_eq_true e5]
  rcases e1 with e1 | e1 <;> rw [e1] <;> rfl
def wB (d : aV) : aV := ⟨if d.bK = 2 then 3 else if d.bK = 1 then 4 else d.bK, d.jD, d.xL, d.bJ, d.xW⟩
theorem then_eq (F : Nat) (d : aV) : qh F d = some (wB d) := by
 unfold qh wB
 rw [jn_]
 by_cases h2 : d.bK = 2
 ·rw [h2]; rfl
 ·rw [show (d.bK == 2) = false by simpa using h2, cf, if_neg h2]
  by_cases h1 : d.bK = 1
  ·rw [h1]; rfl
  ·rw [show (d.bK == 1) = false by simpa using h1, cf, if_neg h1]
theorem PX {g : aJ} {d : aV} (h : DG g d) : DG g (wB d) := by
 obtain ⟨h1, h2, h3, h4, h5⟩ := h
 refine ⟨h1, h2, h3, h4, ?_⟩
 unfold wB
 rcases h5 with ⟨e1, e2, e3, e4, e5⟩ | ⟨e1, e2, e3, e4, e5⟩ | ⟨e1, e4, e5⟩
 ·exact .inl ⟨by simp [e1], e2, e3, e4, e5⟩
 ·refine .inr (.inl ⟨?_, e2, e3, e4, e5⟩)
  rcases e1 with e1 | e1 <;> simp [e1]
 ·refine .inr (.inr ⟨?_, e4, e5⟩)
  rcases e1 with e1 | e1 <;> simp [e1]
theorem Xb (F : Nat) (hF : 10 ≤ F) {g : aJ} {d : aV} (h : DG g d) : lg F d = some ((d.bK.toNat + d.bJ.kP.toNat * 256 + d.xW.length * 65536 + d.jD.toNat * 4294967296 : Nat) : Int) := by
 obtain ⟨h1, h2, h3, h4, h5⟩ := h
 have hst : 0 ≤ d.bK ∧ d.bK ≤ 4 ∧ 0 ≤ d.jD ∧ d.jD ≤ 4294967295 := by
  rcases h5 with ⟨e1, e2, e3, e4, e5⟩ | ⟨e1, e2, e3, e4, e5⟩ | ⟨e1, e4, e5⟩ <;> omega
 unfold lg
 have hput : jB F oF [IntKind.u64.wrap d.bK, IntKind.u64.wrap d.bJ.kP, IntKind.u64.wrap ((d.xW.length : Nat) : Int), d.jD] = some (((d.bK.toNat + d.bJ.kP.toNat * 256 + d.xW.length * 65536 + d.jD.toNat * 4294967296 : Nat) : Int), true) := by
  have := up6 (P := fun F => jB F oF [(d.bK.toNat : Int), (d.bJ.kP.toNat : Int), (d.xW.length : Int), (d.jD.toNat : Int)] = some (((d.bK.toNat + d.bJ.kP.toNat * 256 + d.xW.length * 65536 + d.jD.toNat * 4294967296 : Nat) : Int), true)) (fun G => adN G (by omega) (by omega) (by omega) (by omega)) (F := F) (by omega)
  rw [show IntKind.u64.wrap d.bK = (d.bK.toNat : Int) by rw [IntKind.wrap_u64]; omega, show IntKind.u64.wrap d.bJ.kP = (d.bJ.kP.toNat : Int) by rw [IntKind.wrap_u64]; omega, show IntKind.u64.wrap ((d.xW.length : Nat) : Int) = (d.xW.length : Int) by rw [IntKind.wrap_u64]; omega, show d.jD = (d.jD.toNat : Int) by omega]
  exact this
 rw [YF, ob, hput, ob, decide_eq_false (by omega : ¬ 600 < ((d.xW.length : Nat) : Int)), bY (fun _ => by decide), show ((!true || false) == false) = true from rfl, lzt, max2 F (by omega), ob]
 rw [show decide ((255 : Int) < mx (IntKind.u64.wrap d.bK) (IntKind.u64.wrap d.bJ.kP)) = false by
  refine decide_eq_false ?_
  rw [show IntKind.u64.wrap d.bK = d.bK by rw [IntKind.wrap_u64]; omega, show IntKind.u64.wrap d.bJ.kP = d.bJ.kP by rw [IntKind.wrap_u64]; omega]
  unfold mx; split <;> omega]
 rfl
end Go.V.P
set_option linter.unusedVariables false
set_option linter.unusedSimpArgs false
namespace Go.V.P
open Go.V Go.Proofs
def u64 (x : Int) : Prop := 0 ≤ x ∧ x < 18446744073709551616
def dW (f : Nat → Int) (i : Nat) : aB := ⟨f (8 + 2 * i), f (9 + 2 * i)⟩
def dsc (f : Nat → Int) (a b : Int) : aV := ⟨(((f 0).toNat % 256 : Nat) : Int), (((f 0).toNat / 4294967296 : Nat) : Int), ⟨f 1, f 2, f 3, f 4⟩, ⟨(((f 0).toNat / 256 % 256 : Nat) : Int), a, b⟩, tab ((f 0).toNat / 65536 % 65536) (dW f)⟩
def pR (F : Nat) (g : aJ) (f : Nat → Int) (d : aV) : Prop :=
 (f 0 = 0 ∧ f 7 = 0 ∧ d = D0) ∨
 (f 0 ≠ 0 ∧ (f 0).toNat / 65536 % 65536 ≤ 600 ∧ (∀ i, i < (f 0).toNat / 65536 % 65536 → f (8 + 2 * i) ≤ 2147483647) ∧ f 7 = 0 ∧
  ∃ a b, d = dsc f a b ∧ ((f 0).toNat % 256 ≠ 1 → a = f 5 ∧ b = f 6 ∧ f 6 ≤ 2147483647) ∧ ((f 0).toNat % 256 = 1 → a = 0 ∧ b = 0) ∧ oW F g d = some true)
section
variable {f : Nat → Int}
theorem VX (F : Nat) {x9 : List Int} {k : List aB → Option (aV × Bool)} {n v : Nat} {N : Nat} (hN : N ≤ 600) (h9 : nth x9 2 = (N : Int)) (hv : v < N) (hf : u64 (f (8 + 2 * v))) (h : f (8 + 2 * v) ≤ 2147483647) :
  iK F (tab 1208 f) x9 k (n + 1) (v : Int) (tab v (dW f)) = iK F (tab 1208 f) x9 k n ((v + 1 : Nat) : Int) (tab (v + 1) (dW f)) := by
 have hl : (tab 1208 f).length = 1208 := aP _ _
 have hl2 : (tab v (dW f)).length = v := aP _ _
 have e8 : ((8 : Int) + (2 : Int) * (v : Int)) = ((8 + 2 * v : Nat) : Int) := by omega
 have e9 : (((8 + 2 * v : Nat) : Int) + (1 : Int)) = ((9 + 2 * v : Nat) : Int) := by omega
 conv => lhs; unfold iK
 rw [h9, show IntKind.i64.wrap (N : Int) = N by rw [IntKind.wrap_i64]; omega, decide_eq_true (by omega : (v : Int) < (N : Int)), ct, cZ (by omega) (by omega), cZ (by omega) (by omega), e8, eU (by omega) (by omega), dU (by omega), decide_eq_false (by omega : ¬ 2147483647 < f (8 + 2 * v)), cf, cZ (by omega) (by omega), cZ (by omega) (by omega), cZ (by omega) (by omega), e9, eU (by omega) (by omega), dU (by omega), bY (by simp only [List.length_cons, List.length_nil]; omega), cZ (by omega) (by omega), cs, oG v (dW f)]
 have := hf.1
 rw [show IntKind.i64.wrap (f (8 + 2 * v)) = f (8 + 2 * v) by rw [IntKind.wrap_i64]; omega]
 rfl
theorem YJ (F : Nat) {x9 : List Int} {k : List aB → Option (aV × Bool)} {n N : Nat} (hN : N ≤ 600) (h9 : nth x9 2 = (N : Int)) (l : List aB) : iK F (tab 1208 f) x9 k (n + 1) (N : Int) l = k l := by
 conv => lhs; unfold iK
 rw [h9, show IntKind.i64.wrap (N : Int) = N by rw [IntKind.wrap_i64]; omega, decide_eq_false (by omega : ¬ (N : Int) < (N : Int)), cf]
theorem abr (F : Nat) {x9 : List Int} {k : List aB → Option (aV × Bool)} {n v : Nat} {N : Nat} (hN : N ≤ 600) (h9 : nth x9 2 = (N : Int)) (hv : v < N) (l : List aB) (h : ¬ f (8 + 2 * v) ≤ 2147483647) :
  iK F (tab 1208 f) x9 k (n + 1) (v : Int) l = some (D0, false) := by
 have hl : (tab 1208 f).length = 1208 := aP _ _
 have e8 : ((8 : Int) + (2 : Int) * (v : Int)) = ((8 + 2 * v : Nat) : Int) := by omega
 conv => lhs; unfold iK
 rw [h9, show IntKind.i64.wrap (N : Int) = N by rw [IntKind.wrap_i64]; omega, decide_eq_true (by omega : (v : Int) < (N : Int)), ct, cZ (by omega) (by omega), cZ (by omega) (by omega), e8, eU (by omega) (by omega), dU (by omega), decide_eq_true (by omega : 2147483647 < f (8 + 2 * v)), ct]
 rfl
theorem OJ (F : Nat) (hF : 2000 ≤ F) {g : aJ} (hg : GG g) (hr : ∀ j, j < 1208 → u64 (f j)) (h0 : f 0 ≠ 0) (Q : aV × Bool → Prop) (hno : 600 < (f 0).toNat / 65536 % 65536 ∨ ((f 0).toNat % 256 ≠ 1 ∧ 2147483647 < f 6) → Q (D0, false))
  (hk : ∀ a b x9, nth x9 2 = (((f 0).toNat / 65536 % 65536 : Nat) : Int) → (f 0).toNat / 65536 % 65536 ≤ 600 → ((f 0).toNat % 256 ≠ 1 → a = f 5 ∧ b = f 6 ∧ f 6 ≤ 2147483647) → ((f 0).toNat % 256 = 1 → a = 0 ∧ b = 0) →
   Tot (iK F (tab 1208 f) x9 (fun v20 => (oW F g ⟨(dsc f a b).bK, (dsc f a b).jD, (dsc f a b).xL, (dsc f a b).bJ, v20⟩).bind fun x22 => gd ((!x22) = false → ix (tab 1208 f) (7 : Int)) (bif ((!x22) || (f 7 != (0 : Int))) then some (D0, false) else some (⟨(dsc f a b).bK, (dsc f a b).jD, (dsc f a b).xL, (dsc f a b).bJ, v20⟩, true))) F (0 : Int) []) Q) :
  Tot (kZ F g (tab 1208 f)) Q := by
 have hl : (tab 1208 f).length = 1208 := aP _ _
 have u0 := hr 0 (by omega)
 have hw : (f 0).toNat < 18446744073709551616 := by have := u0.1; have := u0.2; omega
 have hw0 : (((f 0).toNat : Nat) : Int) = f 0 := by have := u0.1; omega
 have n0 : nth (tab 1208 f) (0 : Int) = f 0 := dU (v := 0) (by omega)
 have n7 : nth (tab 1208 f) (7 : Int) = f 7 := dU (v := 7) (by omega)
 have n6 : nth (tab 1208 f) (6 : Int) = f 6 := dU (v := 6) (by omega)
 have n5 : nth (tab 1208 f) (5 : Int) = f 5 := dU (v := 5) (by omega)
 have hcut : cut (tab 1208 f) (1 : Int) (((tab 1208 f).length : Nat) : Int) = tab 1207 (fun i => f (1 + i)) := by
  rw [hl]; exact yQ (a := 1) (b := 1208) (by omega) (by omega)
 unfold kZ
 refine iQ (by have := pK F hg (v := 0) (by have := hg.t1; omega); simpa using this) ?_
 refine gJ (fun h => ?_) fun _ => dF ⟨by omega, by omega⟩ (gJ (fun h => ?_) fun _ => dF ⟨by omega, by omega⟩ (iQ (YF F) (iQ (by rw [n0, ← hw0]; exact adM F (by omega) hw) ?_)))
 ·rw [hl] at h; exact absurd h (by decide)
 ·rw [n0] at h; exact absurd (by simpa using h) h0
 refine dF ⟨by decide, by show (0 : Int) < 4; decide⟩ (dF ⟨by decide, by show (3 : Int) < 4; decide⟩ (dF ⟨by omega, by omega, by omega⟩ (dF (by rw [hcut, aP]; omega) (dF ⟨by decide, by show (1 : Int) < 4; decide⟩ (dF ⟨by decide, by show (2 : Int) < 4; decide⟩ ?_)))))
 simp only [hcut]
 have w0 : ∀ m : Nat, m < 4294967296 → IntKind.i64.wrap (m : Int) = (m : Int) := fun m hm => by rw [IntKind.wrap_i64]; omega
 show Tot (bif (decide ((600 : Int) < IntKind.i64.wrap (((f 0).toNat / 65536 % 65536 : Nat) : Int))) then _ else _) Q
 rw [w0 _ (by omega)]
 refine gJ (fun h => bZ (hno (.inl (by simp only [decide_eq_true_eq] at h; omega)))) fun adO => lC ?_
 simp only [decide_eq_false_iff_not] at adO
 have hN : (f 0).toNat / 65536 % 65536 ≤ 600 := by omega
 have go : ∀ a b, ((f 0).toNat % 256 ≠ 1 → a = f 5 ∧ b = f 6 ∧ f 6 ≤ 2147483647) → ((f 0).toNat % 256 = 1 → a = 0 ∧ b = 0) → Tot (jn (fun (v20 : List aB) => (oW F g (⟨IntKind.i64.wrap (((f 0).toNat % 256 : Nat) : Int), (((f 0).toNat / 4294967296 : Nat) : Int), ⟨nth (tab 1207 (fun i => f (1 + i))) 0, nth (tab 1207 (fun i => f (1 + i))) 1, nth (tab 1207 (fun i => f (1 + i))) 2, nth (tab 1207 (fun i => f (1 + i))) 3⟩, ⟨IntKind.i64.wrap (((f 0).toNat / 256 % 256 : Nat) : Int), a, b⟩, v20⟩ : aV)).bind fun x22 => gd ((!x22) = false → ix (tab 1208 f) (7 : Int)) (bif ((!x22) || ((nth (tab 1208 f) (7 : Int)) != (0 : Int))) then some (D0, false) else some ((⟨IntKind.i64.wrap (((f 0).toNat % 256 : Nat) : Int), (((f 0).toNat / 4294967296 : Nat) : Int), ⟨nth (tab 1207 (fun i => f (1 + i))) 0, nth (tab 1207 (fun i => f (1 + i))) 1, nth (tab 1207 (fun i => f (1 + i))) 2, nth (tab 1207 (fun i => f (1 + i))) 3⟩, ⟨IntKind.i64.wrap (((f 0).toNat / 256 % 256 : Nat) : Int), a, b⟩, v20⟩ : aV), true)))
   fun k21 => iK F (tab 1208 f) [(((f 0).toNat % 256 : Nat) : Int), (((f 0).toNat / 256 % 256 : Nat) : Int), (((f 0).toNat / 65536 % 65536 : Nat) : Int), (((f 0).toNat / 4294967296 : Nat) : Int)] k21 F (0 : Int) []) Q := by
  intro a b h1 h2
  refine lC ?_
  have t0 : nth (tab 1207 (fun i => f (1 + i))) 0 = f 1 := dU (v := 0) (by omega)
  have t1 : nth (tab 1207 (fun i => f (1 + i))) 1 = f 2 := dU (v := 1) (by omega)
  have t2 : nth (tab 1207 (fun i => f (1 + i))) 2 = f 3 := dU (v := 2) (by omega)
  have t3 : nth (tab 1207 (fun i => f (1 + i))) 3 = f 4 := dU (v := 3) (by omega)
  rw [t0, t1, t2, t3, n7, w0 _ (by omega), w0 _ (by omega)]
  exact hk a b _ rfl hN h1 h2
 show Tot (bif (IntKind.i64.wrap (((f 0).toNat % 256 : Nat) : Int) != (1 : Int)) then _ else _) Q
 rw [w0 ((f 0).toNat % 256) (by omega)]
 refine gJ (fun h => dF ⟨by omega, by omega⟩ (gJ (fun h6 => bZ (hno (.inr ⟨fun e => by rw [e] at h; simp at h, by rw [n6] at h6; simpa using h6⟩))) fun h6 => dF ⟨by omega, by omega⟩ (dF ⟨by omega, by omega⟩ ?_))) fun h => ?_
 ·rw [n6] at h6
  simp only [decide_eq_false_iff_not] at h6
  have u6 := hr 6 (by omega)
  rw [n5, n6, show IntKind.i64.wrap (f 6) = f 6 by have := u6.1; rw [IntKind.wrap_i64]; omega]
  exact go _ _ (fun _ => ⟨rfl, rfl, by omega⟩) fun h1 => by rw [h1] at h; simp at h
 ·exact go _ _ (fun h1 => by simp only [bne_eq_false_iff_eq] at h; omega) fun _ => ⟨rfl, rfl⟩
theorem RG (F : Nat) (hF : 2000 ≤ F) {g : aJ} (hg : GG g) (hr : ∀ j, j < 1208 → u64 (f j)) : Tot (kZ F g (tab 1208 f)) fun r => r.2 = true → pR F g f r.1 := by
 have hl : (tab 1208 f).length = 1208 := aP _ _
 by_cases h0 : f 0 = 0
 ·have n0 : nth (tab 1208 f) (0 : Int) = f 0 := dU (v := 0) (by omega)
  have n7 : nth (tab 1208 f) (7 : Int) = f 7 := dU (v := 7) (by omega)
  unfold kZ
  refine iQ (by have := pK F hg (v := 0) (by have := hg.t1; omega); simpa using this) ?_
  refine gJ (fun h => ?_) fun _ => dF ⟨by omega, by omega⟩ (gJ (fun h => lC (dF ⟨by omega, by omega⟩ (bZ fun h => ?_))) fun h => ?_)
  ·rw [hl] at h; exact absurd h (by decide)
  ·rw [n7] at h
   exact .inl ⟨h0, by simpa using h, rfl⟩
  ·rw [n0, h0] at h; cases h
 ·refine OJ F hF hg hr h0 _ (fun _ h => by cases h) fun a b x9 h9 hN h1 h2 => ?_
  refine lu (fun n v l => iK F (tab 1208 f) x9 _ n v l) ((f 0).toNat / 65536 % 65536) (fun v l => l = tab v (dW f) ∧ ∀ i, i < v → f (8 + 2 * i) ≤ 2147483647) (fun n v l hv hI hk => ?_) (fun n l hI => ?_) F 0 _ (by omega) (by omega) ⟨rfl, fun i h => by omega⟩
  ·obtain ⟨rfl, hI⟩ := hI
   show Tot (iK F (tab 1208 f) x9 _ (n + 1) v (tab v (dW f))) _
   by_cases hb : f (8 + 2 * v) ≤ 2147483647
   ·rw [VX F hN h9 hv (hr _ (by omega)) hb]
    refine hk _ ⟨rfl, fun i hi => ?_⟩
    by_cases h : i < v
    ·exact hI i h
    ·obtain rfl : i = v := by omega
     exact hb
   ·rw [abr F hN h9 hv _ hb]
    exact bZ fun h => by cases h
  ·obtain ⟨rfl, hI⟩ := hI
   show Tot (iK F (tab 1208 f) x9 _ (n + 1) _ _) _
   rw [YJ F hN h9]
   obtain ⟨x, hx, hx2⟩ := Ar F (by omega) hg (dsc f a b)
   refine iQ hx (dF (fun _ => ⟨by omega, by omega⟩) (gJ (fun _ => bZ fun h => by cases h) fun h => bZ fun _ => ?_))
   simp only [Bool.or_eq_false_iff, bne_eq_false_iff_eq] at h
   have hxt : x = true := by simpa using h.1
   subst hxt
   exact .inr ⟨h0, hN, hI, h.2, a, b, rfl, h1, h2, hx⟩
theorem Ux (F : Nat) (hF : 2000 ≤ F) {g : aJ} (hg : GG g) (hr : ∀ j, j < 1208 → u64 (f j)) {d : aV} (h : pR F g f d) : kZ F g (tab 1208 f) = some (d, true) := by
 have hl : (tab 1208 f).length = 1208 := aP _ _
 have : Tot (kZ F g (tab 1208 f)) fun r => r = (d, true) := by
  rcases h with ⟨h0, h7, rfl⟩ | ⟨h0, hN, hI, h7, a, b, rfl, h1, h2, hgd⟩
  ·have n0 : nth (tab 1208 f) (0 : Int) = f 0 := dU (v := 0) (by omega)
   have n7 : nth (tab 1208 f) (7 : Int) = f 7 := dU (v := 7) (by omega)
   unfold kZ
   refine iQ (by have := pK F hg (v := 0) (by have := hg.t1; omega); simpa using this) ?_
   refine gJ (fun h => ?_) fun _ => dF ⟨by omega, by omega⟩ (gJ (fun h => lC (dF ⟨by omega, by omega⟩ (bZ ?_))) fun h => ?_)
   ·rw [hl] at h; exact absurd h (by decide)
   ·rw [n7, h7]; rfl
   ·rw [n0, h0] at h; cases h
  ·refine OJ F hF hg hr h0 _ (fun h => ?_) fun a' b' x9 h9 _ h1' h2' => ?_
   ·rcases h with h | ⟨h, h3⟩
    ·omega
    ·have := (h1 h).2.2; omega
   obtain ⟨rfl, rfl⟩ : a' = a ∧ b' = b := by
    by_cases h : (f 0).toNat % 256 = 1
    ·have e1 := h2 h; have e2 := h2' h; exact ⟨by omega, by omega⟩
    ·have e1 := h1 h; have e2 := h1' h; exact ⟨by omega, by omega⟩
   refine lu (fun n v l => iK F (tab 1208 f) x9 _ n v l) ((f 0).toNat / 65536 % 65536) (fun v l => l = tab v (dW f)) (fun n v l hv hI' hk => ?_) (fun n l hI' => ?_) F 0 _ (by omega) (by omega) rfl
   ·subst hI'
    show Tot (iK F (tab 1208 f) x9 _ (n + 1) v (tab v (dW f))) _
    rw [VX F hN h9 hv (hr _ (by omega)) (hI v hv)]
    exact hk _ rfl
   ·subst hI'
    show Tot (iK F (tab 1208 f) x9 _ (n + 1) _ _) _
    rw [YJ F hN h9]
    refine iQ hgd (dF (fun _ => ⟨by omega, by omega⟩) (gJ (fun h => ?_) fun h => bZ rfl))
    rw [h7] at h; cases h
 obtain ⟨r, h1, h2⟩ := this
 rw [h1, h2]
end
end Go.V.P
set_option linter.unusedVariables false
set_option linter.unusedSimpArgs false
namespace Go.V.P
open Go.V Go.Proofs
theorem RH {α : Type} {l : List α} {v : Nat} {x : α} (h : l.length = v) : (l ++ [x]).length = v + 1 := by rw [List.length_append, h]; rfl
theorem abt (g : aJ) : GG g ∨ ¬ GG g := Classical.em _
theorem zo (F : Nat) (hF : 20 ≤ F) {l : List Int} (hl : l.length = 8) (hu : ∀ i : Nat, i < 8 → u64 (nth l (i : Int))) : Tot (oI F l) fun r => r.2 = true → GG r.1.bH ∧ l = sup r.1 ∧ u64 r.1.uj := by
 have h8 : (((l.length : Nat) : Int) != (8 : Int)) = false := by rw [hl]; rfl
 unfold oI
 refine dF (fun _ => ⟨by omega, by omega⟩) (dF (fun _ => ⟨by omega, by omega⟩) (dF (fun _ => ⟨by omega, by omega⟩) ?_))
 rw [h8, Yp, ob, Gj, show (false == false) = true from rfl, lzt, ob, Bool.false_or]
 refine gJ (fun _ => bZ fun h => by cases h) fun hm => dF ⟨by omega, by omega⟩ (dF ⟨by omega, by omega⟩ (dF ⟨by omega, by omega⟩ (dF ⟨by omega, by omega⟩ ?_)))
 generalize hs : (⟨⟨IntKind.i64.wrap (nth l 1), IntKind.i64.wrap (nth l 2), IntKind.i64.wrap (nth l 3)⟩, nth l 4⟩ : dK) = s
 have hb : s.uj = nth l 4 := by rw [← hs]
 rcases abt s.bH with hg | hg
 ·refine iQ (zH F (by omega) s (lT F hg)) (iR (Uw F (sup s) l (by rw [kC]; omega) (by rw [kC]; omega)) fun x hx => gJ (fun _ => bZ fun h => by cases h) fun h => bZ fun _ => ⟨hg, (hx (by simpa using h)).symm, ?_⟩)
  rw [hb]; exact hu 4 (by omega)
 ·refine iQ (x := []) (by unfold pY; rw [Pv F hg]; rfl) (iR (Uw F [] l (by simp; omega) (by simp)) fun x hx => gJ (fun _ => bZ fun h => by cases h) fun h => ?_)
  have := hx (by simpa using h)
  rw [← this] at hl; cases hl
def abu (w : Nat → Int) (N : Nat) (r : dK × Bool × Bool) : Prop := (r.2.1 = true ∨ r.2.2 = true) → GG r.1.bH ∧ N = N1 r.1.bH ∧ u64 r.1.uj
theorem KO {N a : Nat} (w : Nat → Int) (h : a + 8 ≤ N) : cut (tab N w) ((a : Nat) : Int) ((a + 8 : Nat) : Int) = tab 8 (fun i => w (a + i)) := by
 rw [yQ (by omega) h]
 congr 1; omega
theorem KP (F : Nat) (hF : 20 ≤ F) {N : Nat} {w : Nat → Int} (hN : 8 ≤ N) (hN2 : N ≤ 40000) (hN8 : N % 8 = 0) (hu : ∀ i, i < N → u64 (w i)) : Tot (iV F (tab N w)) (abu w N) := by
 have hl : (tab N w).length = N := aP _ _
 unfold iV
 rw [hl]
 refine gJ (fun h => ?_) fun _ => dF ⟨by omega, by omega, by omega⟩ ?_
 ·simp only [Bool.or_eq_true, decide_eq_true_eq, bne_iff_ne, ne_eq] at h
  rcases h with h | h
  ·omega
  ·rw [I7 (by omega)] at h; omega
 have c1 : cut (tab N w) (0 : Int) (8 : Int) = tab 8 (fun i => w (0 + i)) := KO (a := 0) w (by omega)
 have c2 : cut (tab N w) ((N : Int) - 8) (N : Int) = tab 8 (fun i => w (N - 8 + i)) := by
  have := KO (a := N - 8) w (N := N) (by omega)
  rw [show ((N - 8 : Nat) : Int) = (N : Int) - 8 by omega, show ((N - 8 + 8 : Nat) : Int) = (N : Int) by omega] at this
  exact this
 have hr : ∀ g : aJ, GG g → (((C1 g / 8 + 1 : Nat) : Int) == IntKind.i64.wrap (Int.tdiv (N : Int) 8)) = true → N = N1 g := by
  intro g hg h
  have hC := C8 hg
  rw [EH (by omega), wrap_small (by omega) (by omega), beq_iff_eq] at h
  unfold N1; omega
 rw [c1]
 refine iR (zo F hF (aP _ _) (fun i hi => by rw [dU hi]; exact hu _ (by omega))) fun x3 h3 => ?_
 refine tZ (P := fun r => ∀ _ : x3.2 = true, r = ((C1 x3.1.bH / 8 + 1 : Nat) : Int)) (fun h => T_eq (zJ F (h3 (by simpa using h)).1) fun _ => rfl) fun x4 h4 => ?_
 refine dF ⟨by omega, by omega⟩ (dF ⟨by omega, by omega, by omega⟩ ?_)
 rw [c2]
 refine iR (zo F hF (aP _ _) (fun i hi => by rw [dU hi]; exact hu _ (by omega))) fun x7 h7 => ?_
 refine tZ (P := fun r => ∀ _ : x7.2 = true, r = ((C1 x7.1.bH / 8 + 1 : Nat) : Int)) (fun h => T_eq (zJ F (h7 (by simpa using h)).1) fun _ => rfl) fun x8 h8 => ?_
 refine gJ (fun h => bZ fun _ => ?_) fun _ => gJ (fun h => bZ fun _ => ?_) fun _ => bZ fun h => ?_
 ·simp only [Bool.and_eq_true] at h
  obtain ⟨a1, a2, a3⟩ := h3 h.1
  rw [h4 (by simp [h.1]) h.1] at h
  exact ⟨a1, hr _ a1 h.2, a3⟩
 ·simp only [Bool.and_eq_true] at h
  obtain ⟨a1, a2, a3⟩ := h7 h.1
  rw [h8 (by simp [h.1]) h.1] at h
  exact ⟨a1, hr _ a1 h.2, a3⟩
 ·rcases h with h | h <;> cases h
theorem PY (F : Nat) {g : aJ} (hg : GG g) {l l' : List Int} (h1 : l.length = N1 g) (h2 : l'.length = N1 g) {x x' : dK × Bool × Bool} (hx : x.1.bH = g) (hx' : x'.1.bH = g)
  (h : ∀ i, B1 g ≤ i → i < C1 g → nth l ((i : Nat) : Int) = nth l' ((i : Nat) : Int)) {k k' : List aH → Option (aI × Int)} (hk : ∀ a, k a = k' a) : ∀ (n v : Nat) (acc : List aH), iI F l x k n (v : Int) acc = iI F l' x' k' n (v : Int) acc := by
 intro n
 induction n with
 | zero => intro v acc; rfl
 | succ n ih =>
  intro v acc
  unfold iI
  rw [hx, hx', hk]
  by_cases hv : v < g.aA.toNat
  ·rw [zL F hg hv, ob, ob, h1, h2]
   have hC : C1 g = B1 g + 8 * g.aA.toNat := rfl
   have hN : N1 g = C1 g + 8 := rfl
   have hcut : cut l ((B1 g + 8 * v : Nat) : Int) (((B1 g + 8 * v : Nat) : Int) + 8) = cut l' ((B1 g + 8 * v : Nat) : Int) (((B1 g + 8 * v : Nat) : Int) + 8) := by
    unfold cut
    rw [show (((B1 g + 8 * v : Nat) : Int) + 8).toNat - (((B1 g + 8 * v : Nat) : Int)).toNat = 8 by omega, show (((B1 g + 8 * v : Nat) : Int)).toNat = B1 g + 8 * v by omega]
    refine List.ext_getElem (by simp; omega) fun i a1 a2 => ?_
    have hi : i < 8 := by simp at a1; omega
    have := h (B1 g + 8 * v + i) (by omega) (by omega)
    rw [jW l (by omega), jW l' (by omega)] at this
    simpa using this
   rw [hcut]
   simp only [cs, ih]
  ·rw [decide_eq_false (by omega : ¬ (v : Int) < g.aA), cf, cf]
theorem PZ (F : Nat) {g : aJ} (hg : GG g) {l l' : List Int} (h1 : l.length = N1 g) (h2 : l'.length = N1 g) {x x' : dK × Bool × Bool} (hx : x.1.bH = g) (hx' : x'.1.bH = g)
  (h : ∀ i, A1 g ≤ i → i < B1 g → nth l ((i : Nat) : Int) = nth l' ((i : Nat) : Int)) {k k' : List aZ → Option (aI × Int)} (hk : ∀ a, k a = k' a) : ∀ (n v : Nat) (acc : List aZ), iH F l x k n (v : Int) acc = iH F l' x' k' n (v : Int) acc := by
 intro n
 induction n with
 | zero => intro v acc; rfl
 | succ n ih =>
  intro v acc
  unfold iH
  rw [hx, hx', hk]
  by_cases hv : v < g.ay.toNat
  ·rw [decide_eq_true (by omega : (v : Int) < g.ay), ct, ct, jn_, jn_, zK F hg hv, ob, ob]
   have hB : B1 g = A1 g + 2 * g.ay.toNat := rfl
   have e0 := h (A1 g + 2 * v) (by omega) (by omega)
   have e1 := h (A1 g + 2 * v + 1) (by omega) (by omega)
   have hc1 : (((A1 g + 2 * v : Nat) : Int) + 1) = ((A1 g + 2 * v + 1 : Nat) : Int) := by omega
   rw [hc1, e0, e1]
   have hix : ∀ a, ix l a = ix l' a := fun a => by unfold ix; rw [h1, h2]
   simp only [hix, cs, ih]
  ·rw [decide_eq_false (by omega : ¬ (v : Int) < g.ay), cf, cf]
theorem image_congr (F : Nat) {g : aJ} (hg : GG g) {l l' : List Int} (h1 : l.length = N1 g) (h2 : l'.length = N1 g) {x x' : dK × Bool × Bool} (hx : x.1.bH = g) (hx' : x'.1.bH = g) (hb : (!x.2.1 && !x.2.2) = false) (hb' : (!x'.2.1 && !x'.2.2) = false)
  (hf : iV F l = some x) (hf' : iV F l' = some x') (h : ∀ i, A1 g ≤ i → i < C1 g → nth l ((i : Nat) : Int) = nth l' ((i : Nat) : Int)) : jQ F l = jQ F l' := by
 unfold jQ
 have hC : B1 g ≤ C1 g := by unfold C1; omega
 have hB : A1 g ≤ B1 g := by unfold B1; omega
 rw [hf, hf', ob, ob, hb, hb', cf, cf, jn_, jn_, hx, hx']
 refine PZ F hg h1 h2 hx hx' (fun i a b => h i a (by omega)) (fun acc => ?_) F 0 []
 rw [jn_, jn_]
 exact PY F hg h1 h2 hx hx' (fun i a b => h i (by omega) b) (fun afb => rfl) F 0 []
theorem N7 (F : Nat) (hF : 1000 ≤ F) {g : aJ} (hg : GG g) {w : Nat → Int} (hu : ∀ i, i < N1 g → u64 (w i)) {x : dK × Bool × Bool} (hx : x.1.bH = g) (hb : (!x.2.1 && !x.2.2) = false) (hf : iV F (tab (N1 g) w) = some x) :
  Tot (jQ F (tab (N1 g) w)) fun r => (r.2 = 0 ∨ r.2 = 2) ∧ (r.2 = 0 → r.1.bH = g) := by
 have hl : (tab (N1 g) w).length = N1 g := aP _ _
 have hC : C1 g = B1 g + 8 * g.aA.toNat := rfl
 have hN : N1 g = C1 g + 8 := rfl
 have hB : B1 g = A1 g + 2 * g.ay.toNat := rfl
 have hbd := (C8 hg).2.2.1
 have s2 := hg.s2; have h2 := hg.h2
 have bad : (((2 : Int) = 0 ∨ (2 : Int) = 2) ∧ ((2 : Int) = 0 → (⟨0, 0, 0⟩ : aJ) = g)) := ⟨.inr rfl, fun h => by cases h⟩
 unfold jQ
 refine iQ hf (gJ (fun h => by rw [hb] at h; cases h) fun _ => lC ?_)
 refine lu (fun n v l => iH F (tab (N1 g) w) x _ n v l) g.ay.toNat (fun v l => l.length = v) (fun n v l hv hI hk => ?_) (fun n l hI => ?_) F 0 _ (by omega) (by omega) rfl
 ·show Tot (iH F (tab (N1 g) w) x _ (n + 1) v l) _
  unfold iH
  rw [hx] at hk
  rw [hx, decide_eq_true (by omega : (v : Int) < g.ay), ct]
  have u1 := hu (A1 g + 2 * v + 1) (by omega)
  have e1 : (((A1 g + 2 * v : Nat) : Int) + 1) = ((A1 g + 2 * v + 1 : Nat) : Int) := by omega
  refine lC (iQ (zK F hg hv) (dF ⟨by omega, by omega⟩ (iR (RD F (by omega) _) fun x77 _ => dF (fun _ => ⟨by omega, by omega⟩) (dF (fun _ => ⟨by omega, by omega⟩) (gJ (fun _ => bZ bad) fun h => dF ⟨by omega, by omega⟩ (dF ⟨by omega, by omega⟩ (dF ?_ (dF (by simp only [List.length_cons, List.length_nil]; omega) (dF ⟨by omega, by omega⟩ ?_)))))))))
  ·rw [e1, dU (by omega)] at h ⊢
   simp only [Bool.or_eq_false_iff, decide_eq_false_iff_not] at h
   have := u1.1
   rw [IntKind.wrap_i64]
   exact ⟨by omega, by omega⟩
  ·rw [cs]
   exact hk _ (RH hI)
 ·show Tot (iH F (tab (N1 g) w) x _ (n + 1) _ l) _
  unfold iH
  rw [hx, decide_eq_false (by have := hg.t1; have := hg.s1; omega : ¬ ((g.ay.toNat : Nat) : Int) < g.ay), cf]
  refine lC ?_
  refine lu (fun n v l => iI F (tab (N1 g) w) x _ n v l) g.aA.toNat (fun v l => l.length = v) (fun n v l hv hI hk => ?_) (fun n l hI => ?_) F 0 _ (by omega) (by omega) rfl
  ·show Tot (iI F (tab (N1 g) w) x _ (n + 1) v l) _
   unfold iI
   rw [hx, decide_eq_true (by omega : (v : Int) < g.aA), ct]
   refine iQ (zL F hg hv) (dF ⟨by omega, by omega⟩ (dF ⟨by omega, by omega, by omega⟩ (iR (NY F (by omega) _) fun x34 _ => gJ (fun _ => bZ bad) fun _ => dF (by simp only [List.length_cons, List.length_nil]; omega) (dF ⟨by omega, by omega⟩ ?_))))
   rw [cs]
   exact hk _ (RH hI)
  ·show Tot (iI F (tab (N1 g) w) x _ (n + 1) _ l) _
   unfold iI
   rw [hx, decide_eq_false (by have := hg.t1; have := hg.h1; omega : ¬ ((g.aA.toNat : Nat) : Int) < g.aA), cf]
   exact iR (CO F (by omega) _) fun b _ => gJ (fun _ => bZ bad) fun _ => bZ ⟨.inl rfl, fun _ => rfl⟩
end Go.V.P
set_option linter.unusedVariables false
set_option linter.unusedSimpArgs false
namespace Go.V.P
open Go.V Go.Proofs
theorem VY {ws : List aB} {w : Nat → Int} {i : Nat} (h : ∀ x ∈ ws, x.xAt.toNat ≠ i) : app ws w i = w i := by
 induction ws generalizing w with
 | nil => rfl
 | cons x ws ih =>
  show app ws _ i = w i
  rw [ih (fun y hy => h y (List.mem_cons_of_mem _ hy)), if_neg (fun e => h x List.mem_cons_self e.symm)]
theorem acO {ws : List aB} {w : Nat → Int} (hv : ∀ x ∈ ws, u64 x.xV) {i : Nat} (h : u64 (w i)) : u64 (app ws w i) := by
 induction ws generalizing w with
 | nil => exact h
 | cons x ws ih =>
  refine ih (fun y hy => hv y (List.mem_cons_of_mem _ hy)) ?_
  show u64 (if i = x.xAt.toNat then x.xV else w i)
  split
  ·exact hv x List.mem_cons_self
  ·exact h
theorem YK {l : List (List aB)} {w : Nat → Int} {i : Nat} (h : ∀ ws ∈ l, ∀ x ∈ ws, x.xAt.toNat ≠ i) : o9 l w i = w i := by
 induction l generalizing w with
 | nil => rfl
 | cons x l ih =>
  show o9 l _ i = w i
  rw [ih (fun y hy => h y (List.mem_cons_of_mem _ hy)), VY (h x List.mem_cons_self)]
theorem RI (ws : List aB) (x : aB) (w : Nat → Int) : app (ws ++ [x]) w = fun i => if i = x.xAt.toNat then x.xV else app ws w i := by
 rw [xP]; rfl
theorem acP (F : Nat) {N : Nat} (hN : N ≤ 40000) {ws : List aB} (hl : ws.length ≤ 1000) (hF : ws.length < F) (h : ∀ x ∈ ws, 0 ≤ x.xAt ∧ x.xAt < (N : Int)) (w : Nat → Int) : vJ F (tab N w) ws = some (tab N (app ws w)) := by
 have ht : (tab N w).length = N := aP _ _
 have : Tot (vJ F (tab N w) ws) fun r => r = tab N (app ws w) := by
  unfold vJ
  refine dF (by omega) (lC ?_)
  refine lu (fun n v l => ng F ws _ n v l) ws.length (fun v l => l = tab N (app (ws.take v) w)) (fun n v l hv hI hk => ?_) (fun n l hI => ?_) F 0 _ (by omega) (by omega) rfl
  ·show Tot (ng F ws _ (n + 1) v l) _
   unfold ng
   have hlen : l.length = N := by rw [hI]; exact aP _ _
   have hm : nth ws (v : Int) ∈ ws := by rw [jW ws hv]; exact List.getElem_mem hv
   obtain ⟨a1, a2⟩ := h _ hm
   rw [dlt hv, ct, hlen]
   refine lC (dF ⟨by omega, by omega⟩ ?_)
   rw [decide_eq_true a1, decide_eq_true a2]
   refine gJ (fun _ => dF ⟨a1, by omega⟩ (dF ⟨by omega, by omega⟩ ?_)) fun h => by cases h
   rw [cs]
   refine hk _ ?_
   show dZ l _ _ = _
   rw [show l = tab N (app (ws.take v) w) from hI, qH, List.take_succ_eq_append_getElem hv, RI, jW ws hv]
  ·show Tot (ng F ws _ (n + 1) _ l) _
   unfold ng
   rw [dge, cf]
   exact bZ (by rw [show l = tab N (app (ws.take ws.length) w) from hI, List.take_length])
 obtain ⟨r, h1, h2⟩ := this
 rw [h1, h2]
def qM (D : Nat → aV) : Nat → List (List aB)
 | 0 => []
 | v + 1 => if (D v).bK = 2 then qM D v ++ [(D v).xW] else qM D v
theorem Gs {D : Nat → aV} : ∀ {v : Nat} {ws : List aB}, ws ∈ qM D v → ∃ i, i < v ∧ ws = (D i).xW
 | 0, ws, h => by cases h
 | v + 1, ws, h => by
  unfold qM at h
  split at h
  ·rcases List.mem_append.1 h with h | h
   ·obtain ⟨i, h1, h2⟩ := Gs h; exact ⟨i, by omega, h2⟩
   ·rw [List.mem_singleton] at h; exact ⟨v, by omega, h⟩
  ·obtain ⟨i, h1, h2⟩ := Gs h; exact ⟨i, by omega, h2⟩
theorem uw (D : Nat → aV) : ∀ v, (qM D v).length ≤ v
 | 0 => Nat.le_refl _
 | v + 1 => by
  have := uw D v
  unfold qM
  split
  ·rw [List.length_append]; simp only [List.length_cons, List.length_nil]; omega
  ·omega
def seg (w : Nat → Int) (v : Nat) (j : Nat) : Int := w (16 + 1208 * v + j)
theorem pR.facts {F : Nat} (hF : 2000 ≤ F) {g : aJ} (hg : GG g) {f : Nat → Int} {d : aV} (hr : ∀ j, j < 1208 → u64 (f j)) (h : pR F g f d) : DG g d ∧ ∀ x ∈ d.xW, u64 x.xV := by
 rcases h with ⟨_, _, rfl⟩ | ⟨h0, hN, hI, h7, a, b, rfl, h1, h2, hgd⟩
 ·refine ⟨⟨fun x hx => (by cases hx), by decide, by decide, by decide, .inl ⟨rfl, rfl, rfl, rfl, rfl⟩⟩, fun x hx => (by cases hx)⟩
 ·obtain ⟨x, hx, hx2⟩ := Ar F (by omega) hg (dsc f a b)
  rw [hgd] at hx; injection hx with hx
  refine ⟨(hx2 hx.symm).1, fun y hy => ?_⟩
  unfold dsc tab at hy
  obtain ⟨i, hi, rfl⟩ := List.mem_map.1 hy
  have hi := List.mem_range.1 hi
  exact hr (9 + 2 * i) (by omega)
structure Il (F : Nat) (w : Nat → Int) (N : Nat) (p : gQ) (g : aJ) (D : Nat → aV) : Prop where
 gg : GG g
 n : N = N1 g
 was : p.mG = tab g.ak.toNat D
 desc : ∀ v, v < g.ak.toNat → pR F g (seg w v) (D v)
 img : jQ F (tab N (o9 (qM D g.ak.toNat) w)) = some (p.xs, 0)
 geo : p.xs.bH = g
 PI : 1 ≤ p.lG ∧ p.lG ≤ 4611686018427387904
 find : ∃ x, iV F (tab N (o9 (qM D g.ak.toNat) w)) = some x ∧ x.1.bH = g ∧ (!x.2.1 && !x.2.2) = false
theorem N8 (g : aJ) {v : Nat} (hv : v < g.ak.toNat) : 16 + 1208 * v + 1208 ≤ A1 g := by unfold A1; omega
theorem AC (g : aJ) : A1 g ≤ B1 g ∧ B1 g ≤ C1 g ∧ N1 g = C1 g + 8 := ⟨by unfold B1; omega, by unfold C1; omega, rfl⟩
theorem P5 {F : Nat} (hF : 2000 ≤ F) {g : aJ} (hg : GG g) {w : Nat → Int} (hu : ∀ i, i < N1 g → u64 (w i)) {D : Nat → aV} {n : Nat} (hD : ∀ i, i < n → DG g (D i) ∧ ∀ x ∈ (D i).xW, u64 x.xV) :
  (∀ i, i < A1 g ∨ C1 g ≤ i → o9 (qM D n) w i = w i) ∧ ∀ i, i < N1 g → u64 (o9 (qM D n) w i) := by
 have key : ∀ ws ∈ qM D n, ∀ x ∈ ws, (A1 g : Int) ≤ x.xAt ∧ x.xAt < (C1 g : Int) ∧ u64 x.xV := by
  intro ws hws x hx
  obtain ⟨i, hi, rfl⟩ := Gs hws
  obtain ⟨h1, h2⟩ := hD i hi
  exact ⟨(h1.w x hx).1, (h1.w x hx).2, h2 x hx⟩
 refine ⟨fun i hi => YK fun ws hws x hx => ?_, fun i hi => ?_⟩
 ·have := key ws hws x hx
  omega
 ·have := hu i hi
  revert key this
  generalize qM D n = l
  clear hu hD
  induction l generalizing w with
  | nil => intro _ h; exact h
  | cons ws l ih => intro key h; exact ih (fun ws' h' => key ws' (List.mem_cons_of_mem _ h')) (acO (fun x hx => (key ws List.mem_cons_self x hx).2.2) h)
theorem find_congr (F : Nat) {N : Nat} {w w' : Nat → Int} (hN : 8 ≤ N) (h : ∀ i, i < 8 ∨ (N - 8 ≤ i ∧ i < N) → w i = w' i) : iV F (tab N w) = iV F (tab N w') := by
 have hl : (tab N w).length = N := aP _ _
 have hl' : (tab N w').length = N := aP _ _
 unfold iV
 rw [hl, hl']
 have c1 : ∀ w : Nat → Int, cut (tab N w) (0 : Int) (8 : Int) = tab 8 (fun i => w (0 + i)) := fun w => KO (a := 0) w (by omega)
 have c2 : ∀ w : Nat → Int, cut (tab N w) ((N : Int) - 8) (N : Int) = tab 8 (fun i => w (N - 8 + i)) := fun w => by
  have := KO (a := N - 8) w (N := N) (by omega)
  rw [show ((N - 8 : Nat) : Int) = (N : Int) - 8 by omega, show ((N - 8 + 8 : Nat) : Int) = (N : Int) by omega] at this
  exact this
 rw [c1, c1, c2, c2, fV (fun i hi => h (0 + i) (.inl (by omega))), fV (fun i hi => h (N - 8 + i) (.inr (by omega)))]
end Go.V.P
set_option linter.unusedVariables false
set_option linter.unusedSimpArgs false
namespace Go.V.P
open Go.V Go.Proofs
def abv : gQ := ⟨⟨⟨0, 0, 0⟩, [], []⟩, [], 0, false⟩
noncomputable def dAt (F : Nat) (g : aJ) (w : Nat → Int) (v : Nat) : aV := match kZ F g (tab 1208 (seg w v)) with
 | some (d, _) => d
 | none => D0
theorem abw {F : Nat} {g : aJ} {w : Nat → Int} {v : Nat} {d : aV} {b : Bool} (h : kZ F g (tab 1208 (seg w v)) = some (d, b)) : dAt F g w v = d := by
 unfold dAt; rw [h]
theorem Xc (F : Nat) (hF : 2000 ≤ F) {g : aJ} (hg : GG g) {w : Nat → Int} (hu : ∀ i, i < N1 g → u64 (w i)) {x : dK × Bool × Bool} (hx : x.1.bH = g) (Q : gQ × Bool → Prop) (k : List Int → Int → List aV → Option (gQ × Bool))
  (hbad : ∀ v d, v < g.ak.toNat → kZ F g (tab 1208 (seg w v)) = some (d, false) → Q (abv, false))
  (hk : (∀ v, v < g.ak.toNat → pR F g (seg w v) (dAt F g w v)) → Tot (k (tab (N1 g) (o9 (qM (dAt F g w) g.ak.toNat) w)) ((qM (dAt F g w) g.ak.toNat).length : Nat) (tab g.ak.toNat (dAt F g w))) Q) :
  Tot (iO F x k F (tab (N1 g) w) (0 : Int) (0 : Int) []) Q := by
 have t1 := hg.t1; have t2 := hg.t2; have c8 := C8 hg
 obtain ⟨hAB, hBC, hN⟩ := AC g
 refine lu (σ := List Int × Int × List aV) (fun n v s => iO F x k n s.1 s.2.1 v s.2.2) g.ak.toNat (fun v s => s = (tab (N1 g) (o9 (qM (dAt F g w) v) w), (((qM (dAt F g w) v).length : Nat) : Int), tab v (dAt F g w)) ∧ ∀ i, i < v → pR F g (seg w i) (dAt F g w i)) (fun n v s hv hI hk2 => ?_) (fun n s hI => ?_) F 0 (tab (N1 g) w, (0 : Int), []) (by omega) (by omega) ⟨rfl, fun i h => by omega⟩
 ·obtain ⟨rfl, hI⟩ := hI
  have wL : ∀ i, i < v → DG g (dAt F g w i) ∧ ∀ y ∈ (dAt F g w i).xW, u64 y.xV := fun i hi => pR.facts hF hg (fun j hj => hu _ (by have := N8 g (v := i) (by omega); omega)) (hI i hi)
  obtain ⟨ho, hu'⟩ := P5 hF hg hu wL
  show Tot (iO F x k (n + 1) (tab (N1 g) (o9 (qM (dAt F g w) v) w)) (((qM (dAt F g w) v).length : Nat) : Int) (v : Int) (tab v (dAt F g w))) Q
  have hA := N8 g hv
  have hl : (tab (N1 g) (o9 (qM (dAt F g w) v) w)).length = N1 g := aP _ _
  have hlv : (tab v (dAt F g w)).length = v := aP _ _
  have hcl := uw (dAt F g w) v
  unfold iO
  rw [hx, decide_eq_true (by omega : (v : Int) < g.ak), ct]
  refine iQ (pK F hg hv) (lC (dF ⟨by omega, by omega⟩ (dF ⟨by omega, by omega, by omega⟩ ?_)))
  have hcut : cut (tab (N1 g) (o9 (qM (dAt F g w) v) w)) ((16 + 1208 * v : Nat) : Int) (((16 + 1208 * v : Nat) : Int) + 1208) = tab 1208 (seg w v) := by
   rw [show (((16 + 1208 * v : Nat) : Int) + 1208) = ((16 + 1208 * v + 1208 : Nat) : Int) by omega, yQ (by omega) (by omega), show 16 + 1208 * v + 1208 - (16 + 1208 * v) = 1208 by omega]
   exact fV fun j hj => ho _ (.inl (by omega))
  dsimp only
  rw [hcut]
  obtain ⟨⟨d, b⟩, hd, hdk⟩ := RG (f := seg w v) F hF hg (fun j hj => hu _ (by omega))
  refine iQ hd ?_
  dsimp only
  refine gJ (fun h => bZ ?_) fun h => lC ?_
  ·have hb : b = false := by simpa using h
   exact hbad v d hv (by rw [hd, hb])
  ·have hb : b = true := by simpa using h
   subst hb
   have e := abw hd
   have acQ : pR F g (seg w v) (dAt F g w v) := by rw [e]; exact hdk rfl
   have hI' : ∀ i, i < v + 1 → pR F g (seg w i) (dAt F g w i) := fun i hi => by
    by_cases h : i < v
    ·exact hI i h
    ·obtain rfl : i = v := by omega
     exact acQ
   obtain ⟨hDG, hV⟩ := pR.facts hF hg (fun j hj => hu _ (by omega)) acQ
   have hs : qM (dAt F g w) (v + 1) = if (dAt F g w v).bK = 2 then qM (dAt F g w) v ++ [(dAt F g w v).xW] else qM (dAt F g w) v := rfl
   show Tot (bif (d.bK == 2) then _ else _) Q
   rw [← e]
   refine gJ (fun h2 => dF ⟨by omega, by omega⟩ ?_) fun h2 => ?_
   ·have h2 : (dAt F g w v).bK = 2 := by simpa using h2
    rw [if_pos h2] at hs
    refine iQ (acP F (by omega) (by have := hDG.len; omega) (by have := hDG.len; omega) (fun y hy => by have := hDG.w y hy; omega) _) (dF (by simp only [List.length_cons, List.length_nil]; omega) (dF ⟨by omega, by omega⟩ ?_))
    rw [cs]
    refine hk2 (_, _, _) ⟨?_, hI'⟩
    rw [hs, oG, yR, List.length_append]
    rfl
   ·have h2 : (dAt F g w v).bK ≠ 2 := by simpa using h2
    rw [if_neg h2] at hs
    refine dF (by simp only [List.length_cons, List.length_nil]; omega) (dF ⟨by omega, by omega⟩ ?_)
    rw [cs]
    refine hk2 (_, _, _) ⟨?_, hI'⟩
    rw [hs, oG]
    rfl
 ·obtain ⟨rfl, hI⟩ := hI
  show Tot (iO F x k (n + 1) _ _ ((g.ak.toNat : Nat) : Int) _) Q
  unfold iO
  rw [hx, decide_eq_false (by omega : ¬ ((g.ak.toNat : Nat) : Int) < g.ak), cf]
  exact hk hI
theorem YL (F : Nat) (hF : 2000 ≤ F) {N : Nat} {w : Nat → Int} (hN : 8 ≤ N) (hN2 : N ≤ 40000) (hN8 : N % 8 = 0) (hu : ∀ i, i < N → u64 (w i)) : Tot (nD F (tab N w)) fun r => r.2 = true → ∃ g D, Il F w N r.1 g D := by
  have hl : (tab N w).length = N := aP _ _
  obtain ⟨x, hx, hok⟩ := KP F (by omega) hN hN2 hN8 hu
  unfold nD
  refine iQ hx (gJ (fun _ => bZ fun h => by cases h) fun hb => lC (dF ⟨by omega, by omega⟩ (dF ⟨by omega, by omega, by omega⟩ ?_)))
  obtain ⟨hg, hNg, hbt⟩ := hok (by cases h1 : x.2.1 <;> cases h2 : x.2.2 <;> simp_all)
  have c2 : cut (tab N w) (((tab N w).length : Nat) - 8 : Int) (((tab N w).length : Nat) : Int) = tab 8 (fun i => w (N - 8 + i)) := by
    have := KO (a := N - 8) w (N := N) (by omega)
    rw [show ((N - 8 : Nat) : Int) = (N : Int) - 8 by omega, show ((N - 8 + 8 : Nat) : Int) = (N : Int) by omega] at this
    rw [hl]
    exact this
  rw [c2]
  refine iR (zo F (by omega) (aP _ _) (fun i hi => by rw [dU hi]; exact hu _ (by omega))) fun x100 aam => ?_
  have rest : ∀ v3 : Int, u64 v3 → Tot (bif (decide ((4611686018427387904 : Int) ≤ v3)) then some ((⟨(⟨(⟨(0 : Int), (0 : Int), (0 : Int)⟩ : aJ), ([] : (List aZ)), ([] : (List aH))⟩ : aI), ([] : (List aV)), (0 : Int), false⟩ : gQ), false) else (jn (fun (v6 : (List Int)) (v7 : Int) (v8 : (List aV)) => (jQ F v6).bind fun x10 => some ((⟨x10.1, v8, (IntKind.u64.wrap (v3 + (1 : Int))), x.2.1⟩ : gQ), ((decide (v7 ≤ (1 : Int))) && (x10.2 == (0 : Int))))) fun k9 => iO F x k9 F (tab N w) (0 : Int) (0 : Int) ([] : List aV)))
      fun r => r.2 = true → ∃ g D, Il F w N r.1 g D := by
    intro v3 hv3
    refine gJ (fun _ => bZ fun h => by cases h) fun hlt => lC ?_
    simp only [decide_eq_false_iff_not] at hlt
    have h3 := hv3.1
    subst hNg
    refine Xc F hF hg hu rfl _ _ (fun _ _ _ _ h => by cases h) fun hD => ?_
    have wL : ∀ i, i < x.1.bH.ak.toNat → DG x.1.bH (dAt F x.1.bH w i) ∧ ∀ y ∈ (dAt F x.1.bH w i).xW, u64 y.xV := fun i hi => pR.facts hF hg (fun j hj => hu _ (by have := N8 x.1.bH hi; obtain ⟨a1, a2, a3⟩ := AC x.1.bH; omega)) (hD i hi)
    obtain ⟨ho, hu'⟩ := P5 hF hg hu wL
    obtain ⟨a1, a2, a3⟩ := AC x.1.bH
    have hfind : iV F (tab (N1 x.1.bH) (o9 (qM (dAt F x.1.bH w) x.1.bH.ak.toNat) w)) = some x := by
      rw [← hx]
      exact find_congr F hN fun i hi => ho i (by have : 16 ≤ A1 x.1.bH := by (unfold A1; omega)
                                                 omega)
    obtain ⟨x10, e10, h10⟩ := N7 F (by omega) hg hu' rfl hb hfind
    refine iQ e10 (bZ fun h => ?_)
    simp only [Bool.and_eq_true, decide_eq_true_eq, beq_iff_eq] at h
    refine ⟨x.1.bH, dAt F x.1.bH w, hg, rfl, rfl, hD, ?_, h10.2 h.2, ⟨?_, ?_⟩, x, hfind, rfl, hb⟩
    · rw [e10]; obtain ⟨y1, y2⟩ := x10; rw [show y2 = 0 from h.2]
    · show 1 ≤ IntKind.u64.wrap (v3 + 1)
      rw [IntKind.wrap_u64]; omega
    · show IntKind.u64.wrap (v3 + 1) ≤ _
      rw [IntKind.wrap_u64]; omega
  refine gJ (fun h => ?_) fun _ => rest _ hbt
  rw [PD, ob, Gj, ob]
  simp only [Bool.and_eq_true] at h
  refine rest _ ?_
  have := (aam h.1).2.2
  unfold mx
  split
  · exact this
  · exact hbt
end Go.V.P
set_option linter.unusedVariables false
set_option linter.unusedSimpArgs false
namespace Go.V.P
open Go.V Go.Proofs
def fw (d : aV) : Int := ((d.bK.toNat + d.bJ.kP.toNat * 256 + d.xW.length * 65536 + d.jD.toNat * 4294967296 : Nat) : Int)
def mkL (D : Nat → aV) : Nat → List aB
 | 0 => []
 | v + 1 => (if (D v).bK = 1 then mkL D v ++ [⟨((16 + 1208 * v : Nat) : Int) + 5, 0⟩, ⟨((16 + 1208 * v : Nat) : Int) + 6, 0⟩] else mkL D v) ++ [⟨((16 + 1208 * v : Nat) : Int), fw (wB (D v))⟩]
theorem Au (D : Nat → aV) : ∀ v, (mkL D v).length ≤ 3 * v
 | 0 => Nat.le_refl _
 | v + 1 => by
  have := Au D v
  unfold mkL
  split <;> simp only [List.length_append, List.length_cons, List.length_nil] <;> omega
theorem P6 (D : Nat → aV) : ∀ {v : Nat} {x : aB}, x ∈ mkL D v → ∃ i j, i < v ∧ j < 7 ∧ x.xAt = ((16 + 1208 * i + j : Nat) : Int)
 | 0, x, h => by cases h
 | v + 1, x, h => by
  unfold mkL at h
  rcases List.mem_append.1 h with h | h
  ·split at h
   ·rcases List.mem_append.1 h with h | h
    ·obtain ⟨i, j, h1, h2, h3⟩ := P6 D h; exact ⟨i, j, by omega, h2, h3⟩
    ·simp only [List.mem_cons, List.not_mem_nil, or_false] at h
     rcases h with rfl | rfl
     ·exact ⟨v, 5, by omega, by omega, by show ((16 + 1208 * v : Nat) : Int) + 5 = _; omega⟩
     ·exact ⟨v, 6, by omega, by omega, by show ((16 + 1208 * v : Nat) : Int) + 6 = _; omega⟩
   ·obtain ⟨i, j, h1, h2, h3⟩ := P6 D h; exact ⟨i, j, by omega, h2, h3⟩
  ·rw [List.mem_singleton] at h
   subst h
   exact ⟨v, 0, by omega, by omega, rfl⟩
def mkW (d : aV) (j : Nat) (x : Int) : Int := if j = 0 then fw (wB d) else if d.bK = 1 ∧ (j = 5 ∨ j = 6) then 0 else x
theorem VZ (D : Nat → aV) (w : Nat → Int) : ∀ (n v j : Nat), j < 1208 → app (mkL D n) w (16 + 1208 * v + j) = if v < n then mkW (D v) j (w (16 + 1208 * v + j)) else w (16 + 1208 * v + j)
 | 0, v, j, hj => by rw [if_neg (by omega)]; rfl
 | n + 1, v, j, hj => by
  unfold mkL
  rw [RI]
  show (if 16 + 1208 * v + j = (((16 + 1208 * n : Nat) : Int)).toNat then _ else _) = _
  have e5 : (((16 + 1208 * n : Nat) : Int) + 5).toNat = 16 + 1208 * n + 5 := by omega
  have e6 : (((16 + 1208 * n : Nat) : Int) + 6).toNat = 16 + 1208 * n + 6 := by omega
  have ih := VZ D w n v j hj
  rw [Int.toNat_natCast]
  by_cases hv : v = n
  ·subst hv
   rw [if_neg (by omega)] at ih
   rw [if_pos (show v < v + 1 by omega)]
   unfold mkW
   by_cases h0 : j = 0
   ·rw [if_pos (by omega), if_pos h0]
   ·rw [if_neg (by omega), if_neg h0]
    by_cases h1 : (D v).bK = 1
    ·rw [if_pos h1, xP]
     show (if 16 + 1208 * v + j = (((16 + 1208 * v : Nat) : Int) + 6).toNat then (0 : Int) else if 16 + 1208 * v + j = (((16 + 1208 * v : Nat) : Int) + 5).toNat then (0 : Int) else app (mkL D v) w (16 + 1208 * v + j)) = _
     rw [e5, e6]
     by_cases h6 : j = 6
     ·rw [if_pos (by omega), if_pos ⟨h1, .inr h6⟩]
     ·rw [if_neg (by omega)]
      by_cases h5 : j = 5
      ·rw [if_pos (by omega), if_pos ⟨h1, .inl h5⟩]
      ·rw [if_neg (by omega), if_neg (by omega), ih]
    ·rw [if_neg h1, if_neg (by omega), ih]
  ·rw [if_neg (by omega)]
   have e : app (if (D n).bK = 1 then mkL D n ++ [⟨((16 + 1208 * n : Nat) : Int) + 5, 0⟩, ⟨((16 + 1208 * n : Nat) : Int) + 6, 0⟩] else mkL D n) w (16 + 1208 * v + j) = app (mkL D n) w (16 + 1208 * v + j) := by
    split
    ·rw [xP]
     show (if 16 + 1208 * v + j = (((16 + 1208 * n : Nat) : Int) + 6).toNat then (0 : Int) else if 16 + 1208 * v + j = (((16 + 1208 * n : Nat) : Int) + 5).toNat then (0 : Int) else app (mkL D n) w (16 + 1208 * v + j)) = _
     rw [e5, e6, if_neg (by omega), if_neg (by omega)]
    ·rfl
   rw [e, ih]
   by_cases h : v < n
   ·rw [if_pos h, if_pos (by omega)]
   ·rw [if_neg h, if_neg (by omega)]
noncomputable def stp (g : aJ) (D : Nat → aV) (b : Int) (first : Bool) : List (List aB) :=
 qM D g.ak.toNat ++ [mkL D g.ak.toNat, [⟨8, 0⟩]] ++ bif first then [blk g b (C1 g), blk g b 0] else [blk g b 0, blk g b (C1 g)]
theorem YM (F : Nat) (hF : 100 ≤ F) {g : aJ} (hg : GG g) {p : gQ} {D : Nat → aV} (hp : p.xs.bH = g) (hw : p.mG = tab g.ak.toNat D) (hD : ∀ v, v < g.ak.toNat → DG g (D v)) (k : List aB → List (List aB) → Option (List (List aB))) (Q : List (List aB) → Prop) (n v : Nat) (hv : v < g.ak.toNat)
  (hk : Tot (gX F p k n ((v + 1 : Nat) : Int) (mkL D (v + 1)) (qM D (v + 1))) Q) : Tot (gX F p k (n + 1) (v : Int) (mkL D v) (qM D v)) Q := by
 have t1 := hg.t1; have t2 := hg.t2; have c8 := C8 hg
 have hwl : p.mG.length = g.ak.toNat := by rw [hw]; exact aP _ _
 have hcv := uw D v
 have hmv := Au D v
 have hn : nth p.mG (v : Int) = D v := by rw [hw, dU hv]
 have hcs : qM D (v + 1) = if (D v).bK = 2 then qM D v ++ [(D v).xW] else qM D v := rfl
 have hms : mkL D (v + 1) = (if (D v).bK = 1 then mkL D v ++ [⟨((16 + 1208 * v : Nat) : Int) + 5, 0⟩, ⟨((16 + 1208 * v : Nat) : Int) + 6, 0⟩] else mkL D v) ++ [⟨((16 + 1208 * v : Nat) : Int), fw (wB (D v))⟩] := rfl
 unfold gX
 rw [hwl, dlt hv, ct, hp, hn]
 refine dF ⟨by omega, by omega⟩ (iQ (pK F hg hv) (lC ?_))
 have k62 : ∀ out, out = qM D (v + 1) → Tot (jn (fun (v63 : List aB) => (qh F (D v)).bind fun x65 => (lg F x65).bind fun x66 => gd ((v63.length + ([(⟨((16 + 1208 * v : Nat) : Int), x66⟩ : aB)] : List aB).length) * 16 ≤ 140737488355328) (gd (inI ((v : Int) + (1 : Int))) (gX F p k n ((v : Int) + (1 : Int)) (v63 ++ ([(⟨((16 + 1208 * v : Nat) : Int), x66⟩ : aB)] : List aB)) out)))
   fun k64 => (bif ((D v).bK == (1 : Int)) then gd (inI (((16 + 1208 * v : Nat) : Int) + (5 : Int))) (gd (inI (((16 + 1208 * v : Nat) : Int) + (6 : Int))) (gd (((mkL D v).length + ([(⟨(((16 + 1208 * v : Nat) : Int) + (5 : Int)), (0 : Int)⟩ : aB), (⟨(((16 + 1208 * v : Nat) : Int) + (6 : Int)), (0 : Int)⟩ : aB)] : List aB).length) * 16 ≤ 140737488355328) (k64 (mkL D v ++ ([(⟨(((16 + 1208 * v : Nat) : Int) + (5 : Int)), (0 : Int)⟩ : aB), (⟨(((16 + 1208 * v : Nat) : Int) + (6 : Int)), (0 : Int)⟩ : aB)] : List aB))))) else k64 (mkL D v))) Q := by
  intro out ho
  refine lC ?_
  have k64 : ∀ m : List aB, m.length ≤ 100 → m ++ [⟨((16 + 1208 * v : Nat) : Int), fw (wB (D v))⟩] = mkL D (v + 1) → Tot ((qh F (D v)).bind fun x65 => (lg F x65).bind fun x66 => gd ((m.length + ([(⟨((16 + 1208 * v : Nat) : Int), x66⟩ : aB)] : List aB).length) * 16 ≤ 140737488355328) (gd (inI ((v : Int) + (1 : Int))) (gX F p k n ((v : Int) + (1 : Int)) (m ++ ([(⟨((16 + 1208 * v : Nat) : Int), x66⟩ : aB)] : List aB)) out))) Q := by
   intro m hm1 hm2
   refine iQ (then_eq F _) (iQ (Xb F (by omega) (PX (hD v hv))) (dF (by simp only [List.length_cons, List.length_nil]; omega) (dF ⟨by omega, by omega⟩ ?_)))
   rw [cs]
   rw [← hm2, ← ho] at hk
   exact hk
  refine gJ (fun h => dF ⟨by omega, by omega⟩ (dF ⟨by omega, by omega⟩ (dF (by simp only [List.length_cons, List.length_nil]; omega) ?_))) fun h => ?_
  ·have h1 : (D v).bK = 1 := by simpa using h
   exact k64 _ (by simp only [List.length_append, List.length_cons, List.length_nil]; omega) (by rw [hms, if_pos h1])
  ·have h1 : (D v).bK ≠ 1 := by simpa using h
   exact k64 _ (by omega) (by rw [hms, if_neg h1])
 refine gJ (fun h => dF (by simp only [List.length_cons, List.length_nil]; omega) ?_) fun h => ?_
 ·have h2 : (D v).bK = 2 := by simpa using h
  exact k62 _ (by rw [hcs, if_pos h2])
 ·have h2 : (D v).bK ≠ 2 := by simpa using h
  exact k62 _ (by rw [hcs, if_neg h2])
theorem YN (F : Nat) (hF : 100 ≤ F) {g : aJ} (hg : GG g) {p : gQ} {D : Nat → aV} (hp : p.xs.bH = g) (hw : p.mG = tab g.ak.toNat D) (hD : ∀ v, v < g.ak.toNat → DG g (D v)) : oK F p = some (stp g D p.lG p.lM) := by
 have t1 := hg.t1; have t2 := hg.t2; have c8 := C8 hg
 have hcl := uw D g.ak.toNat
 have hwl : p.mG.length = g.ak.toNat := by rw [hw]; exact aP _ _
 have : Tot (oK F p) fun r => r = stp g D p.lG p.lM := by
  unfold oK
  refine lC ?_
  refine lu (σ := List aB × List (List aB)) (fun n v s => gX F p _ n v s.1 s.2) g.ak.toNat (fun v s => s = (mkL D v, qM D v)) (fun n v s hv hI hk => ?_) (fun n s hI => ?_) F 0 ([], []) (by omega) (by omega) rfl
  ·obtain rfl := hI
   exact YM F hF hg hp hw hD _ _ n v hv (hk _ rfl)
  ·obtain rfl := hI
   show Tot (gX F p _ (n + 1) _ (mkL D g.ak.toNat) (qM D g.ak.toNat)) _
   unfold gX
   rw [hwl, dge, cf, hp]
   have hp' : p = ⟨p.xs, p.mG, p.lG, p.lM⟩ := rfl
   have hb0 : kT F p 0 = some (blk g p.lG 0) := by rw [hp']; exact Gp F (by omega) hg _ hp _ _ _ 0 (by omega)
   have hbC : kT F p ((C1 g : Nat) : Int) = some (blk g p.lG (C1 g)) := by rw [hp']; exact Gp F (by omega) hg _ hp _ _ _ _ (by omega)
   refine iQ (CG F hg) (dF (by decide) (dF (by decide) (dF (by simp only [List.length_cons, List.length_nil]; omega) ?_)))
   refine gJ (fun h => iQ (xJ F hg) (iQ hbC (iQ hb0 (dF (by simp only [List.length_append, List.length_cons, List.length_nil]; omega) (bZ ?_))))) fun h => iQ hb0 (iQ (xJ F hg) (iQ hbC (dF (by simp only [List.length_append, List.length_cons, List.length_nil]; omega) (bZ ?_))))
   ·unfold stp; rw [h]; rfl
   ·unfold stp; rw [h]; rfl
 obtain ⟨r, h1, h2⟩ := this
 rw [h1, h2]
end Go.V.P
set_option linter.unusedVariables false
set_option linter.unusedSimpArgs false
namespace Go.V.P
open Go.V Go.Proofs
noncomputable def Fa (g : aJ) (b : Int) (i : Nat) : Int := (sup ⟨g, b⟩).getD i 0
theorem zO (x : Int) : u64 (IntKind.u64.wrap x) := by rw [IntKind.wrap_u64]; exact ⟨by omega, by omega⟩
theorem Uy (g : aJ) {b : Int} (hb : u64 b) (i : Nat) : u64 (Fa g b i) := by
 unfold Fa sup
 have hw : ∀ z, u64 (word2 z) := fun z => zO _
 have h0 : u64 0 := ⟨by omega, by omega⟩
 match i with
 | 0 => exact (⟨by decide, by decide⟩ : u64 8243106252149764145)
 | 1 => exact zO _
 | 2 => exact zO _
 | 3 => exact zO _
 | 4 => exact hb
 | 5 => exact h0
 | 6 => exact h0
 | 7 => exact hw _
 | i + 8 => exact h0
section
variable {g : aJ} {D : Nat → aV} {b : Int} {first : Bool} {w : Nat → Int}
theorem KQ (hg : GG g) (i : Nat) : o9 (stp g D b first) w i = if i < 8 then Fa g b i else if i < C1 g then (if i = 8 then 0 else app (mkL D g.ak.toNat) (o9 (qM D g.ak.toNat) w) i) else if i < C1 g + 8 then Fa g b (i - C1 g) else app (mkL D g.ak.toNat) (o9 (qM D g.ak.toNat) w) i := by
 have c8 := C8 hg
 have hb : ∀ (a : Nat) (u : Nat → Int), app (blk g b a) u i = if a ≤ i ∧ i < a + 8 then Fa g b (i - a) else u i := fun a u => Kv a _ u i 8
 unfold stp
 rw [yR, yR]
 generalize hu : o9 [mkL D g.ak.toNat, [(⟨8, 0⟩ : aB)]] (o9 (qM D g.ak.toNat) w) = u
 have hui : u i = if i = 8 then 0 else app (mkL D g.ak.toNat) (o9 (qM D g.ak.toNat) w) i := by rw [← hu]; rfl
 have e : o9 (bif first then [blk g b (C1 g), blk g b 0] else [blk g b 0, blk g b (C1 g)]) u i = if i < 8 then Fa g b i else if i < C1 g then u i else if i < C1 g + 8 then Fa g b (i - C1 g) else u i := by
  cases first
  ·show app (blk g b (C1 g)) (app (blk g b 0) u) i = _
   rw [hb, hb]
   by_cases h1 : i < 8
   ·rw [if_neg (by omega), if_pos (by omega), if_pos h1]; rfl
   ·rw [if_neg h1]
    by_cases h2 : i < C1 g
    ·rw [if_neg (by omega), if_neg (by omega), if_pos h2]
    ·rw [if_neg h2]
     by_cases h3 : i < C1 g + 8
     ·rw [if_pos (by omega), if_pos h3]
     ·rw [if_neg (by omega), if_neg (by omega), if_neg h3]
  ·show app (blk g b 0) (app (blk g b (C1 g)) u) i = _
   rw [hb, hb]
   by_cases h1 : i < 8
   ·rw [if_pos (by omega), if_pos h1]; rfl
   ·rw [if_neg (by omega), if_neg h1]
    by_cases h2 : i < C1 g
    ·rw [if_neg (by omega), if_pos h2]
    ·rw [if_neg h2]
     by_cases h3 : i < C1 g + 8
     ·rw [if_pos (by omega), if_pos h3]
     ·rw [if_neg (by omega), if_neg h3]
 rw [e, hui]
 by_cases h1 : i < 8
 ·rw [if_pos h1, if_pos h1]
 ·rw [if_neg h1, if_neg h1]
  by_cases h2 : i < C1 g
  ·rw [if_pos h2, if_pos h2]
  ·rw [if_neg h2, if_neg h2, if_neg (by omega : ¬ i = 8)]
end
theorem adP {g : aJ} {d : aV} (h : DG g d) : u64 (fw d) := by
 obtain ⟨h1, h2, h3, h4, h5⟩ := h
 unfold fw u64
 rcases h5 with ⟨e1, e2, e3, e4, e5⟩ | ⟨e1, e2, e3, e4, e5⟩ | ⟨e1, e4, e5⟩ <;> omega
theorem Xd {F : Nat} (hF : 2000 ≤ F) {g : aJ} (hg : GG g) {f f' : Nat → Int} {d : aV} (hu : ∀ j, j < 1208 → u64 (f j)) (h : pR F g f d) (hm : ∀ j, j < 1208 → f' j = mkW d j (f j)) : pR F g f' (wB d) := by
 obtain ⟨hDG, _⟩ := pR.facts hF hg hu h
 have f0 : f' 0 = fw (wB d) := hm 0 (by omega)
 have hsame : ∀ j, j < 1208 → j ≠ 0 → (d.bK ≠ 1 ∨ (j ≠ 5 ∧ j ≠ 6)) → f' j = f j := by
  intro j hj h0 h1
  rw [hm j hj]
  unfold mkW
  rw [if_neg h0, if_neg (by omega)]
 have f7 : f' 7 = f 7 := hsame 7 (by omega) (by omega) (.inr (by omega))
 rcases h with ⟨h0, h7, rfl⟩ | ⟨h0, hN, hI, h7, a, b, rfl, h1, h2, hgd⟩
 ·exact .inl ⟨f0, by rw [f7, h7], rfl⟩
 ·have u0 := hu 0 (by omega)
  have hst := hDG.st
  obtain ⟨x, hx, hx2⟩ := Ar F (by omega) hg (dsc f a b)
  rw [hgd] at hx; injection hx with hx
  obtain ⟨_, hws⟩ := hx2 hx.symm
  have hW : (dsc f a b).xW.length = (f 0).toNat / 65536 % 65536 := aP _ _
  have es : (dsc f a b).bK = (((f 0).toNat % 256 : Nat) : Int) := rfl
  have eq : (dsc f a b).jD = (((f 0).toNat / 4294967296 : Nat) : Int) := rfl
  have ee : (dsc f a b).bJ.kP = (((f 0).toNat / 256 % 256 : Nat) : Int) := rfl
  have hs4 : (f 0).toNat % 256 = 1 ∨ (f 0).toNat % 256 = 2 ∨ (f 0).toNat % 256 = 3 ∨ (f 0).toNat % 256 = 4 := by
   rcases hst with ⟨e1, e2, e3, e4, e5⟩ | ⟨e1, e2, e3, e4, e5⟩ | ⟨e1, e4, e5⟩
   ·exfalso
    rw [es] at e1; rw [eq] at e4
    have e6 : (((f 0).toNat / 256 % 256 : Nat) : Int) = 0 := by rw [← ee, e2]
    have e7 : (f 0).toNat / 65536 % 65536 = 0 := by rw [← hW, e3]; rfl
    have := u0.1; have := u0.2
    apply h0
    omega
   ·rw [es] at e1; omega
   ·rw [es] at e1; omega
  generalize hst' : (wB (dsc f a b)).bK.toNat = st'
  have hst2 : (wB (dsc f a b)).bK = (st' : Int) ∧ (st' = 3 ∨ st' = 4) := by
   unfold wB at hst' ⊢
   dsimp only at hst' ⊢
   rw [es] at hst' ⊢
   rcases hs4 with h | h | h | h <;> rw [h] at hst' ⊢ <;> simp at hst' <;> subst hst' <;> simp
  have hf0 : f' 0 = ((st' + (f 0).toNat / 256 % 256 * 256 + (f 0).toNat / 65536 % 65536 * 65536 + (f 0).toNat / 4294967296 * 4294967296 : Nat) : Int) := by
   rw [f0]
   unfold fw
   rw [hst']
   show ((st' + (dsc f a b).bJ.kP.toNat * 256 + (dsc f a b).xW.length * 65536 + (dsc f a b).jD.toNat * 4294967296 : Nat) : Int) = _
   rw [hW, ee, eq, Int.toNat_natCast, Int.toNat_natCast]
  have hn : (f' 0).toNat = st' + (f 0).toNat / 256 % 256 * 256 + (f 0).toNat / 65536 % 65536 * 65536 + (f 0).toNat / 4294967296 * 4294967296 := by rw [hf0, Int.toNat_natCast]
  have n1 : (f' 0).toNat % 256 = st' := by omega
  have n2 : (f' 0).toNat / 256 % 256 = (f 0).toNat / 256 % 256 := by omega
  have n3 : (f' 0).toNat / 65536 % 65536 = (f 0).toNat / 65536 % 65536 := by omega
  have n4 : (f' 0).toNat / 4294967296 = (f 0).toNat / 4294967296 := by omega
  have hbig : ∀ j, 8 ≤ j → j < 1208 → f' j = f j := fun j h8 hj => hsame j hj (by omega) (.inr (by omega))
  have hlow : ∀ j, 1 ≤ j → j < 5 → f' j = f j := fun j h8 hj => hsame j (by omega) (by omega) (.inr (by omega))
  have h56 : a = f' 5 ∧ b = f' 6 ∧ f' 6 ≤ 2147483647 := by
   by_cases hs1 : (f 0).toNat % 256 = 1
   ·have hs1' : (dsc f a b).bK = 1 := by rw [es, hs1]; rfl
    have e5 : f' 5 = 0 := by rw [hm 5 (by omega)]; unfold mkW; rw [if_neg (by omega), if_pos ⟨hs1', .inl rfl⟩]
    have e6 : f' 6 = 0 := by rw [hm 6 (by omega)]; unfold mkW; rw [if_neg (by omega), if_pos ⟨hs1', .inr rfl⟩]
    have := h2 hs1
    omega
   ·have hs1' : (dsc f a b).bK ≠ 1 := by rw [es]; omega
    have e5 : f' 5 = f 5 := hsame 5 (by omega) (by omega) (.inl hs1')
    have e6 : f' 6 = f 6 := hsame 6 (by omega) (by omega) (.inl hs1')
    have := h1 hs1
    omega
  refine .inr ⟨by rw [hf0]; omega, by rw [n3]; exact hN, fun i hi => by rw [hbig _ (by omega) (by omega)]; exact hI i (by omega), by rw [f7, h7], a, b, ?_, fun _ => h56, fun h => by omega, ?_⟩
  ·unfold dsc
   rw [n1, n2, n3, n4, hlow 1 (by omega) (by omega), hlow 2 (by omega) (by omega), hlow 3 (by omega) (by omega), hlow 4 (by omega) (by omega), ← hst2.1]
   have ew : tab ((f 0).toNat / 65536 % 65536) (dW f') = tab ((f 0).toNat / 65536 % 65536) (dW f) := fV fun i hi => by
    unfold dW
    rw [hbig (8 + 2 * i) (by omega) (by omega), hbig (9 + 2 * i) (by omega) (by omega)]
   rw [ew]
   rfl
  ·exact RF F hws (PX hDG)
end Go.V.P
set_option linter.unusedVariables false
set_option linter.unusedSimpArgs false
namespace Go.V.P
open Go.V Go.Proofs
structure Ready (F : Nat) (g : aJ) (w : Nat → Int) (b : Int) : Prop where
 gg : GG g
 u : ∀ i, i < N1 g → u64 (w i)
 s1 : ∀ i, i < 8 → w i = Fa g b i
 s2 : ∀ i, i < 8 → w (C1 g + i) = Fa g b i
 lock : w 8 = 0
 desc : ∃ D : Nat → aV, ∀ v, v < g.ak.toNat → pR F g (seg w v) (D v) ∧ (D v).bK ≠ 1 ∧ (D v).bK ≠ 2 ∧ w (16 + 1208 * v) = fw (D v)
 img : ∃ s, s.bH = g ∧ jQ F (tab (N1 g) w) = some (s, 0)
 bnd : 1 ≤ b ∧ b ≤ 4611686018427387904
theorem YO {g : aJ} (hg : GG g) (b : Int) (i : Nat) : (i < 8 → wf g 1 b i = Fa g b i) ∧ wf g 1 b (C1 g + i) = Fa g b i := by
 have hA : 16 ≤ A1 g := by unfold A1; omega
 obtain ⟨hAB, hBC, hN⟩ := AC g
 refine ⟨fun h => by unfold wf; rw [if_pos h]; rfl, ?_⟩
 unfold wf
 rw [if_neg (by omega), if_neg (by omega), if_neg (by omega), if_neg (by omega), show C1 g + i - C1 g = i by omega]
 rfl
theorem YP (F : Nat) (hF : 20 ≤ F) {g : aJ} (hg : GG g) {w : Nat → Int} {b : Int} (h1 : ∀ i, i < 8 → w i = Fa g b i) (h2 : ∀ i, i < 8 → w (C1 g + i) = Fa g b i) : iV F (tab (N1 g) w) = some (⟨g, b⟩, true, true) := by
 obtain ⟨hAB, hBC, hN⟩ := AC g
 have hfind := EZ F hF hg 1 b
 unfold P1 at hfind
 rw [← hfind]
 refine find_congr F (by omega) fun i hi => ?_
 rcases hi with hi | hi
 ·rw [h1 i hi, (YO hg b i).1 hi]
 ·obtain ⟨j, rfl⟩ : ∃ j, i = C1 g + j := ⟨i - C1 g, by omega⟩
  rw [h2 j (by omega), (YO hg b j).2]
theorem Xe (F : Nat) (hF : 6000 ≤ F) {g : aJ} {w : Nat → Int} {b : Int} (h : Ready F g w b) {M : aC} {c : Nat} (hM : Mem M (N1 g / 8) w c) : ∃ G, oV F M = some (some G, 0) := by
 have hg := h.gg
 have t1 := hg.t1; have t2 := hg.t2; have c8 := C8 hg
 obtain ⟨hAB, hBC, hN⟩ := AC g
 have hA : 16 ≤ A1 g := by unfold A1; omega
 have hl : (tab (N1 g) w).length = N1 g := aP _ _
 have tY : gK F M = some (tab (N1 g) w) := by
  rw [wo F hM (by omega) (by omega), show 8 * (N1 g / 8) = N1 g by omega]
 obtain ⟨s, hs, adQ⟩ := h.img
 obtain ⟨D, hD⟩ := h.desc
 have : Tot (oV F M) fun r => ∃ G, r = (some G, 0) := by
  unfold oV jC
  rw [hM.off, ob, cf]
  refine iQ tY (iQ adQ ?_)
  dsimp only
  rw [hs, show ((0 : Int) != 0) = false from rfl, fff, lzt]
  have n8 : nth (tab (N1 g) w) 8 = 0 := by
   rw [show (8 : Int) = ((8 : Nat) : Int) from rfl, dU (by omega), h.lock]
  refine iQ (CG F hg) (dF (fun _ => ⟨by decide, by rw [hl]; omega⟩) ?_)
  rw [n8, show (false || ((0 : Int) != 0)) = false from rfl, cf]
  refine lC ?_
  refine zn (fun n v => jV F (tab (N1 g) w) (s, 0) _ n v) g.ak.toNat (fun _ => True) (fun n v hv _ hk => ?_) (fun n _ => ?_) F 0 (by omega) (by omega) trivial
  ·show Tot (jV F (tab (N1 g) w) (s, 0) _ (n + 1) v) _
   have hsg := N8 g hv
   obtain ⟨hd, hn1, hn2, _⟩ := hD v hv
   unfold jV
   dsimp only
   rw [hs, decide_eq_true (by omega : (v : Int) < g.ak), ct]
   have hcut : cut (tab (N1 g) w) ((16 + 1208 * v : Nat) : Int) (((16 + 1208 * v : Nat) : Int) + 1208) = tab 1208 (seg w v) := by
    rw [show (((16 + 1208 * v : Nat) : Int) + 1208) = ((16 + 1208 * v + 1208 : Nat) : Int) by omega, yQ (by omega) (by omega), show 16 + 1208 * v + 1208 - (16 + 1208 * v) = 1208 by omega]
    rfl
   refine iQ (pK F hg hv) (lC (dF ⟨by omega, by omega⟩ (dF ⟨by omega, by omega, by omega⟩ ?_)))
   dsimp only
   rw [hcut]
   refine iQ (Ux F (by omega) hg (fun j hj => h.u _ (by omega)) hd) ?_
   dsimp only
   rw [show ((D v).bK == 1) = false by simpa using hn1, show ((D v).bK == 2) = false by simpa using hn2, show ((!true || false) || false) = false from rfl, cf]
   refine dF ⟨by omega, by omega⟩ ?_
   rw [cs]
   exact hk trivial
  ·show Tot (jV F (tab (N1 g) w) (s, 0) _ (n + 1) _) _
   unfold jV
   dsimp only
   rw [hs, decide_eq_false (by omega : ¬ ((g.ak.toNat : Nat) : Int) < g.ak), cf]
   exact dF ⟨by omega, by omega, by omega, by omega⟩ (bZ ⟨_, rfl⟩)
 obtain ⟨r, h1, G, h2⟩ := this
 exact ⟨G, by rw [h1, h2]⟩
theorem RJ (F : Nat) (hF : 6000 ≤ F) {g : aJ} {w : Nat → Int} {p : gQ} {D : Nat → aV} (hu : ∀ i, i < N1 g → u64 (w i)) (h : Il F w (N1 g) p g D) : Ready F g (o9 (stp g D p.lG p.lM) w) p.lG := by
 have hg := h.gg
 have t1 := hg.t1; have t2 := hg.t2; have c8 := C8 hg
 obtain ⟨hAB, hBC, hN⟩ := AC g
 have hA : A1 g = 16 + 1208 * g.ak.toNat := rfl
 have wL : ∀ i, i < g.ak.toNat → DG g (D i) ∧ ∀ y ∈ (D i).xW, u64 y.xV := fun i hi => pR.facts (by omega) hg (fun j hj => hu _ (by have := N8 g hi; omega)) (h.desc i hi)
 obtain ⟨ho, hu'⟩ := P5 (F := F) (by omega) hg hu wL
 have hbu : u64 p.lG := ⟨by have := h.PI.1; omega, by have := h.PI.2; omega⟩
 have hseg : ∀ v j, v < g.ak.toNat → j < 1208 → o9 (stp g D p.lG p.lM) w (16 + 1208 * v + j) = mkW (D v) j (w (16 + 1208 * v + j)) := by
  intro v j hv hj
  have := N8 g hv
  rw [KQ hg, if_neg (by omega), if_pos (by omega), if_neg (by omega), VZ D _ _ _ _ hj, if_pos hv, ho _ (.inl (by omega))]
 have hout : ∀ i, 8 < i → i < C1 g → (i < 16 ∨ A1 g ≤ i) → o9 (stp g D p.lG p.lM) w i = o9 (qM D g.ak.toNat) w i := by
  intro i h1 h2 h3
  rw [KQ hg, if_neg (by omega), if_pos (by omega), if_neg (by omega)]
  refine VY fun x hx => ?_
  obtain ⟨i', j, a1, a2, a3⟩ := P6 D hx
  rw [a3, Int.toNat_natCast]
  omega
 have hs1 : ∀ i, i < 8 → o9 (stp g D p.lG p.lM) w i = Fa g p.lG i := fun i hi => by rw [KQ hg, if_pos hi]
 have hs2 : ∀ i, i < 8 → o9 (stp g D p.lG p.lM) w (C1 g + i) = Fa g p.lG i := fun i hi => by
  rw [KQ hg, if_neg (by omega), if_neg (by omega), if_pos (by omega), show C1 g + i - C1 g = i by omega]
 have h8 : o9 (stp g D p.lG p.lM) w 8 = 0 := by rw [KQ hg, if_neg (by omega), if_pos (by omega), if_pos rfl]
 have aaU : ∀ v, (wB (D v)).bK ≠ 1 ∧ (wB (D v)).bK ≠ 2 := by
  intro v
  unfold wB
  dsimp only
  by_cases a : (D v).bK = 2
  ·rw [if_pos a]; exact ⟨by decide, by decide⟩
  ·rw [if_neg a]
   by_cases b : (D v).bK = 1
   ·rw [if_pos b]; exact ⟨by decide, by decide⟩
   ·rw [if_neg b]; exact ⟨b, a⟩
 refine ⟨hg, fun i hi => ?_, hs1, hs2, h8, ⟨fun v => wB (D v), fun v hv => ⟨?_, (aaU v).1, (aaU v).2, ?_⟩⟩, ⟨p.xs, h.geo, ?_⟩, h.PI⟩
 ·by_cases h1 : i < 8
  ·rw [hs1 i h1]; exact Uy g hbu i
  ·by_cases h2 : C1 g ≤ i
   ·have := hs2 (i - C1 g) (by omega)
    rw [show C1 g + (i - C1 g) = i by omega] at this
    rw [this]; exact Uy g hbu _
   ·by_cases h3 : i = 8
    ·rw [h3, h8]; exact ⟨by omega, by omega⟩
    ·by_cases h4 : i < 16 ∨ A1 g ≤ i
     ·rw [hout i (by omega) (by omega) h4]; exact hu' i hi
     ·obtain ⟨v, j, hv, hj, rfl⟩ : ∃ v j, v < g.ak.toNat ∧ j < 1208 ∧ i = 16 + 1208 * v + j := ⟨(i - 16) / 1208, (i - 16) % 1208, by omega, by omega, by omega⟩
      rw [hseg v j hv hj]
      unfold mkW
      split
      ·exact adP (PX (wL v hv).1)
      ·split
       ·exact ⟨by omega, by omega⟩
       ·exact hu _ hi
 ·have := N8 g hv
  exact Xd (f := seg w v) (by omega) hg (fun j hj => hu _ (by omega)) (h.desc v hv) fun j hj => hseg v j hv hj
 ·have := hseg v 0 hv (by omega)
  exact this
 ·obtain ⟨x, hx, hxg, hxb⟩ := h.find
  rw [← h.img]
  refine (image_congr F hg (aP _ _) (aP _ _) hxg rfl hxb (by rfl) hx (YP F (by omega) hg hs1 hs2) fun i h1 h2 => ?_).symm
  rw [dU (by omega), dU (by omega), hout i (by omega) h2 (.inr h1)]
theorem V3 {F : Nat} (hF : 2000 ≤ F) {g : aJ} {w : Nat → Int} {p : gQ} {D : Nat → aV} (hu : ∀ i, i < N1 g → u64 (w i)) (h : Il F w (N1 g) p g D) : (∀ ws ∈ stp g D p.lG p.lM, JI (N1 g / 8) ws ∧ ws.length ≤ 900) ∧ (stp g D p.lG p.lM).length ≤ 8 := by
 have hg := h.gg
 have t1 := hg.t1; have t2 := hg.t2; have c8 := C8 hg
 obtain ⟨hAB, hBC, hN⟩ := AC g
 have hA : A1 g = 16 + 1208 * g.ak.toNat := rfl
 have wL : ∀ i, i < g.ak.toNat → DG g (D i) ∧ ∀ y ∈ (D i).xW, u64 y.xV := fun i hi => pR.facts (by omega) hg (fun j hj => hu _ (by have := N8 g hi; omega)) (h.desc i hi)
 have hcl := uw D g.ak.toNat
 have hml := Au D g.ak.toNat
 have hblk : ∀ a, a + 8 ≤ N1 g → JI (N1 g / 8) (blk g p.lG a) ∧ (blk g p.lG a).length ≤ 900 := by
  intro a ha
  refine ⟨fun x hx => ?_, by unfold blk; rw [aP]; omega⟩
  unfold blk tab at hx
  obtain ⟨v, hv, rfl⟩ := List.mem_map.1 hx
  have hv := List.mem_range.1 hv
  dsimp only
  omega
 have hfit : ∀ ws ∈ stp g D p.lG p.lM, JI (N1 g / 8) ws ∧ ws.length ≤ 900 := by
  intro ws hws
  unfold stp at hws
  rcases List.mem_append.1 hws with hws | hws
  ·rcases List.mem_append.1 hws with hws | hws
   ·obtain ⟨i, hi, rfl⟩ := Gs hws
    have h1 := (wL i hi).1
    exact ⟨fun x hx => by have := h1.w x hx; omega, by have := h1.len; omega⟩
   ·simp only [List.mem_cons, List.not_mem_nil, or_false] at hws
    rcases hws with rfl | rfl
    ·refine ⟨fun x hx => ?_, by omega⟩
     obtain ⟨i', j, a1, a2, a3⟩ := P6 D hx
     rw [a3]
     omega
    ·refine ⟨fun x hx => ?_, by simp⟩
     rw [List.mem_singleton] at hx
     subst hx
     dsimp only
     omega
  ·have : ws = blk g p.lG (C1 g) ∨ ws = blk g p.lG 0 := by
    cases hf : p.lM <;> rw [hf] at hws <;> simp at hws <;> rcases hws with h | h <;> simp [h]
   rcases this with rfl | rfl
   ·exact hblk _ (by omega)
   ·exact hblk _ (by omega)
 have hsl : (stp g D p.lG p.lM).length ≤ 8 := by
  unfold stp
  rw [List.length_append, List.length_append]
  cases p.lM <;> simp only [cond_true, cond_false, List.length_cons, List.length_nil] <;> omega
 exact ⟨hfit, hsl⟩
theorem YQ (F : Nat) (hF : 10000 ≤ F) {g : aJ} {w : Nat → Int} {p : gQ} {D : Nat → aV} (hu : ∀ i, i < N1 g → u64 (w i)) (h : Il F w (N1 g) p g D) (hr : nD F (tab (N1 g) w) = some (p, true)) {M : aC} {c : Nat} (hc : c ≤ 1000000) (hM : Mem M (N1 g / 8) w c) :
  ∃ M' G, lY F M = some (M', some G, 0) ∧ Mem M' (N1 g / 8) (o9 (stp g D p.lG p.lM) w) (c + 16000) ∧ Ready F g (o9 (stp g D p.lG p.lM) w) p.lG := by
 have hg := h.gg
 have t1 := hg.t1; have t2 := hg.t2; have c8 := C8 hg
 obtain ⟨hAB, hBC, hN⟩ := AC g
 have hA : A1 g = 16 + 1208 * g.ak.toNat := rfl
 have KR := RJ F (by omega) hu h
 have wL : ∀ i, i < g.ak.toNat → DG g (D i) ∧ ∀ y ∈ (D i).xW, u64 y.xV := fun i hi => pR.facts (by omega) hg (fun j hj => hu _ (by have := N8 g hi; omega)) (h.desc i hi)
 have hcl := uw D g.ak.toNat
 have hml := Au D g.ak.toNat
 have tY : gK F M = some (tab (N1 g) w) := by
  rw [wo F hM (by omega) (by omega), show 8 * (N1 g / 8) = N1 g by omega]
 obtain ⟨hfit, hsl⟩ := V3 (F := F) (by omega) hu h
 have key := VQ F (R := N1 g / 8) (l := stp g D p.lG p.lM) (by omega) (by omega) (by omega) hfit (by omega) (fun M' G => Mem M' (N1 g / 8) (o9 (stp g D p.lG p.lM) w) (c + 16000))
  (fun v7 v8 v9 v10 v11 => (oV F (⟨v7, v8, v9, v10, v11⟩ : aC)).bind fun x13 => Eo (x13.1) (some ((⟨v7, v8, v9, v10, v11⟩ : aC), none, x13.2)) fun o14 => some ((⟨v7, v8, v9, v10, v11⟩ : aC), (some (⟨(⟨v7, v8, v9, v10, v11⟩ : aC), o14.dB, o14.xw, o14.cu, o14.fP⟩ : aW)), x13.2))
  w c (fun M1 hM1 => by
   obtain ⟨G, hgn⟩ := Xe F (by omega) KR hM1
   refine ⟨M1, ⟨M1, G.dB, G.xw, G.cu, G.fP⟩, ?_, ⟨hM1.len, hM1.wds, hM1.off, hM1.fuse, hM1.Ap, by have := hM1.cnt; omega⟩⟩
   rw [show (⟨M1.xl, M1.dD, M1.bC, M1.bP, M1.bQ⟩ : aC) = M1 from rfl, hgn, ob]
   rfl) hc F 0 M (by omega) (by omega) (by simpa [o9] using hM)
 obtain ⟨M', G, e, hM'⟩ := key
 refine ⟨M', G, ?_, hM', KR⟩
 unfold lY jC
 rw [hM.off, ob, cf, tY, ob, hr, ob, Bool.not_true, cf, jn_, YN F (by omega) hg h.geo h.was (fun v hv => (wL v hv).1), ob]
 rw [hM.off] at e
 exact e
end Go.V.P
set_option linter.unusedVariables false
set_option linter.unusedSimpArgs false
namespace Go.V.P
open Go.V Go.Proofs
end Go.V.P
set_option linter.unusedVariables false
set_option linter.unusedSimpArgs false
namespace Go.V.P
open Go.V Go.Proofs
def sF (l : List Int) : Prop := ∀ x ∈ l, u64 x
theorem u0 : u64 0 := ⟨by omega, by omega⟩
theorem sF.app {a b : List Int} (h1 : sF a) (h2 : sF b) : sF (a ++ b) := fun x hx => (List.mem_append.1 hx).elim (h1 x) (h2 x)
theorem sF.set {l : List Int} (h : sF l) {i x : Int} (hx : u64 x) : sF (dZ l i x) := fun y hy => by
 unfold dZ at hy
 rcases List.mem_or_eq_of_mem_set hy with h1 | h1
 ·exact h y h1
 ·rw [h1]; exact hx
theorem sF.cpy {l m : List Int} (h : sF l) (h2 : sF m) {a n : Nat} : sF (cpy l a n m) := by
 unfold Go.V.cpy
 exact sF.app (sF.app (fun x hx => h x (List.mem_of_mem_take hx)) fun x hx => h2 x (List.mem_of_mem_take hx)) fun x hx => h x (List.mem_of_mem_drop hx)
theorem sF.rep (n : Nat) : sF (List.replicate n 0) := fun x hx => by rw [List.eq_of_mem_replicate hx]; exact u0
theorem sF.nth {l : List Int} (h : sF l) (i : Nat) : u64 (Go.V.nth l (i : Int)) := by
 by_cases hi : i < l.length
 ·rw [jW l hi]; exact h _ (List.getElem_mem hi)
 ·have : Go.V.nth l (i : Int) = 0 := by simp [Go.V.nth, List.getD_eq_getElem?_getD, List.getElem?_eq_none (Nat.le_of_not_lt hi)]
  rw [this]; exact u0
theorem sF.cons {x : Int} {l : List Int} (h1 : u64 x) (h2 : sF l) : sF (x :: l) := fun y hy => by
 rcases List.mem_cons.1 hy with h | h
 ·rw [h]; exact h1
 ·exact h2 y h
theorem sF.nil : sF [] := fun y hy => by cases hy
theorem Ea (F : Nat) {fs : List aU} (hg : fE F fs = some true) (hf : I9 fs) (hF : fs.length < F) (hl : fs.length ≤ 100) (vs : List Int) : Tot (jB F fs vs) fun r => u64 r.1 := by
 unfold jB
 refine iQ hg (gJ (fun _ => bZ u0) fun h => lC ?_)
 have hlen : vs.length = fs.length := by
  simp only [Bool.or_eq_false_iff, bne_eq_false_iff_eq] at h; omega
 refine lu (fun n v l => fZ F fs vs _ n l v) fs.length (fun _ l => u64 l) (fun n v l hv hI hk => ?_) (fun n l hI => ?_) F 0 _ (by omega) (by omega) u0
 ·show Tot (fZ F fs vs _ (n + 1) l v) _
  unfold fZ
  rw [dlt hv, ct]
  refine dF ⟨by omega, by omega⟩ (dF ⟨by omega, by omega⟩ (iQ (PS F (hf v hv).2 (hf v hv).1) (dF (hf v hv).1 (gJ (fun _ => bZ u0) fun _ => dF ⟨by omega, by omega⟩ (dF (hf v hv).1 (dF ⟨by omega, by omega⟩ ?_))))))
  rw [cs]
  exact hk _ (zO _)
 ·show Tot (fZ F fs vs _ (n + 1) l _) _
  unfold fZ
  rw [dge, cf]
  exact bZ hI
theorem Uz (F : Nat) (hF : 10 ≤ F) (c : dS) : Tot (qy F c) fun r => u64 r.1 := by
 unfold qy
 have hg : fE F cF = some true := up6 (P := fun F => fE F cF = some true) VW (by omega)
 exact iR (KI F c) fun b _ => gJ (fun _ => bZ u0) fun _ => lC (iQ (YG F) (iR (Ea F hg aaS (by show 4 < F; omega) (by decide) _) fun x hx => bZ hx))
def thU (t : aH) : Prop := u64 t.lD ∧ u64 t.dn.c0 ∧ u64 t.dn.c1 ∧ u64 t.dn.c2 ∧ u64 t.dn.c3
theorem RN (F : Nat) (hF : 10 ≤ F) {t : aH} (ht : thU t) : Tot (jo F t) fun r => r.length ≤ 8 ∧ sF r := by
 unfold jo
 obtain ⟨d0, d1, d2, d3, d4⟩ := ht
 have hb : fE F bF = some true := up6 (P := fun F => fE F bF = some true) PW (by omega)
 have hp : fE F prs = some true := up6 (P := fun F => fE F prs = some true) Cm (by omega)
 refine iR (E8 F t) fun b _ => gJ (fun _ => bZ ⟨by simp, sF.nil⟩) fun _ => lC ?_
 have rest : ∀ x : Int, Tot (jn (fun (v5 : Int) => (jn (fun (v7 : Int) => (jn (fun (_ : Unit) => some ((([v5, v7, t.lD] : List Int) ++ ([t.dn.c0, t.dn.c1, t.dn.c2, t.dn.c3] : List Int)) ++ ([(0 : Int)] : List Int))) fun k9 => gd ((([v5, v7, t.lD] : List Int).length + ([t.dn.c0, t.dn.c1, t.dn.c2, t.dn.c3] : List Int).length) * 8 ≤ 140737488355328) (gd (((([v5, v7, t.lD] : List Int) ++ ([t.dn.c0, t.dn.c1, t.dn.c2, t.dn.c3] : List Int)).length + ([(0 : Int)] : List Int).length) * 8 ≤ 140737488355328) (k9 ())))) fun k8 => (oQ F ).bind fun x12 => (jB F x12 ([(IntKind.u64.wrap t.mM), (IntKind.u64.wrap t.nK), (IntKind.u64.wrap t.gI)] : List Int)).bind fun x13 => k8 x13.1)) fun k6 => (lQ F ).bind fun x14 => (jB F x14 ([(IntKind.u64.wrap t.xType), (IntKind.u64.wrap t.iY), (IntKind.u64.wrap t.jw), x, (IntKind.u64.wrap t.eH)] : List Int)).bind fun x15 => k6 x15.1) fun r => r.length ≤ 8 ∧ sF r := by
  intro x
  refine lC (iQ (YH (by omega)) (iR (Ea F hb YE (by show 5 < F; omega) (by decide) _) fun x15 h15 => lC (iQ (CB F) (iR (Ea F hp Uu (by show 3 < F; omega) (by decide) _) fun x13 h13 => lC (dF (by simp only [List.length_append, List.length_cons, List.length_nil]; omega) (dF (by simp only [List.length_append, List.length_cons, List.length_nil]; omega) (bZ ⟨by simp, ?_⟩)))))))
  exact ((sF.nil.cons d0).cons h13 |>.cons h15).app ((((sF.nil.cons d4).cons d3).cons d2).cons d1) |>.app (sF.nil.cons u0)
 exact gJ (fun _ => rest 1) fun _ => rest 0
theorem acR (g : aJ) {b : Int} (hb : u64 b) : sF (sup ⟨g, b⟩) := by
 rw [Pz]
 intro x hx
 unfold tab at hx
 obtain ⟨i, _, rfl⟩ := List.mem_map.1 hx
 exact Uy g hb i
theorem N9 (F : Nat) (hF : 1000 ≤ F) {b : Int} (hbu : u64 b) {s : aI} (hs : ∀ i : Nat, i < s.aA.length → thU (nth s.aA (i : Int))) : Tot (rC F s b) fun r => r.length ≤ 6000 ∧ sF r := by
 unfold rC
 refine iR (CO F (by omega) s) fun bg hb => gJ (fun _ => bZ ⟨by simp, sF.nil⟩) fun h => ?_
 obtain ⟨⟨hg, hsl, hth⟩, _, hup⟩ := hb (by simpa using h)
 have c8 := C8 hg
 obtain ⟨hAB, hBC, hN⟩ := AC s.bH
 have s2 := hg.s2; have h2 := hg.h2
 have hB : B1 s.bH = A1 s.bH + 2 * s.bH.ay.toNat := rfl
 have hC : C1 s.bH = B1 s.bH + 8 * s.bH.aA.toNat := rfl
 have e8 : (((C1 s.bH / 8 + 1 : Nat) : Int) * 8) = ((N1 s.bH : Nat) : Int) := by omega
 refine iQ (zJ F hg) ?_
 rw [e8, Int.toNat_natCast]
 have hl0 : (List.replicate (N1 s.bH) (0 : Int)).length = N1 s.bH := List.length_replicate
 rw [hl0]
 refine dF ⟨by omega, by omega⟩ (dF ⟨by omega, by omega, by omega, by omega⟩ (iQ (zH F (by omega) ⟨s.bH, b⟩ (lT F hg)) (dF (by rw [kC]; omega) (iQ (xJ F hg) (dF ⟨by omega, by omega, by omega⟩ (dF (by rw [au, hl0, kC]; omega) (lC ?_)))))))
 have hsup := acR s.bH hbu
 refine lu (fun n v l => ji F s _ n v l) s.ay.length (fun _ l => l.length = N1 s.bH ∧ sF l) (fun n v l hv hI hk => ?_) (fun n l hI => ?_) F 0 _ (by omega) (by omega) ⟨by rw [au, au, hl0], ((sF.rep _).cpy hsup).cpy hsup⟩
 ·show Tot (ji F s _ (n + 1) v l) _
  obtain ⟨hl, hu⟩ := hI
  have hup := hup v hv
  unfold ji
  rw [dlt hv, ct]
  refine dF ⟨by omega, by omega⟩ (iQ (zK F hg (by omega)) (iR (Uz F (by omega) _) fun x67 hx => dF ⟨by omega, by omega⟩ (dF ⟨by omega, by omega⟩ (dF ⟨by omega, by omega⟩ (dF ⟨by omega, by omega⟩ (dF ⟨by omega, by omega⟩ ?_))))))
  rw [cs]
  exact hk _ ⟨by rw [aj, aj, hl], (hu.set hx).set (zO _)⟩
 ·show Tot (ji F s _ (n + 1) _ l) _
  obtain ⟨hl, hu⟩ := hI
  unfold ji
  rw [dge, cf]
  refine lC ?_
  refine lu (fun n v l => jk F s _ n v l) s.aA.length (fun _ l => l.length = N1 s.bH ∧ sF l) (fun n v l hv hI hk => ?_) (fun n l hI => ?_) F 0 _ (by omega) (by omega) ⟨hl, hu⟩
  ·show Tot (jk F s _ (n + 1) v l) _
   obtain ⟨hl, hu⟩ := hI
   unfold jk
   rw [dlt hv, ct, hl]
   refine dF ⟨by omega, by omega⟩ (iQ (zL F hg (by omega)) (dF ⟨by omega, by omega, by omega⟩ (iR (RN F (by omega) (hs v hv)) fun x38 hx => dF (by rw [Int.toNat_natCast, Int.toNat_natCast]; omega) (dF ⟨by omega, by omega⟩ ?_))))
   rw [cs]
   exact hk _ ⟨by rw [au, hl], hu.cpy hx.2⟩
  ·show Tot (jk F s _ (n + 1) _ l) _
   obtain ⟨hl, hu⟩ := hI
   unfold jk
   rw [dge, cf]
   exact bZ ⟨by omega, hu⟩
theorem P7 (F : Nat) (g : aJ) (v : Int) : Tot (kE F g v) fun r => r = (0, 0) ∨ (GG g ∧ r.2 = 1208 ∧ 0 ≤ r.1 ∧ r.1 ≤ 10000) := by
 unfold kE
 by_cases hg : GG g
 ·have t1 := hg.t1; have t2 := hg.t2
  refine iQ (lT F hg) (dF (fun _ => ⟨by omega, by omega⟩) (tZ (P := fun b => b = true → 0 ≤ v ∧ v ≤ g.ak - 1) (fun _ => T_eq (KN F ..) fun h => by simp only [Bool.and_eq_true, decide_eq_true_eq] at h; exact h) fun b hb => gJ (fun _ => bZ (.inl rfl)) fun h => ?_))
  have hv := hb rfl (by simpa using h)
  exact dF ⟨by omega, by omega⟩ (dF ⟨by omega, by omega⟩ (bZ (.inr ⟨hg, rfl, by show 0 ≤ 16 + v * 1208; omega, by show 16 + v * 1208 ≤ 10000; omega⟩)))
 ·refine iQ (Pv F hg) (dF (fun h => by cases h) (tZ (P := fun _ => True) (fun h => by cases h) fun b _ => gJ (fun _ => bZ (.inl rfl)) fun h => ?_))
  cases h
theorem RP (F : Nat) (hF : 10 ≤ F) (d : aV) : Tot (lg F d) u64 := by
 unfold lg
 have hg : fE F oF = some true := up6 (P := fun F => fE F oF = some true) PV (by omega)
 refine iQ (YF F) (iR (Ea F hg aaR (by show 4 < F; omega) (by decide) _) fun x2 hx => dF (fun _ => by decide) (tZ (P := fun _ => True) (fun _ => T_eq (max2 F (by omega) _ _) trivial) fun x4 _ => gJ (fun _ => bZ u0) fun _ => bZ hx))
end Go.V.P
