/- Plain laws, part A: whole numbers as floats are exact: read, compared, cut, turned back. No premises. -/
import Derived.Test.YteocabneaenpeaaGreatP0
import Derived.Laws.BitsAllLaws
import Derived.Laws.BitsLemmas
set_option linter.unusedVariables false
set_option linter.unusedSimpArgs false
namespace Go.V.P
open Go.V Go.Proofs Ieee
def fl (n : Int) : Nat := FloatKind.f64.nearest n
theorem EN : fl 0 = 0 := by decide
theorem V9 (k : Nat) : (-1074 : Int) + ((k + 1023 - 1 : Nat) : Int) = (k : Int) - 52 := by omega
theorem UN (neg : Bool) (k a : Nat) (hk : k ≤ 52) (h1 : 2 ^ 52 ≤ a) (h2 : a < 2 ^ 53) :
    double.read (double.word neg ((k + 1022) * 2 ^ 52 + a)) = .number neg a ((k : Int) - 52) := by
  have hs : double.signWeight = 9223372036854775808 := by decide
  have hb : double.binade = 4503599627370496 := by decide
  have hi : double.infRung = 9218868437227405312 := by decide
  have hl : double.leastPlace = -1074 := by decide
  have e1 : (2 : Nat) ^ 52 = 4503599627370496 := by decide
  have e2 : (2 : Nat) ^ 53 = 9007199254740992 := by decide
  rw [e1] at h1; rw [e2] at h2
  rw [e1]
  generalize hr : (k + 1022) * 4503599627370496 + a = rung
  have hr1 : rung < 9218868437227405312 := by omega
  have hr2 : 4503599627370496 ≤ rung := by omega
  have hq : rung / 4503599627370496 = k + 1023 := by omega
  have hm : rung % 4503599627370496 = a - 4503599627370496 := by omega
  have hw1 : (double.word neg rung / 9223372036854775808 % 2 == 1) = neg := by
    unfold Format.word
    rw [hs]
    cases neg
    · have : rung / 9223372036854775808 % 2 = 0 := by omega
      simp [this]
    · have : (9223372036854775808 + rung) / 9223372036854775808 % 2 = 1 := by omega
      simp only [if_true]
      rw [this]
      rfl
  have hw2 : double.word neg rung % 9223372036854775808 = rung := by
    unfold Format.word
    rw [hs]
    cases neg
    · simp; omega
    · simp; omega
  unfold Format.read
  simp only [hs, hb, hi, hl, hw1, hw2]
  rw [if_neg (by omega), if_pos hr1, hq, hm]
  rw [Nat.add_sub_cancel' h1, V9]
theorem Jt {m : Nat} (hm : m ≠ 0) (h : m < 2 ^ 53) : m.log2 ≤ 52 := by
  have := (Nat.log2_lt hm (k := 53)).2 h
  omega
theorem scaled {m : Nat} (hm : m ≠ 0) (h : m.log2 ≤ 52) : 2 ^ 52 ≤ m * 2 ^ (52 - m.log2) ∧ m * 2 ^ (52 - m.log2) < 2 ^ 53 := by
  have h1 := Nat.log2_self_le hm
  have h2 := @Nat.lt_log2_self m
  have e : (2 : Nat) ^ 52 = 2 ^ m.log2 * 2 ^ (52 - m.log2) := by rw [← Nat.pow_add]; congr 1; omega
  have e' : (2 : Nat) ^ 53 = 2 ^ (m.log2 + 1) * 2 ^ (52 - m.log2) := by rw [← Nat.pow_add]; congr 1; omega
  rw [e, e']
  exact ⟨Nat.mul_le_mul_right _ h1, Nat.mul_lt_mul_of_pos_right h2 (Nat.two_pow_pos _)⟩
theorem Wh (neg : Bool) (x : Nat) : Toward.even.cut neg x 0 = x := by
  unfold Toward.cut
  simp [Nat.mod_one]
theorem UO {neg : Bool} {m : Nat} (hm : m ≠ 0) (h : m < 2 ^ 53) : double.nearest neg m 0 = double.word neg ((m.log2 + 1022) * 2 ^ 52 + m * 2 ^ (52 - m.log2)) := by
  have hk := Jt hm h
  obtain ⟨h1, h2⟩ := scaled hm hk
  have hb : double.binade = 2 ^ 52 := rfl
  have hi : double.infRung = 9218868437227405312 := by decide
  have hl : double.leastPlace = -1074 := by decide
  have hf : (double.fractionBits : Int) = 52 := rfl
  unfold Format.nearest
  rw [if_neg hm]
  simp only [hb, hi, hl, hf]
  have e1 : max ((0 : Int) + m.log2 - 52) (-1074) = (m.log2 : Int) - 52 := by omega
  rw [e1]
  have e2 : ((0 : Int) - ((m.log2 : Int) - 52)).toNat = 52 - m.log2 := by omega
  have e3 : (((m.log2 : Int) - 52) - 0).toNat = 0 := by omega
  have e4 : (((m.log2 : Int) - 52) - -1074).toNat = m.log2 + 1022 := by omega
  rw [e2, e3, e4, Wh, Nat.shiftLeft_eq]
  congr 1
  apply Nat.min_eq_left
  have : (2 : Nat) ^ 52 = 4503599627370496 := by decide
  have : (2 : Nat) ^ 53 = 9007199254740992 := by decide
  omega
theorem CO {n : Int} (h : n.natAbs < 2 ^ 53) : ∃ j : Nat, FloatKind.f64.decode (fl n) = .number (decide (n < 0)) (n.natAbs * 2 ^ j) (-(j : Int)) := by
  by_cases h0 : n = 0
  · subst h0
    have h1 : FloatKind.f64.decode (fl 0) = .number false 0 (-1074) := by decide
    obtain ⟨j, hj⟩ : ∃ j : Nat, (j : Int) = 1074 := ⟨1074, rfl⟩
    refine ⟨j, ?_⟩
    rw [h1, hj]
    simp
  · have hm : n.natAbs ≠ 0 := by omega
    have hk := Jt hm h
    obtain ⟨h1, h2⟩ := scaled hm hk
    refine ⟨52 - n.natAbs.log2, ?_⟩
    show double.read (double.nearest (decide (n < 0)) n.natAbs 0) = _
    rw [UO hm h, UN _ _ _ hk h1 h2]
    congr 1
    omega
theorem RG (neg : Bool) (m j : Nat) : Toward.zero.cut neg (m * 2 ^ j) j = m := by
  unfold Toward.cut
  by_cases h0 : m = 0
  · subst h0; simp
  · have : j ≤ (m * 2 ^ j).log2 + 2 := by
      have h1 : 2 ^ j ≤ m * 2 ^ j := Nat.le_mul_of_pos_left _ (by omega)
      have h2 : m * 2 ^ j ≠ 0 := by have := Nat.two_pow_pos j; intro e; rw [e] at h1; omega
      have h3 := @Nat.lt_log2_self (m * 2 ^ j)
      have : 2 ^ j < 2 ^ ((m * 2 ^ j).log2 + 1) := Nat.lt_of_le_of_lt h1 h3
      have := (Nat.pow_lt_pow_iff_right (by omega)).1 this
      omega
    simp [Nat.min_eq_left this, Nat.shiftLeft_eq, Nat.mul_div_cancel _ (Nat.two_pow_pos j)]
theorem G9 {n : Int} (h : n.natAbs < 2 ^ 53) : (FloatKind.f64.decode (fl n)).integral .zero = .number (decide (n < 0)) n.natAbs 0 := by
  obtain ⟨j, hj⟩ := CO h
  rw [hj]
  unfold Datum.integral
  have e1 : (-(j : Int)).toNat = 0 := by omega
  have e2 : (-(-(j : Int))).toNat = j := by omega
  simp only [e1, e2, Nat.shiftLeft_zero, RG]
theorem Wi {n : Int} (h : n.natAbs < 2 ^ 53) : (FloatKind.f64.decode (fl n)).toInt .zero = some n := by
  unfold Datum.toInt
  rw [G9 h]
  simp only [signed, Nat.shiftLeft_zero]
  congr 1
  by_cases hn : n < 0
  · simp [hn]; omega
  · simp [hn]; omega
theorem LM (n : Int) (i d : Nat) : signed (decide (n < 0)) (n.natAbs * 2 ^ i) d = n * 2 ^ (i + d) := by
  unfold signed
  rw [Nat.shiftLeft_eq, Nat.mul_assoc, ← Nat.pow_add]
  by_cases hn : n < 0
  · have : (n.natAbs : Int) = -n := by omega
    simp only [hn, decide_true, if_true]
    rw [Int.natCast_mul, this, Int.neg_mul, Int.neg_neg, Int.natCast_pow]
    rfl
  · have : (n.natAbs : Int) = n := by omega
    simp only [hn, decide_false, Bool.false_eq_true, if_false]
    rw [Int.natCast_mul, this, Int.natCast_pow]
    rfl
theorem EO {a b : Int} (ha : a.natAbs < 2 ^ 53) (hb : b.natAbs < 2 ^ 53) : FloatKind.f64.format.order (fl a) (fl b) = some (compare a b) := by
  obtain ⟨i, hi⟩ := CO ha
  obtain ⟨j, hj⟩ := CO hb
  unfold Format.order
  change (FloatKind.f64.decode (fl a)).order (FloatKind.f64.decode (fl b)) = _
  rw [hi, hj]
  unfold Datum.order
  simp only [LM]
  have key : ∀ (x y : Int) (p : Int), 0 < p → compare (x * p) (y * p) = compare x y := by
    intro x y p hp
    simp only [compare, compareOfLessAndEq]
    have h1 : x * p < y * p ↔ x < y := Int.mul_lt_mul_right hp
    have h2 : x * p = y * p ↔ x = y := Int.mul_eq_mul_right_iff (by omega)
    simp only [h1, h2]
  have e1 : i + (-(i : Int) - min (-(i : Int)) (-(j : Int))).toNat = max i j := by omega
  have e2 : j + (-(j : Int) - min (-(i : Int)) (-(j : Int))).toNat = max i j := by omega
  rw [e1, e2, key _ _ _ (Int.pow_pos (by decide))]
theorem Wj {n : Int} (h : n.natAbs < 2 ^ 53) : FloatKind.f64.encode ((FloatKind.f64.decode (fl n)).integral .zero) = fl n := by
  rw [G9 h]; rfl
end Go.V.P
set_option linter.unusedVariables false
set_option linter.unusedSimpArgs false
namespace Go.V.P
open Go.V Go.Proofs Ieee
theorem wK {P : Program} {α β : Type} (e : Sem α) (f : α → Sem β) : nG P (e >>= f) = (nG P e).bind fun a => nG P (f a) := by
  induction e with
  | pure a => rfl
  | program k ih => exact ih P
  | mark m k ih => exact ih
  | _ => rfl
theorem zZ {P : Program} : nG P program = some P := rfl
theorem NU {P : Program} (m : Mark) : nG P (mark m) = some () := rfl
theorem He {P : Program} {f : FuncId} {fn : Func} {args : List Value} {e : Array Value → Sem Value} (h : P.funcs[f]? = some fn) (h0 : (fn.name == "runtime.NumGoroutine") = false) (hb : fn.body.isNone = true) (h1 : Extern.findNext fn = none) (h2 : Extern.find fn = some e) :
    xc P f args = nG P (e args.toArray) := by
  unfold xc callFunc
  simp only [wK, zZ, Option.bind_some, h, h0, hb, h1, h2, if_true, Bool.false_eq_true, if_false, NU]
  cases nG P (e args.toArray) <;> rfl
theorem Yo (a : Nat) : xc Tryz.prog 199 [.float .f64 a] = some (.int .u64 a) := by
  rw [He Tryz.func199 (by kernel_rfl) (by kernel_rfl) (by kernel_rfl) (e := Extern.MathFloatBits.float64bits) (by kernel_rfl)]
  rfl
theorem Wn {n : Int} (h : n.natAbs < 2 ^ 53) : xc Tryz.prog 197 [.float .f64 (fl n)] = some (.float .f64 (fl n)) := by
  rw [He Tryz.func197 (by kernel_rfl) (by kernel_rfl) (by kernel_rfl) (e := Extern.MathFloor.toIntegral "math.archTrunc" .zero) (by kernel_rfl)]
  have h1 := Wj h
  obtain ⟨j, hj⟩ := CO h
  show nG Tryz.prog (match FloatKind.f64.decode (fl n) with
    | .nan s t => _
    | d => _) = _
  rw [hj] at h1 ⊢
  rw [← h1]
  rfl
theorem qg {P : Program} {t : TypeId} {d : TypeDesc} (h : P.underlying t = some d) : nG P (underlying t) = some d := by
  unfold underlying
  simp only [wK, zZ, Option.bind_some, h]
  rfl
theorem aa6 (n : Int) : cv Tryz.prog 2 242 (.int .i64 n) = some (.float .f64 (fl n)) := by
  unfold cv convert
  simp only [wK, qg Tryz.underlying2, qg Tryz.underlying242, Option.bind_some]
  rfl
theorem Ze {n : Int} (h : n.natAbs < 2 ^ 53) : cv Tryz.prog 242 2 (.float .f64 (fl n)) = some (.int .i64 n) := by
  unfold cv convert
  simp only [wK, qg Tryz.underlying2, qg Tryz.underlying242, Option.bind_some]
  unfold Conv.floatToInt
  simp only [Wi h]
  have e : (2 : Nat) ^ 53 = 9007199254740992 := by decide
  have h1 : IntKind.i64.min = -9223372036854775808 := by decide
  have h2 : IntKind.i64.max = 9223372036854775807 := by decide
  rw [e] at h
  rw [h1, h2, if_pos (by omega)]
  rfl
theorem Zu (a b : Nat) (x y : Operand) : bn Tryz.prog .geq 242 x y (.float .f64 a) (.float .f64 b) = some (.bool (FloatKind.f64.format.order a b == some .gt || FloatKind.f64.format.order a b == some .eq)) := rfl
theorem Zv (a b : Nat) (x y : Operand) : bn Tryz.prog .leq 242 x y (.float .f64 a) (.float .f64 b) = some (.bool (FloatKind.f64.format.order a b == some .lt || FloatKind.f64.format.order a b == some .eq)) := rfl
theorem Zw (a b : Nat) (x y : Operand) : bn Tryz.prog .neq 242 x y (.float .f64 a) (.float .f64 b) = some (.bool (FloatKind.f64.format.order a b != some .eq)) := rfl
theorem Zx (a b : Nat) (x y : Operand) : bn Tryz.prog .eql 242 x y (.float .f64 a) (.float .f64 b) = some (.bool (FloatKind.f64.format.order a b == some .eq)) := rfl
theorem Yp (a b : Nat) : bu Tryz.prog .real #[182] 242 #[false] [.complex .f64 a b] = some (.float .f64 a) := rfl
theorem Yq (a b : Nat) : bu Tryz.prog .imag #[182] 242 #[false] [.complex .f64 a b] = some (.float .f64 b) := rfl
theorem RH (a b : Nat) : bu Tryz.prog .complex #[242, 242] 182 #[false, false] [.float .f64 a, .float .f64 b] = some (.complex .f64 a b) := rfl
theorem CP (a : Nat) : one? (.float .f64 a) = some (.float .f64 a) := rfl
theorem dD {α : Type} {c : Prop} [Decidable c] {x : Option α} (h : c) : gd c x = x := if_pos h
theorem wL {α : Type} [Inhabited α] {x : Option α} : lz true x = x := rfl
theorem PS {α : Type} [Inhabited α] {x : Option α} : lz false x = some default := rfl
theorem e53 : (2 : Nat) ^ 53 = 9007199254740992 := by decide
theorem PU (F : Nat) {n : Int} (h1 : -1099511627776 ≤ n) (h2 : n ≤ 1099511627776) : qK F (.float .f64 (fl n)) = some (n, true) := by
  have h : n.natAbs < 2 ^ 53 := by rw [e53]; omega
  have ha : (14010698440749613056 : Nat) = fl (-1099511627776) := by decide
  have hb : (4787326403894837248 : Nat) = fl 1099511627776 := by decide
  have hc : (0 : Nat) = fl 0 := EN.symm
  have o1 := EO h (b := -1099511627776) (by decide)
  have o2 := EO h (b := 1099511627776) (by decide)
  have o3 := EO h h
  have o4 := EO h (b := 0) (by decide)
  have c1 : (some (compare n (-1099511627776)) == some Ordering.gt || some (compare n (-1099511627776)) == some Ordering.eq) = true := by
    simp only [compare, compareOfLessAndEq]
    by_cases hn : n = -1099511627776
    · subst hn; rfl
    · rw [if_neg (by omega), if_neg hn]; rfl
  have c2 : (some (compare n 1099511627776) == some Ordering.lt || some (compare n 1099511627776) == some Ordering.eq) = true := by
    simp only [compare, compareOfLessAndEq]
    by_cases hn : n = 1099511627776
    · subst hn; rfl
    · rw [if_pos (by omega)]; rfl
  have c3 : (some (compare n n) != some Ordering.eq) = false := by
    simp only [compare, compareOfLessAndEq]
    rw [if_neg (by omega)]; rfl
  have acj : qQ F (.float .f64 (fl 0)) = some false := by
    unfold qQ
    rw [Yo]
    rw [EN]
    decide
  unfold qK
  rw [Zu, ha, o1, c1]
  simp only [Option.bind_some, bool?]
  rw [Zv, hb, o2, c2]
  simp only [Option.bind_some, bool?, Bool.and_self, Bool.not_true, beq_self_eq_true, wL]
  unfold wM
  rw [Wn h]
  simp only [Option.bind_some, CP]
  rw [Zw, o3, c3]
  simp only [Option.bind_some, bool?, Bool.or_self, Bool.false_or, beq_self_eq_true, wL]
  rw [Zx]
  by_cases hn : n = 0
  · subst hn
    rw [show FloatKind.f64.format.order (fl 0) 0 = some .eq from by rw [EN]; decide]
    simp only [Option.bind_some, bool?, beq_self_eq_true, Bool.and_self, wL, acj, Bool.and_false, cond_false]
    rw [Ze (by decide)]
    rfl
  · have c4 : (FloatKind.f64.format.order (fl n) 0 == some Ordering.eq) = false := by
      have : FloatKind.f64.format.order (fl n) 0 = some (compare n 0) := by rw [← o4, EN]
      rw [this]
      simp only [compare, compareOfLessAndEq]
      by_cases h0 : n < 0
      · rw [if_pos h0]; rfl
      · rw [if_neg h0, if_neg hn]; rfl
    rw [c4]
    simp only [Option.bind_some, bool?, Bool.false_and, Bool.and_false, show (false == true) = false from rfl, PS, cond_false]
    rw [Ze h]
    rfl
theorem Wp (F : Nat) {a b : Int} (h1 : -1099511627776 ≤ a) (h2 : a ≤ 1099511627776) (h3 : -1099511627776 ≤ b) (h4 : b ≤ 1099511627776) : nN F (.complex .f64 (fl a) (fl b)) = some (a, b, true) := by
  unfold nN
  rw [Yp]
  simp only [Option.bind_some, CP, PU F h1 h2]
  rw [Yq]
  simp only [Option.bind_some, CP, PU F h3 h4]
  rfl
theorem aa7 (F : Nat) {a b : Int} (h1 : -1099511627776 ≤ a) (h2 : a ≤ 1099511627776) (h3 : -1099511627776 ≤ b) (h4 : b ≤ 1099511627776) : qR F a b = some (.complex .f64 (fl a) (fl b), true) := by
  unfold qR xB
  simp only [Option.bind_some, decide_eq_true h1, decide_eq_true h2, decide_eq_true h3, decide_eq_true h4, Bool.and_self, Bool.not_true, beq_self_eq_true, wL, Bool.or_self, cond_false, aa6, CP]
  rw [RH]
  rfl
end Go.V.P
set_option linter.unusedVariables false
set_option linter.unusedSimpArgs false
namespace Go.V.P
open Go.V Go.Proofs
theorem dI {α : Type} {n : Int} {x : Option α} (h1 : -9223372036854775808 ≤ n) (h2 : n ≤ 9223372036854775807) : gd (inI n) x = x := dD ⟨h1, h2⟩
theorem fV {α β : Type} {l : List β} {i : Int} {x : Option α} (h1 : 0 ≤ i) (h2 : i < (l.length : Nat)) : gd (ix l i) x = x := dD ⟨h1, h2⟩
theorem nH {α : Type} [Inhabited α] (l : List α) {i : Nat} (h : i < l.length) : nth l (i : Int) = l[i] := by simp [nth, List.getD_eq_getElem?_getD, h]
def rst (v : Int) : Int := Int.tmod (Int.tmod v 1000003 + 1000003) 1000003
theorem xq (v : Int) : 0 ≤ rst v ∧ rst v < 1000003 := by
  have h1 : -1000003 < Int.tmod v 1000003 := by
    have := Int.lt_tmod_of_pos v (show (0 : Int) < 1000003 by decide); omega
  unfold rst
  refine ⟨Int.tmod_nonneg _ (by omega), Int.tmod_lt_of_pos _ (by decide)⟩
theorem Zy (v : Int) : -1000003 < Int.tmod v 1000003 ∧ Int.tmod v 1000003 < 1000003 := by
  have h1 := Int.lt_tmod_of_pos v (show (0 : Int) < 1000003 by decide)
  have h2 := Int.tmod_lt_of_pos v (show (0 : Int) < 1000003 by decide)
  exact ⟨by omega, h2⟩
theorem Wq (F : Nat) (v : Int) : qZ F v = some (rst v) := by
  have := Zy v
  unfold qZ
  rw [dI (by omega) (by omega)]
  rfl
noncomputable def cz (z : Int × Int) : Value := .complex .f64 (fl z.1) (fl z.2)
def small (z : Int × Int) : Prop := -1000003 ≤ z.1 ∧ z.1 ≤ 1000003 ∧ -1000003 ≤ z.2 ∧ z.2 ≤ 1000003
theorem Yt (F G : Nat) (k : Int → Int → Option Value) (a b : Int) (h1 : -1000003 ≤ b) (h2 : b ≤ 1000003) : mW F 1 k (G + 2) a b 0 = k (-b) a := by
  unfold mW
  rw [show (decide ((0 : Int) < Int.tmod (Int.tmod 1 4 + 4) 4)) = true from by decide, cond_true, dD (by omega), dI (by decide) (by decide)]
  unfold mW
  rw [show (decide ((0 : Int) + 1 < Int.tmod (Int.tmod 1 4 + 4) 4)) = false from by decide, cond_false]
theorem Ju (F : Nat) {z : Int × Int} (h : small z) : nN F (cz z) = some (z.1, z.2, true) := by
  obtain ⟨h1, h2, h3, h4⟩ := h
  exact Wp _ (by omega) (by omega) (by omega) (by omega)
theorem Zf (F : Nat) {a b : Int} (h : small (a, b)) : qR F a b = some (cz (a, b), true) := by
  obtain ⟨h1, h2, h3, h4⟩ := h
  simp only at h1 h2 h3 h4
  exact aa7 _ (by omega) (by omega) (by omega) (by omega)
theorem Ws (F : Nat) (hF : 2 ≤ F) {z : Int × Int} (h : small z) : tX F (cz z) 1 = some (cz (-z.2, z.1)) := by
  have hs : small (-z.2, z.1) := by unfold small at h ⊢; simp only; omega
  unfold tX
  rw [Ju F h]
  simp only [Option.bind_some, Bool.not_true, cond_false, jn]
  rw [dI (by decide) (by decide)]
  obtain ⟨G, hG⟩ : ∃ G, F = G + 2 := ⟨F - 2, by omega⟩
  have := Yt F G (fun v3 v4 => (qR F v3 v4).bind fun x6 => some x6.1) z.1 z.2 h.2.2.1 h.2.2.2
  rw [← hG] at this
  refine this.trans ?_
  rw [Zf F hs, Option.bind_some]
noncomputable def lo (w : Int) : Int := IntKind.i64.wrap (IntKind.u16.wrap w)
theorem EP (w : Int) : 0 ≤ lo w ∧ lo w < 65536 := by
  unfold lo
  rw [IntKind.wrap_u16, IntKind.wrap_i64]
  omega
noncomputable def spn (z : Int × Int) (w : Int) : Int × Int := (rst (-z.2 + (lo w - lo (kS .u64 w 32))), rst (z.1 + (lo (kS .u64 w 16) - lo (kS .u64 w 48))))
theorem Nb (z : Int × Int) (w : Int) : small (spn z w) := by
  have h1 := xq (-z.2 + (lo w - lo (kS .u64 w 32)))
  have h2 := xq (z.1 + (lo (kS .u64 w 16) - lo (kS .u64 w 48)))
  unfold small spn
  simp only
  omega
theorem UQ (F : Nat) (hF : 2 ≤ F) (l : List Int) (k : Value → Option Value) (hl : l.length < 1000000) : ∀ (n v : Nat) (z : Int × Int), v ≤ l.length → l.length - v < n → small z → oG F l k n (cz z) v = k (cz ((l.drop v).foldl spn z)) := by
  intro n
  induction n with
  | zero => intro v z h1 h2; omega
  | succ n ih =>
    intro v z h1 h2 hz
    unfold oG
    by_cases hv : v < l.length
    · have e1 : decide ((v : Int) < ((l.length : Nat) : Int)) = true := by simpa using hv
      have b1 := EP (nth l v)
      have b2 := EP (kS .u64 (nth l v) 32)
      have b3 := EP (kS .u64 (nth l v) 16)
      have b4 := EP (kS .u64 (nth l v) 48)
      have hz' := hz
      obtain ⟨z1, z2, z3, z4⟩ := hz
      simp only [← lo.eq_1]
      rw [e1, cond_true, fV (by omega) (by omega), Ws F hF hz']
      simp only [Option.bind_some]
      rw [Ju F (show small (-z.2, z.1) by unfold small; simp only; omega)]
      simp only [Option.bind_some]
      rw [dI (by omega) (by omega), dI (by omega) (by omega), dI (by omega) (by omega), dI (by omega) (by omega)]
      simp only [Wq, Option.bind_some]
      have c1 := xq (-z.2 + (lo (nth l v) - lo (kS .u64 (nth l v) 32)))
      have c2 := xq (z.1 + (lo (kS .u64 (nth l v) 16) - lo (kS .u64 (nth l v) 48)))
      have hsm : small (rst (-z.2 + (lo (nth l v) - lo (kS .u64 (nth l v) 32))), rst (z.1 + (lo (kS .u64 (nth l v) 16) - lo (kS .u64 (nth l v) 48)))) := by unfold small; simp only; omega
      obtain ⟨c, hc⟩ : ∃ c, c = cz (rst (-z.2 + (lo (nth l v) - lo (kS .u64 (nth l v) 32))), rst (z.1 + (lo (kS .u64 (nth l v) 16) - lo (kS .u64 (nth l v) 48)))) := ⟨_, rfl⟩
      rw [Zf F hsm, ← hc, Option.bind_some]
      rw [dI (by omega) (by omega), hc]
      have h3 := ih (v + 1) (spn z (nth l v)) (by omega) (by omega) (Nb _ _)
      have hs : (rst (-z.2 + (lo (nth l v) - lo (kS .u64 (nth l v) 32))), rst (z.1 + (lo (kS .u64 (nth l v) 16) - lo (kS .u64 (nth l v) 48)))) = spn z (nth l v) := rfl
      rw [hs]
      rw [show ((v : Int) + 1) = ((v + 1 : Nat) : Int) by omega]
      rw [h3]
      rw [List.drop_eq_getElem_cons hv, List.foldl_cons, nH l hv]
    · have e1 : decide ((v : Int) < ((l.length : Nat) : Int)) = false := by simpa using hv
      rw [e1, cond_false, List.drop_of_length_le (by omega)]
      rfl
theorem Yu (F : Nat) (l : List Int) (hF : l.length + 2 ≤ F) (hl : l.length < 1000000) : tY F l = some (cz (l.foldl spn (0, 0))) := by
  unfold tY
  simp only [jn]
  have : (.complex .f64 0 0 : Value) = cz (0, 0) := by unfold cz; simp only [EN]
  rw [this]
  exact (UQ F (by omega) l _ hl F 0 (0, 0) (by omega) (by omega) (by unfold small; decide))
theorem PV (l : List Int) (z : Int × Int) (hz : small z ∧ 0 ≤ z.1 ∧ 0 ≤ z.2) : small (l.foldl spn z) ∧ 0 ≤ (l.foldl spn z).1 ∧ 0 ≤ (l.foldl spn z).2 := by
  induction l generalizing z with
  | nil => exact hz
  | cons w l ih => exact ih _ ⟨Nb _ _, (xq _).1, (xq _).1⟩
noncomputable def word2 (z : Int × Int) : Int := ior .u64 (o9 .u64 (IntKind.u64.wrap z.2) 32) (IntKind.u64.wrap z.1)
theorem Yv (F : Nat) {z : Int × Int} (h : small z) (h1 : 0 ≤ z.1) (h2 : 0 ≤ z.2) : tZ F (cz z) = some (word2 z, true) := by
  obtain ⟨z1, z2, z3, z4⟩ := h
  unfold tZ
  rw [Ju F ⟨z1, z2, z3, z4⟩]
  simp only [Option.bind_some, Bool.not_true, Bool.false_or]
  have e1 : decide (z.1 < 0) = false := by simp; omega
  have e2 : decide ((4294967295 : Int) < z.1) = false := by simp; omega
  have e3 : decide (z.2 < 0) = false := by simp; omega
  have e4 : decide ((4294967295 : Int) < z.2) = false := by simp; omega
  rw [e1, e2, e3, e4]
  rfl
def UR (s : dQ) : List Int := [8243106252149764145, IntKind.u64.wrap s.bH.ak, IntKind.u64.wrap s.bH.au, IntKind.u64.wrap s.bH.ay, s.tq, 0, 0]
noncomputable def sup (s : dQ) : List Int := UR s ++ [word2 ((UR s).foldl spn (0, 0))]
theorem kH (s : dQ) : (sup s).length = 8 := rfl
theorem y5 (F : Nat) (hF : 9 ≤ F) (s : dQ) (hg : jL F s.bH = some true) : pV F s = some (sup s) := by
  unfold pV
  rw [hg]
  simp only [Option.bind_some, Bool.not_true, cond_false]
  have h7 : (UR s).length = 7 := rfl
  have h0 := PV (UR s) (0, 0) ⟨by unfold small; decide, by decide, by decide⟩
  have e1 := Yu F (UR s) (by rw [h7]; exact hF) (by rw [h7]; decide)
  unfold UR at e1 h0
  rw [e1]
  simp only [Option.bind_some]
  rw [Yv F h0.1 h0.2.1 h0.2.2]
  simp only [Option.bind_some]
  rw [dD (by simp)]
  rfl
end Go.V.P
set_option linter.unusedVariables false
set_option linter.unusedSimpArgs false
namespace Go.V.P
open Go.V Go.Proofs
def tab {α : Type} (n : Nat) (f : Nat → α) : List α := (List.range n).map f
section
variable {α : Type} [Inhabited α]
omit [Inhabited α] in
theorem aW (n : Nat) (f : Nat → α) : (tab n f).length = n := by simp [tab]
omit [Inhabited α] in
theorem qh {n : Nat} {f : Nat → α} {i : Nat} (h : i < n) : (tab n f)[i]? = some (f i) := by simp [tab, h]
theorem sF {n : Nat} {f : Nat → α} {i : Int} (h0 : 0 ≤ i) (h : i < n) : nth (tab n f) i = f i.toNat := by
  have : i.toNat < n := by omega
  simp [nth, List.getD_eq_getElem?_getD, qh this]
omit [Inhabited α] in
theorem gU {n : Nat} {f g : Nat → α} (h : ∀ j, j < n → f j = g j) : tab n f = tab n g := by
  unfold tab
  exact List.map_congr_left fun j hj => h j (List.mem_range.1 hj)
omit [Inhabited α] in
theorem qA {n : Nat} {f : Nat → α} {i : Int} {x : α} : jl (tab n f) i x = tab n (fun j => if j = i.toNat then x else f j) := by
  unfold jl
  apply List.ext_getElem?
  intro j
  by_cases hj : j < n
  · rw [qh hj, List.getElem?_set]
    by_cases e : i.toNat = j
    · subst e; simp [aW, hj]
    · rw [if_neg e, qh hj, if_neg (fun h => e h.symm)]
  · rw [List.getElem?_eq_none (by simp [aW]; omega), List.getElem?_eq_none (by simp [aW]; omega)]
omit [Inhabited α] in
theorem rV {n : Nat} {z : α} : List.replicate n z = tab n (fun _ => z) := by simp [tab, List.map_const']
omit [Inhabited α] in
theorem ER (l : List α) (d : α) : l = tab l.length (fun i => l.getD i d) := by
  apply List.ext_getElem?
  intro j
  by_cases hj : j < l.length
  · rw [qh hj]; simp [List.getD_eq_getElem?_getD, hj]
  · rw [List.getElem?_eq_none (by omega), List.getElem?_eq_none (by simp [aW]; omega)]
end
structure GG (g : bg) : Prop where
  t1 : 1 ≤ g.ak
  t2 : g.ak ≤ 4
  s1 : 8 * g.ak ≤ g.au
  s2 : g.au ≤ 96
  s3 : Int.tmod g.au 8 = 0
  h1 : g.ak + 2 ≤ g.ay
  h2 : g.ay ≤ 48
theorem mD (F : Nat) {g : bg} (h : GG g) : jL F g = some true := by
  obtain ⟨h1, h2, h3, h4, h5, h6, h7⟩ := h
  unfold jL oH
  simp only [Option.bind_some, decide_eq_true h1, decide_eq_true h2, decide_eq_true h3, decide_eq_true h4, decide_eq_true h6, decide_eq_true h7, h5, Bool.and_self, beq_self_eq_true, wL]
  rw [dD (fun _ => ⟨by omega, by omega⟩), dD (fun _ => ⟨by omega, by omega⟩)]
theorem Jm (F : Nat) {g : bg} (h : ¬ GG g) : jL F g = some false := by
  unfold jL oH
  simp only [Option.bind_some]
  by_cases a1 : 1 ≤ g.ak ∧ g.ak ≤ 4
  · have e1 : (decide (1 ≤ g.ak) && decide (g.ak ≤ 4)) = true := by simpa using a1
    rw [e1, dD (fun _ => ⟨by omega, by omega⟩)]
    simp only [beq_self_eq_true, wL, Option.bind_some, Bool.true_and]
    by_cases a2 : (8 * g.ak ≤ g.au ∧ g.au ≤ 96) ∧ Int.tmod g.au 8 = 0
    · have e2 : (decide (8 * g.ak ≤ g.au) && decide (g.au ≤ 96) && Int.tmod g.au 8 == 0) = true := by simpa using a2
      rw [e2, dD (fun _ => ⟨by omega, by omega⟩)]
      simp only [beq_self_eq_true, wL, Option.bind_some, Bool.true_and]
      have : (decide (g.ak + 2 ≤ g.ay) && decide (g.ay ≤ 48)) = false := by
        cases hb : (decide (g.ak + 2 ≤ g.ay) && decide (g.ay ≤ 48)) with
        | false => rfl
        | true =>
          simp only [Bool.and_eq_true, decide_eq_true_eq] at hb
          exact absurd ⟨a1.1, a1.2, a2.1.1, a2.1.2, a2.2, hb.1, hb.2⟩ h
      rw [this]
    · have e2 : (decide (8 * g.ak ≤ g.au) && decide (g.au ≤ 96) && Int.tmod g.au 8 == 0) = false := by
        cases hb : (decide (8 * g.ak ≤ g.au) && decide (g.au ≤ 96) && Int.tmod g.au 8 == 0) with
        | false => rfl
        | true => exact absurd (by simpa using hb) a2
      rw [e2, dD (fun h => by cases h)]
      rfl
  · have e1 : (decide (1 ≤ g.ak) && decide (g.ak ≤ 4)) = false := by
      cases hb : (decide (1 ≤ g.ak) && decide (g.ak ≤ 4)) with
      | false => rfl
      | true => exact absurd (by simpa using hb) a1
    rw [e1, dD (fun h => by cases h)]
    simp only [show (false == true) = false from rfl, PS, Option.bind_some, Bool.false_and]
    rw [dD (fun h => by cases h)]
theorem Jv {a : Int} (h0 : 0 ≤ a) : Int.tmod a 8 = a % 8 := Int.tmod_eq_emod_of_nonneg h0
theorem GG.s8 {g : bg} (h : GG g) : g.au % 8 = 0 := by
  have := h.s3
  rw [Jv (by have := h.t1; have := h.s1; omega)] at this
  exact this
theorem ES (F : Nat) {g : bg} (h : GG g) {v : Int} (h0 : 0 ≤ v) (h1 : v < g.ak) : sN F g v = some (8 * v) := by
  have := h.t2
  unfold sN
  rw [mD F h]
  simp only [Option.bind_some, oH]
  rw [dD (fun _ => ⟨by omega, by omega⟩)]
  have e : (decide ((0 : Int) ≤ v) && decide (v ≤ g.ak - 1)) = true := by simp; omega
  simp only [Bool.not_true, beq_self_eq_true, wL, e, Option.bind_some, Bool.or_self, cond_false]
  rw [dI (by omega) (by omega)]
abbrev v4z : V4 Int := ⟨0, 0, 0, 0⟩
def qO (size : Int) : aJ := ⟨1, 0, 0, size, 0, 0, 0, false, 0, v4z⟩
def Aa : aJ := ⟨3, 0, 0, 0, 0, 0, 0, false, 0, v4z⟩
def pW (base : Int) : aJ := ⟨2, 3, base, 0, 0, 0, 0, false, 0, v4z⟩
def ET : aJ := ⟨0, 0, 0, 0, 0, 0, 0, false, 0, v4z⟩
theorem Wu (F : Nat) (size : Int) : qU F (qO size) = some (qO size) := rfl
theorem Gs (F : Nat) (size : Int) : jO F (qO size) = some (decide (1 ≤ size) && decide (size ≤ 4096)) := by
  unfold jO
  rw [Wu]
  unfold qO
  dsimp only
  simp only [Option.bind_some, beq_self_eq_true, Bool.and_self, Bool.not_true, cond_false, cond_true, nS]
  by_cases h : (decide (1 ≤ size) && decide (size ≤ 4096)) = true
  · have : decide ((0 : Int) ≤ size) = true := by simp at h ⊢; omega
    simp only [h, this, beq_self_eq_true, wL, Option.bind_some]
    rfl
  · have h : (decide (1 ≤ size) && decide (size ≤ 4096)) = false := by simpa using h
    rw [h]
    rfl
theorem UU (F : Nat) : jO F Aa = some true := rfl
theorem UW (F : Nat) : jO F ET = some true := rfl
theorem RI : o9 .i64 (1 : Int) 3 = 8 := by decide
theorem Nc (F : Nat) {b : Int} (h0 : 0 ≤ b) (h1 : b ≤ 88) : jO F (pW b) = some true := by
  unfold jO
  rw [show qU F (pW b) = some (pW b) from rfl]
  simp only [Option.bind_some, pW, beq_self_eq_true, Bool.and_self, Bool.not_true, cond_false, cond_true, nS]
  simp only [show ((2 : Int) == 1) = false from rfl, cond_false, RI]
  rw [dD (fun _ => by decide), dD (fun _ => by decide)]
  have : decide (b ≤ 96 - 8) = true := by simp; omega
  simp [this, h0, lz, h1]
theorem Wv (F : Nat) (size : Int) : nO F 1 size 0 = some (if 1 ≤ size ∧ size ≤ 4096 then (qO size, true) else (ET, false)) := by
  unfold nO
  simp only [jn, beq_self_eq_true, cond_true]
  have := Gs F size
  unfold qO at this
  rw [this]
  simp only [Option.bind_some]
  by_cases h : 1 ≤ size ∧ size ≤ 4096
  · have e : (decide (1 ≤ size) && decide (size ≤ 4096)) = true := by simpa using h
    rw [e, if_pos h]; rfl
  · have e : (decide (1 ≤ size) && decide (size ≤ 4096)) = false := by
      cases hb : (decide (1 ≤ size) && decide (size ≤ 4096)) with
      | false => rfl
      | true => exact absurd (by simpa using hb) h
    rw [e, if_neg h]; rfl
theorem Wx (F : Nat) : nO F 3 0 0 = some (Aa, true) := rfl
theorem Wy (F : Nat) {b : Int} (h0 : 0 ≤ b) (h1 : b ≤ 88) : nO F 2 3 b = some (pW b, true) := by
  unfold nO
  simp only [jn, show ((2 : Int) == 1) = false from rfl, beq_self_eq_true, cond_true, cond_false]
  have := Nc F h0 h1
  unfold pW at this
  rw [this]
  rfl
def wE : eG := ⟨0, 0, 0, 0⟩
def Dy : eG := ⟨1, 0, 7, 0⟩
def uG : eG := ⟨3, 1, 7, 0⟩
def sf (t : Nat) (i : Nat) : aY := if i = 0 then ⟨Dy, -1⟩ else if i % 8 = 1 ∧ i < 8 * t then ⟨uG, if i = 1 then -1 else 1⟩ else ⟨wE, -1⟩
def tf (t : Nat) (size : Int) (i : Nat) : aJ := if i = 0 then qO size else if i = 1 then Aa else if i < 2 + t then pW (8 * ((i : Int) - 2)) else ET
def st0 (g : bg) (size : Int) : aK := ⟨g, tab g.au.toNat (sf g.ak.toNat), tab g.ay.toNat (tf g.ak.toNat size)⟩
theorem Zz (F : Nat) (g : bg) (k : List aY → Option (aK × Int)) (hs : g.au ≤ 96) : ∀ (n v : Nat), v ≤ g.au.toNat → g.au.toNat - v < n →
    pq F g k n v (tab g.au.toNat (fun i => if i < v then ⟨wE, -1⟩ else ⟨wE, 0⟩)) = k (tab g.au.toNat (fun _ => ⟨wE, -1⟩)) := by
  intro n
  induction n with
  | zero => intro v h1 h2; omega
  | succ n ih =>
    intro v h1 h2
    unfold pq
    simp only [List.length_replicate]
    by_cases hv : v < g.au.toNat
    · have e1 : decide ((v : Int) < ((g.au.toNat : Nat) : Int)) = true := decide_eq_true (by omega)
      rw [e1, cond_true, fV (by omega) (by rw [aW]; omega), dI (by omega) (by omega), sF (by omega) (by omega), qA, show ((v : Int) + 1) = ((v + 1 : Nat) : Int) by omega, ← ih (v + 1) (by omega) (by omega)]
      congr 1
      refine gU fun j hj => ?_
      have : (v : Int).toNat = v := by omega
      rw [this]
      by_cases c1 : j = v
      · subst c1; simp [wE]
      · by_cases c2 : j < v
        · rw [if_neg c1, if_pos c2, if_pos (by omega)]
        · rw [if_neg c1, if_neg c2, if_neg (by omega)]
    · have e1 : decide ((v : Int) < ((g.au.toNat : Nat) : Int)) = false := decide_eq_false (by omega)
      rw [e1, cond_false]
      congr 1
      exact gU fun j hj => by rw [if_pos (by omega)]
end Go.V.P
set_option linter.unusedVariables false
set_option linter.unusedSimpArgs false
namespace Go.V.P
open Go.V Go.Proofs
def sv (v : Nat) (i : Nat) : aY := if i = 0 then ⟨Dy, -1⟩ else if i % 8 = 1 ∧ i < 8 * v then ⟨uG, 1⟩ else ⟨wE, -1⟩
theorem ZA (F : Nat) {g : bg} (size : Int) (hg : GG g) (k : List aJ → List aY → Option (aK × Int)) : ∀ (n v : Nat), v ≤ g.ak.toNat → g.ak.toNat - v < n →
    pz F g 0 k n v (tab g.ay.toNat (tf v size)) (tab g.au.toNat (sv v)) = k (tab g.ay.toNat (tf g.ak.toNat size)) (tab g.au.toNat (sv g.ak.toNat)) := by
  have t1 := hg.t1; have t2 := hg.t2; have s1 := hg.s1; have s2 := hg.s2; have h1' := hg.h1; have h2' := hg.h2
  intro n
  induction n with
  | zero => intro v h1 h2; omega
  | succ n ih =>
    intro v h1 h2
    unfold pz
    by_cases hv : v < g.ak.toNat
    · have e1 : decide ((v : Int) < g.ak) = true := decide_eq_true (by omega)
      rw [e1, cond_true, ES F hg (by omega) (by omega), Option.bind_some]
      simp only [jn]
      rw [dI (by omega) (by omega), Wy F (by omega) (by omega), Option.bind_some, fV (by omega) (by rw [aW]; omega), dI (by omega) (by omega), dI (by decide) (by decide), fV (by omega) (by rw [aW]; omega), dI (by omega) (by omega)]
      rw [qA, qA, show ((v : Int) + 1) = ((v + 1 : Nat) : Int) by omega, ← ih (v + 1) (by omega) (by omega)]
      have e2 : ((2 : Int) + v).toNat = 2 + v := by omega
      have e3 : (8 * (v : Int) + 1).toNat = 8 * v + 1 := by omega
      rw [e2, e3]
      congr 1
      · refine gU fun j hj => ?_
        simp only [tf]
        by_cases c : j = 2 + v
        · subst c
          rw [if_pos rfl, if_neg (by omega), if_neg (by omega), if_pos (by omega)]
          congr 1
          omega
        · rw [if_neg c]
          by_cases c0 : j = 0
          · rw [if_pos c0, if_pos c0]
          · rw [if_neg c0, if_neg c0]
            by_cases c1 : j = 1
            · rw [if_pos c1, if_pos c1]
            · rw [if_neg c1, if_neg c1]
              by_cases c2 : j < 2 + v
              · rw [if_pos c2, if_pos (by omega)]
              · rw [if_neg c2, if_neg (by omega)]
      · refine gU fun j hj => ?_
        simp only [sv]
        by_cases c : j = 8 * v + 1
        · subst c
          rw [if_pos rfl, if_neg (by omega), if_pos (by omega)]
          rfl
        · rw [if_neg c]
          by_cases c0 : j = 0
          · rw [if_pos c0, if_pos c0]
          · rw [if_neg c0, if_neg c0]
            by_cases c2 : j % 8 = 1 ∧ j < 8 * v
            · rw [if_pos c2, if_pos (by omega)]
            · rw [if_neg c2, if_neg (by omega)]
    · have e1 : decide ((v : Int) < g.ak) = false := decide_eq_false (by omega)
      have : v = g.ak.toNat := by omega
      rw [e1, cond_false, this]
def acn : aK := ⟨⟨0, 0, 0⟩, [], []⟩
theorem Nh (F : Nat) (hF : 200 ≤ F) {g : bg} {size : Int} (hg : GG g) (h1 : 1 ≤ size) (h2 : size ≤ 4096) : tC F g size = some (st0 g size, 0) := by
  have t1 := hg.t1; have t2 := hg.t2; have s1 := hg.s1; have s2 := hg.s2; have h1' := hg.h1; have h2' := hg.h2
  unfold tC
  rw [Wv, Option.bind_some, if_pos ⟨h1, h2⟩, mD F hg, Option.bind_some]
  simp only [Bool.not_true, Bool.or_self, cond_false, jn]
  rw [dD (by omega), dD (by omega)]
  have hk : List.replicate g.au.toNat (⟨⟨0, 0, 0, 0⟩, 0⟩ : aY) = tab g.au.toNat (fun i => if i < 0 then ⟨wE, -1⟩ else ⟨wE, 0⟩) := by
    rw [rV]; exact gU fun j hj => by simp [wE]
  rw [hk]
  refine (Zz F g _ (by omega) F 0 (by omega) (by omega)).trans ?_
  rw [fV (by omega) (by simp; omega), Wx, Option.bind_some, fV (by omega) (by simp; omega), ES F hg (by omega) (by omega), Option.bind_some]
  rw [fV (by omega) (by rw [aW]; omega), sF (by omega) (by omega), qA, rV, qA, qA]
  have e1 : tab g.ay.toNat (fun j => if j = (1 : Int).toNat then Aa else if j = (0 : Int).toNat then qO size else (⟨0, 0, 0, 0, 0, 0, 0, false, 0, ⟨0, 0, 0, 0⟩⟩ : aJ)) = tab g.ay.toNat (tf 0 size) := by
    refine gU fun j hj => ?_
    simp only [tf]
    by_cases c0 : j = 0
    · subst c0; rfl
    · by_cases c1 : j = 1
      · subst c1; rfl
      · rw [if_neg (by simpa using c1), if_neg (by simpa using c0), if_neg c0, if_neg c1, if_neg (by omega)]; rfl
  have e2 : tab g.au.toNat (fun j => if j = ((8 : Int) * 0).toNat then (⟨⟨1, 0, 7, 0⟩, -1⟩ : aY) else ⟨wE, -1⟩) = tab g.au.toNat (sv 0) := by
    refine gU fun j hj => ?_
    simp only [sv]
    by_cases c0 : j = 0
    · subst c0; rfl
    · rw [if_neg (by simpa using c0), if_neg c0, if_neg (by omega)]
  rw [e1, e2]
  refine (ZA F size hg _ F 0 (by omega) (by omega)).trans ?_
  rw [dI (by decide) (by decide), fV (by decide) (by rw [aW]; omega), dD (by rw [aG]), sF (by decide) (by omega), qA]
  unfold st0
  congr 3
  refine gU fun j hj => ?_
  simp only [sf, sv]
  have e3 : ((8 : Int) * 0 + 1).toNat = 1 := by decide
  rw [e3]
  by_cases c1 : j = 1
  · subst c1
    have hT : 1 < 8 * g.ak.toNat := by omega
    simp [hT]
  · rw [if_neg c1]
    by_cases c0 : j = 0
    · rw [if_pos c0, if_pos c0]
    · rw [if_neg c0, if_neg c0]
      by_cases c2 : j % 8 = 1 ∧ j < 8 * g.ak.toNat
      · rw [if_pos c2, if_pos c2, if_neg c1]
      · rw [if_neg c2, if_neg c2]
end Go.V.P
set_option linter.unusedVariables false
set_option linter.unusedSimpArgs false
namespace Go.V.P
open Go.V Go.Proofs
theorem ob {α β : Type} (x : α) (f : α → Option β) : (some x).bind f = f x := by simp
theorem ct {α : Type} (x y : α) : (bif true then x else y) = x := by simp
theorem cf {α : Type} (x y : α) : (bif false then x else y) = y := by simp
theorem jn_ {κ ρ : Type} (k : κ) (f : κ → Option ρ) : jn k f = f k := by unfold jn; simp
theorem lzt {α : Type} [Inhabited α] (x : Option α) : lz true x = x := by unfold lz; simp
theorem lzf {α : Type} [Inhabited α] (x : Option α) : lz false x = some default := by unfold lz; simp
theorem Uk {α : Type} {p : Prop} [Decidable p] {n : Int} {x : Option α} (h1 : -9223372036854775808 ≤ n) (h2 : n ≤ 9223372036854775807) : gd (p → inI n) x = x := dD fun _ => ⟨h1, h2⟩
theorem ftf : (false == true) = false := by decide
theorem ttt : (true == true) = true := by decide
theorem fff : (false == false) = true := by decide
theorem qB {β : Type} (L : Nat → Int → Option β) (len : Nat) (r : Option β) (hstep : ∀ n (v : Nat), v < len → L (n + 1) v = L n ((v + 1 : Nat) : Int)) (hend : ∀ n, L (n + 1) len = r) : ∀ (n v : Nat), v ≤ len → len - v < n → L n v = r := by
  intro n
  induction n with
  | zero => intro v h1 h2; omega
  | succ n ih =>
    intro v h1 h2
    by_cases hv : v < len
    · rw [hstep n v hv]; exact ih (v + 1) (by omega) (by omega)
    · have : v = len := by omega
      subst this
      exact hend n
theorem qP {β σ : Type} (L : Nat → Int → σ → Option β) (len : Nat) (f : Nat → σ) (r : Option β) (hstep : ∀ n (v : Nat), v < len → L (n + 1) v (f v) = L n ((v + 1 : Nat) : Int) (f (v + 1))) (hend : ∀ n, L (n + 1) len (f len) = r) : ∀ (n v : Nat), v ≤ len → len - v < n → L n v (f v) = r := by
  intro n
  induction n with
  | zero => intro v h1 h2; omega
  | succ n ih =>
    intro v h1 h2
    by_cases hv : v < len
    · rw [hstep n v hv]; exact ih (v + 1) (by omega) (by omega)
    · have : v = len := by omega
      subst this
      exact hend n
theorem dlt {v len : Nat} (h : v < len) : decide ((v : Int) < ((len : Nat) : Int)) = true := decide_eq_true (by omega)
theorem dge (len : Nat) : decide ((len : Int) < ((len : Nat) : Int)) = false := decide_eq_false (by omega)
theorem cs (v : Nat) : ((v : Int) + 1) = ((v + 1 : Nat) : Int) := by omega
theorem pF {α : Type} (n : Nat) (f : Nat → α) : tab (n + 1) f = tab n f ++ [f n] := by simp [tab, List.range_succ]
theorem WA {α : Type} (f : Nat → α) : tab 0 f = [] := rfl
theorem eX {α : Type} [Inhabited α] {n : Nat} {f : Nat → α} {v : Nat} (h : v < n) : nth (tab n f) (v : Int) = f v := by rw [sF (by omega) (by omega)]; congr 1
theorem cg1 (F : Nat) : oN F Dy = some true := rfl
theorem cg2 (F : Nat) : oN F uG = some true := rfl
theorem cg3 (F : Nat) : oN F wE = some true := rfl
theorem cn1 (F : Nat) : jI F Dy = some false := rfl
theorem cn2 (F : Nat) : jI F uG = some false := rfl
theorem cn3 (F : Nat) : jI F wE = some true := rfl
theorem aa8 (F : Nat) : uP F uG uG = some true := rfl
section
variable {g : bg} {size : Int}
theorem y7 (t i : Nat) : sf t i = ⟨Dy, -1⟩ ∨ sf t i = ⟨uG, -1⟩ ∨ sf t i = ⟨uG, 1⟩ ∨ sf t i = ⟨wE, -1⟩ := by
  unfold sf
  split
  · exact .inl rfl
  · split
    · split
      · exact .inr (.inl rfl)
      · exact .inr (.inr (.inl rfl))
    · exact .inr (.inr (.inr rfl))
theorem ZB (F : Nat) (hg : GG g) : fP F (st0 g size) 0 = some true := by
  have := hg.h1; have := hg.t1
  unfold fP st0
  rw [aW, show nth (tab g.ay.toNat (tf g.ak.toNat size)) 0 = qO size from by rw [sF (by omega) (by omega)]; rfl]
  have e : (decide ((0 : Int) ≤ 0) && decide ((0 : Int) < ((g.ay.toNat : Nat) : Int))) = true := by simp; omega
  rw [e, dD (fun _ => ⟨by omega, by rw [aW]; omega⟩)]
  rfl
theorem WB (F : Nat) (hg : GG g) : fP F (st0 g size) 1 = some true := by
  have := hg.h1; have := hg.t1
  unfold fP st0
  rw [aW, show nth (tab g.ay.toNat (tf g.ak.toNat size)) 1 = Aa from by rw [sF (by omega) (by omega)]; rfl]
  have e : (decide ((0 : Int) ≤ 1) && decide ((1 : Int) < ((g.ay.toNat : Nat) : Int))) = true := by simp; omega
  rw [e, dD (fun _ => ⟨by omega, by rw [aW]; omega⟩)]
  rfl
theorem WC (F : Nat) (hF : 100 ≤ F) (hg : GG g) : kZ F (st0 g size) = some true := by
  have t1 := hg.t1; have s2 := hg.s2; have s1 := hg.s1; have h1 := hg.h1
  unfold kZ
  simp only [jn]
  refine qB (fun n v => gu F (st0 g size) (fun _ => some true) n v) g.au.toNat _ (fun n v hv => ?_) (fun n => ?_) F 0 (by omega) (by omega)
  · have hl : (st0 g size).au.length = g.au.toNat := aW _ _
    have hlt : (st0 g size).ay.length = g.ay.toNat := aW _ _
    have hn : nth (st0 g size).au (v : Int) = sf g.ak.toNat v := eX hv
    have n0 : nth (st0 g size).ay 0 = qO size := by unfold st0; rw [sF (by omega) (by omega)]; rfl
    have n1 : nth (st0 g size).ay 1 = Aa := by unfold st0; rw [sF (by omega) (by omega)]; rfl
    conv => lhs; unfold gu
    rw [hl, dlt hv, cond_true, fV (by omega) (by rw [hl]; omega), hn, cs]
    rcases y7 g.ak.toNat v with e | e | e | e <;> rw [e] <;> simp only [cg1, cg2, cg3, cn1, cn2, cn3, ob, Bool.not_true, Bool.not_false, ct, cf, jn_, Bool.false_and, Bool.true_and, ttt, lzt]
    · rw [show fP F (st0 g size) Dy.iO = some true from ZB F hg]
      rw [ob]
      rw [show Dy.iO = 0 from rfl, n0, dD (fun _ _ => ⟨by omega, by rw [hlt]; omega⟩)]
      rw [show decide ((-1 : Int) < -1) = false from rfl]
      simp only [cf, Bool.not_true, Bool.false_or, show ((qO size).xType != Dy.xType) = false from rfl]
      rw [dI (by omega) (by omega)]
    · rw [show fP F (st0 g size) uG.iO = some true from WB F hg]
      rw [ob]
      rw [show uG.iO = 1 from rfl, n1, dD (fun _ _ => ⟨by omega, by rw [hlt]; omega⟩)]
      rw [show decide ((-1 : Int) < -1) = false from rfl]
      simp only [cf, Bool.not_true, Bool.false_or, show (Aa.xType != uG.xType) = false from rfl]
      rw [dI (by omega) (by omega)]
    · rw [show fP F (st0 g size) uG.iO = some true from WB F hg]
      rw [ob]
      rw [show uG.iO = 1 from rfl, n1, dD (fun _ _ => ⟨by omega, by rw [hlt]; omega⟩)]
      rw [show decide ((1 : Int) < -1) = false from rfl]
      simp only [cf, Bool.not_true, Bool.false_or, show (Aa.xType != uG.xType) = false from rfl]
      rw [dI (by omega) (by omega)]
    · simp only [ftf, lzf, ob, show ((-1 : Int) != -1) = false from rfl, cf]
      rw [dD (fun h => by cases h), dI (by omega) (by omega)]
  · conv => lhs; unfold gu
    rw [show (st0 g size).au.length = g.au.toNat from aW _ _, dge]
    rfl
end
end Go.V.P
set_option linter.unusedVariables false
set_option linter.unusedSimpArgs false
namespace Go.V.P
open Go.V Go.Proofs
variable {g : bg} {size : Int}
def RJ (c : eG) (a : Int) : Bool := (!((c.xType == 0) && ((c.iO == 0) && ((c.kL == 0) && ((c.gX == 0) && true))))) && (c.iO == a)
theorem Jw (F : Nat) (hF : 100 ≤ F) (s : aK) (hs : s.au.length ≤ 96) (a : Int) : kR F s a = some (((List.range s.au.length).filter (fun i : Nat => RJ (nth s.au (i : Int)).iF a)).map fun i : Nat => (i : Int)) := by
  unfold kR
  rw [jn_]
  have hlen : ∀ v, (((List.range v).filter (fun i : Nat => RJ (nth s.au (i : Int)).iF a)).map fun i : Nat => (i : Int)).length ≤ v := fun v => by
    rw [List.length_map]
    exact Nat.le_trans (List.length_filter_le _ _) (by simp)
  refine qP (fun n v l => jy F s a (fun v1 => some v1) n v l) s.au.length (fun v => ((List.range v).filter (fun i : Nat => RJ (nth s.au (i : Int)).iF a)).map fun i : Nat => (i : Int)) _ (fun n v hv => ?_) (fun n => ?_) F 0 (by omega) (by omega)
  · conv => lhs; unfold jy
    rw [dlt hv, ct, jn_, fV (by omega) (by omega)]
    unfold jI
    rw [ob, cs]
    have hl := hlen v
    have e : List.range (v + 1) = List.range v ++ [v] := List.range_succ
    have hd : RJ (nth s.au (v : Int)).iF a = ((!((nth s.au (v : Int)).iF.xType == 0 && ((nth s.au (v : Int)).iF.iO == 0 && ((nth s.au (v : Int)).iF.kL == 0 && ((nth s.au (v : Int)).iF.gX == 0 && true))))) && (nth s.au (v : Int)).iF.iO == a) := rfl
    rw [← hd]
    cases hc : RJ (nth s.au (v : Int)).iF a
    · rw [cf]; dsimp only; rw [dI (by omega) (by omega), e, List.filter_append]
      simp [hc]
    · rw [ct, dD (by simp only [List.length_cons, List.length_nil]; omega)]; dsimp only; rw [dI (by omega) (by omega), e, List.filter_append]
      simp [hc]
  · conv => lhs; unfold jy
    rw [dge, cf]
theorem WE (F : Nat) (hF : 100 ≤ F) (hg : GG g) (a : Int) (ha : a = 0 ∨ a = 1) : ∃ l, kR F (st0 g size) a = some l ∧ ((((l.length : Nat) : Int) == 0) = false) := by
  have t1 := hg.t1; have s2 := hg.s2; have s1 := hg.s1
  have hl : (st0 g size).au.length = g.au.toNat := aW _ _
  refine ⟨_, Jw F hF _ (by rw [hl]; omega) a, ?_⟩
  have hpos : 0 < (((List.range (st0 g size).au.length).filter (fun i : Nat => RJ (nth (st0 g size).au (i : Int)).iF a)).map fun i : Nat => (i : Int)).length := by
    rw [List.length_map]
    apply List.length_pos_of_mem (a := a.toNat)
    rw [List.mem_filter, hl, List.mem_range]
    refine ⟨by omega, ?_⟩
    have hn : nth (st0 g size).au ((a.toNat : Nat) : Int) = sf g.ak.toNat a.toNat := eX (by omega)
    rw [hn]
    rcases ha with rfl | rfl
    · rfl
    · have hT : 1 < 8 * g.ak.toNat := by omega
      have : sf g.ak.toNat (1 : Int).toNat = ⟨uG, -1⟩ := by
        show sf g.ak.toNat 1 = _
        simp [sf, hT]
      rw [this]; rfl
  generalize (((List.range (st0 g size).au.length).filter (fun i : Nat => RJ (nth (st0 g size).au (i : Int)).iF a)).map fun i : Nat => (i : Int)).length = n at hpos
  rw [beq_eq_false_iff_ne]
  omega
theorem vG (t i : Nat) (size : Int) : (i = 0 ∧ tf t size i = qO size) ∨ (i = 1 ∧ tf t size i = Aa) ∨ (2 ≤ i ∧ i < 2 + t ∧ tf t size i = pW (8 * ((i : Int) - 2))) ∨ (2 + t ≤ i ∧ 2 ≤ i ∧ tf t size i = ET) := by
  unfold tf
  split
  · rename_i h; exact .inl ⟨h, rfl⟩
  · split
    · rename_i h; exact .inr (.inl ⟨h, rfl⟩)
    · split
      · exact .inr (.inr (.inl ⟨by omega, by omega, rfl⟩))
      · exact .inr (.inr (.inr ⟨by omega, by omega, rfl⟩))
theorem RN (F : Nat) (hF : 100 ≤ F) (hg : GG g) (hz1 : 1 ≤ size) (hz2 : size ≤ 4096) : jS F (st0 g size) = some true := by
  have t1 := hg.t1; have t2 := hg.t2; have s2 := hg.s2; have s1 := hg.s1; have h1 := hg.h1; have h2 := hg.h2
  unfold jS
  rw [jn_]
  have hl : (st0 g size).au.length = g.au.toNat := aW _ _
  have hlt : (st0 g size).ay.length = g.ay.toNat := aW _ _
  refine qB (fun n v => fK F (st0 g size) (fun _ => some true) n v) g.ay.toNat _ (fun n v hv => ?_) (fun n => ?_) F 0 (by omega) (by omega)
  · have hn : nth (st0 g size).ay (v : Int) = tf g.ak.toNat size v := eX hv
    have AA : (st0 g size).bH = g := rfl
    conv => lhs; unfold fK
    rw [hlt, dlt hv, ct, fV (by omega) (by rw [hlt]; omega), hn, cs, AA]
    have hgood : jO F (tf g.ak.toNat size v) = some true := by
      rcases vG g.ak.toNat v size with ⟨rfl, e⟩ | ⟨rfl, e⟩ | ⟨c1, c2, e⟩ | ⟨c1, _, e⟩ <;> rw [e]
      · rw [Gs, decide_eq_true hz1, decide_eq_true hz2]; rfl
      · exact UU F
      · exact Nc F (by omega) (by omega)
      · exact UW F
    have aa9 : (tf g.ak.toNat size v).fE = 0 := by
      rcases vG g.ak.toNat v size with ⟨_, e⟩ | ⟨_, e⟩ | ⟨c1, c2, e⟩ | ⟨c1, _, e⟩ <;> rw [e] <;> rfl
    rw [hgood, ob, Bool.not_true, cf, aa9, show decide ((0 : Int) < 0) = false from rfl, dD (fun h => by cases h), dD (fun h => by cases h), ftf, Bool.false_and, lzf, ob, Bool.false_and, cf]
    by_cases hv2 : 2 ≤ v
    · have d2 : decide ((2 : Int) ≤ (v : Int)) = true := decide_eq_true (by omega)
      rw [d2, Uk (by omega) (by omega)]
      by_cases hv3 : v < 2 + g.ak.toNat
      · have d3 : decide ((v : Int) < 2 + g.ak) = true := decide_eq_true (by omega)
        have e : tf g.ak.toNat size v = pW (8 * ((v : Int) - 2)) := by
          rcases vG g.ak.toNat v size with ⟨_, e⟩ | ⟨_, e⟩ | ⟨c1, c2, e⟩ | ⟨c1, _, e⟩
          · omega
          · omega
          · exact e
          · omega
        rw [d3, Bool.and_self, Uk (by omega) (by omega), ttt, lzt, ES F hg (by omega) (by omega), ob, e]
        simp only [pW, beq_self_eq_true, Bool.and_self, Bool.not_true, Bool.and_false, cf, Bool.false_and, ftf, lzf, ob, v4z]
        rw [dI (by omega) (by omega)]
      · have d3 : decide ((v : Int) < 2 + g.ak) = false := decide_eq_false (by omega)
        have e : tf g.ak.toNat size v = ET := by
          rcases vG g.ak.toNat v size with ⟨_, e⟩ | ⟨_, e⟩ | ⟨c1, c2, e⟩ | ⟨c1, _, e⟩
          · omega
          · omega
          · omega
          · exact e
        rw [d3, Bool.and_false, dD (fun h => by cases h), ftf, lzf, ob, Bool.false_and, cf, e]
        rw [show (ET.xType != 0) = false from rfl, Bool.and_false, ftf, lzf, ob, Bool.false_and, cf, dI (by omega) (by omega)]
    · have d2 : decide ((2 : Int) ≤ (v : Int)) = false := decide_eq_false (by omega)
      rw [d2, dD (fun h => by cases h), Bool.false_and, dD (fun h => by cases h), ftf, lzf, ob, Bool.false_and, cf]
      obtain ⟨l, hl1, hl2⟩ := WE (size := size) F hF hg (v : Int) (by omega)
      have e : ((tf g.ak.toNat size v).xType != 0) = true := by
        rcases vG g.ak.toNat v size with ⟨_, e⟩ | ⟨_, e⟩ | ⟨c1, c2, e⟩ | ⟨c1, _, e⟩
        · rw [e]; rfl
        · rw [e]; rfl
        · omega
        · omega
      rw [e, Bool.not_false, Bool.and_self, ttt, lzt, hl1, ob, hl2, Bool.and_false, cf, dI (by omega) (by omega)]
  · conv => lhs; unfold fK
    rw [hlt, dge, cf]
end Go.V.P
set_option linter.unusedVariables false
set_option linter.unusedSimpArgs false
namespace Go.V.P
open Go.V Go.Proofs
variable {g : bg} {size : Int}
def Jy (t v : Nat) (i : Nat) : Bool := decide (i < 8 * (min v (2 + t) - 2))
theorem WG (F : Nat) (s : aK) (v : Nat) (b : Nat) (hv : nth s.ay (v : Int) = pW (8 * (b : Int))) (S : Nat) (hS : 8 * b + 8 ≤ S) (hb : b ≤ 4) (k : List Bool → Option Bool) (G : Nat) (hG : 10 ≤ G) :
    fH F s v k G 0 (tab S (fun i => decide (i < 8 * b))) = k (tab S (fun i => decide (i < 8 * (b + 1)))) := by
  have h := qP (fun n w l => fH F s v k n w l) 8 (fun w => tab S (fun i => decide (i < 8 * b + w))) (k (tab S (fun i => decide (i < 8 * (b + 1))))) (fun n w hw => ?_) (fun n => ?_) G 0 (by omega) (by omega)
  · simpa using h
  · conv => lhs; unfold fH
    rw [hv]
    have e1 : decide ((w : Int) < o9 .i64 (1 : Int) (pW (8 * (b : Int))).jw) = true := by
      rw [show o9 .i64 (1 : Int) (pW (8 * (b : Int))).jw = 8 from RI]; exact decide_eq_true (by omega)
    have e2 : (pW (8 * (b : Int))).jJ = 8 * (b : Int) := rfl
    rw [e1, ct, e2, dI (by omega) (by omega), aW]
    have e3 : decide (((S : Nat) : Int) ≤ 8 * (b : Int) + (w : Int)) = false := decide_eq_false (by omega)
    rw [e3, dD (fun _ => ⟨by omega, by rw [aW]; omega⟩), sF (by omega) (by omega)]
    have e4 : decide ((8 * (b : Int) + (w : Int)).toNat < 8 * b + w) = false := decide_eq_false (by omega)
    rw [e4, Bool.or_self, cf, fV (by omega) (by rw [aW]; omega), dI (by omega) (by omega), qA, cs]
    congr 1
    refine gU fun j hj => ?_
    by_cases c : j = (8 * (b : Int) + (w : Int)).toNat
    · rw [if_pos c]; exact (decide_eq_true (by omega)).symm
    · rw [if_neg c]
      by_cases c2 : j < 8 * b + w
      · rw [decide_eq_true c2, decide_eq_true (by omega)]
      · rw [decide_eq_false c2, decide_eq_false (by omega)]
  · conv => lhs; unfold fH
    rw [hv]
    have e1 : decide (((8 : Nat) : Int) < o9 .i64 (1 : Int) (pW (8 * (b : Int))).jw) = false := by
      rw [show o9 .i64 (1 : Int) (pW (8 * (b : Int))).jw = 8 from RI]; decide
    rw [e1, cf]
    congr 1
theorem UY (F : Nat) (hF : 100 ≤ F) (hg : GG g) : kJ F (st0 g size) = some true := by
  have t1 := hg.t1; have t2 := hg.t2; have s2 := hg.s2; have s1 := hg.s1; have h1 := hg.h1; have h2 := hg.h2
  have hl : (st0 g size).au.length = g.au.toNat := aW _ _
  have hlt : (st0 g size).ay.length = g.ay.toNat := aW _ _
  have key : ∀ k : List Bool → Option Bool, fJ F (st0 g size) k F 0 (List.replicate ((((st0 g size).au.length : Nat) : Int)).toNat false) = k (tab g.au.toNat (fun i => decide (i < 8 * g.ak.toNat))) := by
    intro k
    have h0 : List.replicate ((((st0 g size).au.length : Nat) : Int)).toNat false = tab g.au.toNat (Jy g.ak.toNat 0) := by
      rw [hl, rV, Int.toNat_natCast]
      exact gU fun j hj => by simp [Jy]
    rw [h0]
    refine qP (fun n v l => fJ F (st0 g size) k n v l) g.ay.toNat (fun v => tab g.au.toNat (Jy g.ak.toNat v)) _ (fun n v hv => ?_) (fun n => ?_) F 0 (by omega) (by omega)
    · have hn : nth (st0 g size).ay (v : Int) = tf g.ak.toNat size v := eX hv
      conv => lhs; unfold fJ
      rw [hlt, dlt hv, ct, jn_, fV (by omega) (by rw [hlt]; omega), hn, cs]
      rcases vG g.ak.toNat v size with ⟨c, e⟩ | ⟨c, e⟩ | ⟨c1, c2, e⟩ | ⟨c1, _, e⟩
      · rw [e, show ((qO size).xType != 2) = true from rfl, ct]; dsimp only; rw [dI (by omega) (by omega)]
        congr 1
        exact gU fun j hj => by unfold Jy; congr 2; omega
      · rw [e, show (Aa.xType != 2) = true from rfl, ct]; dsimp only; rw [dI (by omega) (by omega)]
        congr 1
        exact gU fun j hj => by unfold Jy; congr 2; omega
      · have e' : (8 * ((v : Int) - 2)) = 8 * ((v - 2 : Nat) : Int) := by omega
        rw [e, show ((pW (8 * ((v : Int) - 2))).xType != 2) = false from rfl, cf, dD (show (0 : Int) ≤ (pW (8 * ((v : Int) - 2))).jw by show (0 : Int) ≤ 3; decide)]
        have a1 : tab g.au.toNat (Jy g.ak.toNat v) = tab g.au.toNat (fun i => decide (i < 8 * (v - 2))) := gU fun j hj => by unfold Jy; congr 2; omega
        have a2 : tab g.au.toNat (Jy g.ak.toNat (v + 1)) = tab g.au.toNat (fun i => decide (i < 8 * ((v - 2) + 1))) := gU fun j hj => by unfold Jy; congr 2; omega
        rw [a1, a2]
        refine (WG F (st0 g size) v (v - 2) (by rw [hn, e, e']) g.au.toNat (by omega) (by omega) _ F (by omega)).trans ?_
        rw [dI (by omega) (by omega)]
      · rw [e, show (ET.xType != 2) = true from rfl, ct]; dsimp only; rw [dI (by omega) (by omega)]
        congr 1
        exact gU fun j hj => by unfold Jy; congr 2; omega
    · conv => lhs; unfold fJ
      rw [hlt, dge, cf]
      congr 1
      exact gU fun j hj => by unfold Jy; congr 2; omega
  unfold kJ
  rw [dD (by rw [hl]; omega), jn_, key, jn_]
  refine qB (fun n v => gG F (st0 g size) _ (fun _ => some true) n v) g.au.toNat _ (fun n v hv => ?_) (fun n => ?_) F 0 (by omega) (by omega)
  · have hn : nth (st0 g size).au (v : Int) = sf g.ak.toNat v := eX hv
    conv => lhs; unfold gG
    rw [hl, dlt hv, ct, fV (by omega) (by rw [hl]; omega), fV (by omega) (by rw [aW]; omega), hn, cs, eX hv]
    by_cases c : v < 8 * g.ak.toNat
    · rw [decide_eq_true c, Bool.not_true, ftf, lzf, ob, Bool.false_and, cf, dI (by omega) (by omega)]
    · have e : sf g.ak.toNat v = ⟨wE, -1⟩ := by
        unfold sf
        rw [if_neg (by omega), if_neg (by omega)]
      rw [decide_eq_false c, Bool.not_false, ttt, lzt, e, cn3, ob, Bool.not_true, Bool.and_false, cf, dI (by omega) (by omega)]
  · conv => lhs; unfold gG
    rw [hl, dge, cf]
theorem WH (F : Nat) (hF : 100 ≤ F) (hg : GG g) : lg F (st0 g size) = some false := by
  have t1 := hg.t1; have s2 := hg.s2; have s1 := hg.s1
  have hl : (st0 g size).au.length = g.au.toNat := aW _ _
  unfold lg
  rw [jn_]
  refine qB (fun n v => gW F (st0 g size) (fun _ => some false) n v) g.au.toNat _ (fun n v hv => ?_) (fun n => ?_) F 0 (by omega) (by omega)
  · have hn : nth (st0 g size).au (v : Int) = sf g.ak.toNat v := eX hv
    have e : ((sf g.ak.toNat v).iF.xType == 2) = false := by rcases y7 g.ak.toNat v with e | e | e | e <;> rw [e] <;> rfl
    conv => lhs; unfold gW
    rw [hl, dlt hv, ct, fV (by omega) (by rw [hl]; omega), hn, cs, e, ftf, lzf, ob, Bool.false_and, cf, dI (by omega) (by omega)]
  · conv => lhs; unfold gW
    rw [hl, dge, cf]
def ff (t : Nat) (i : Nat) : Int := if i = 0 then -1 else if i % 8 = 1 ∧ i < 8 * t then (if i = 1 then -1 else 1) else -2
theorem PW (t i : Nat) : ff t i = -1 ∨ ff t i = 1 ∨ ff t i = -2 := by
  unfold ff
  split
  · exact .inl rfl
  · split
    · split
      · exact .inl rfl
      · exact .inr (.inl rfl)
    · exact .inr (.inr rfl)
theorem RP (F : Nat) (hF : 100 ≤ F) (hg : GG g) : mF F (st0 g size) = some ⟨tab g.au.toNat (ff g.ak.toNat)⟩ := by
  have t1 := hg.t1; have s2 := hg.s2; have s1 := hg.s1
  have hl : (st0 g size).au.length = g.au.toNat := aW _ _
  unfold mF
  rw [jn_]
  refine qP (fun n v l => iL F (st0 g size) (fun v1 => some ⟨v1⟩) n v l) g.au.toNat (fun v => tab v (ff g.ak.toNat)) _ (fun n v hv => ?_) (fun n => ?_) F 0 (by omega) (by omega)
  · have hn : nth (st0 g size).au (v : Int) = sf g.ak.toNat v := eX hv
    conv => lhs; unfold iL
    rw [hl, dlt hv, ct, fV (by omega) (by rw [hl]; omega), jn_, hn, cs, pF]
    have key : ((jI F (sf g.ak.toNat v).iF).bind fun x30 => bif x30 then some (-2 : Int) else some (sf g.ak.toNat v).xUp) = some (ff g.ak.toNat v) := by
      unfold sf ff
      split
      · rfl
      · split
        · split <;> rfl
        · rfl
    obtain ⟨b, hb⟩ : ∃ b, jI F (sf g.ak.toNat v).iF = some b := ⟨_, rfl⟩
    rw [hb, ob] at key ⊢
    cases b
    · rw [cf] at key ⊢
      injection key with key
      dsimp only
      rw [key, dD (by rw [aW]; simp only [List.length_cons, List.length_nil]; omega), dI (by omega) (by omega)]
    · rw [ct] at key ⊢
      injection key with key
      dsimp only
      rw [key, dD (by rw [aW]; simp only [List.length_cons, List.length_nil]; omega), dI (by omega) (by omega)]
  · conv => lhs; unfold iL
    rw [hl, dge, cf]
theorem WI (F : Nat) {n : Nat} {f : Nat → Int} {i : Int} (h0 : 0 ≤ i) (h1 : i < n) : iP F ⟨tab n f⟩ i = some (f i.toNat != -2) := by
  unfold iP
  rw [aW, decide_eq_true h0, decide_eq_true h1, Bool.and_self, dD (fun _ => ⟨h0, by rw [aW]; exact h1⟩), sF h0 h1, Bool.true_and]
theorem ZC (F : Nat) {n : Nat} {f : Nat → Int} {i : Int} (h0 : i < 0) : iP F ⟨tab n f⟩ i = some false := by
  unfold iP
  rw [decide_eq_false (show ¬ (0 ≤ i) by omega), Bool.false_and, dD (fun h => by cases h), Bool.false_and]
theorem PX (F : Nat) (hF : 100 ≤ F) (hg : GG g) : oO F ⟨tab g.au.toNat (ff g.ak.toNat)⟩ = some true := by
  have t1 := hg.t1; have s2 := hg.s2; have s1 := hg.s1
  have f1 : ff g.ak.toNat 1 = -1 := by
    have hT : 1 < 8 * g.ak.toNat := by omega
    simp [ff, hT]
  have is1 : iP F ⟨tab g.au.toNat (ff g.ak.toNat)⟩ 1 = some true := by
    rw [WI F (by omega) (by omega), show (1 : Int).toNat = 1 from rfl, f1]; rfl
  have n1 : nth (tab g.au.toNat (ff g.ak.toNat)) 1 = -1 := by rw [sF (by omega) (by omega)]; exact f1
  unfold oO
  rw [aW, decide_eq_false (show ¬ ((96 : Int) < ((g.au.toNat : Nat) : Int)) by omega), cf, jn_]
  refine (qB (fun n v => jo F ⟨tab g.au.toNat (ff g.ak.toNat)⟩ _ n v) g.au.toNat (some true) (fun n v hv => ?_) (fun n => ?_) F 0 (by omega) (by omega))
  · conv => lhs; unfold jo
    rw [aW, dlt hv, ct, fV (by omega) (by rw [aW]; omega), eX hv, cs]
    rcases PW g.ak.toNat v with e | e | e <;> rw [e]
    · rw [show ((-1 : Int) != -2 && (-1 : Int) != -1) = false from rfl, ftf, lzf, ob, Bool.false_and, cf, dI (by omega) (by omega)]
    · rw [show ((1 : Int) != -2 && (1 : Int) != -1) = true from rfl, ttt, lzt, is1, ob, Bool.not_true, Bool.and_false, cf, dI (by omega) (by omega)]
    · rw [show ((-2 : Int) != -2 && (-2 : Int) != -1) = false from rfl, ftf, lzf, ob, Bool.false_and, cf, dI (by omega) (by omega)]
  · conv => lhs; unfold jo
    rw [aW, dge, cf, jn_]
    refine (qB (fun n v => jq F ⟨tab g.au.toNat (ff g.ak.toNat)⟩ _ n v) g.au.toNat (some true) (fun n v hv => ?_) (fun n => ?_) F 0 (by omega) (by omega))
    · conv => lhs; unfold jq
      rw [aW, dlt hv, ct, jn_]
      obtain ⟨G, hG⟩ : ∃ G, F = G + 3 := ⟨F - 3, by omega⟩
      have hl1 : ∀ (k : Unit → Option Bool), gy F ⟨tab g.au.toNat (ff g.ak.toNat)⟩ k F 0 (v : Int) = k () := by
        intro k
        have stop : ∀ (m : Nat) (c : Int), gy F ⟨tab g.au.toNat (ff g.ak.toNat)⟩ k (m + 1) c (-1) = k () := by
          intro m c
          unfold gy
          rw [ZC F (by omega), ob, cf]
        have go : ∀ (m : Nat) (c : Int) (i : Int) (u : Int), c ≤ 2 → 0 ≤ c → iP F ⟨tab g.au.toNat (ff g.ak.toNat)⟩ i = some true → nth (tab g.au.toNat (ff g.ak.toNat)) i = u → 0 ≤ i → i < g.au.toNat → gy F ⟨tab g.au.toNat (ff g.ak.toNat)⟩ k (m + 1) c i = gy F ⟨tab g.au.toNat (ff g.ak.toNat)⟩ k m (c + 1) u := by
          intro m c i u hc hc0 hi hu h0 h1
          conv => lhs; unfold gy
          rw [hi, ob, ct, aW, decide_eq_false (show ¬ (((g.au.toNat : Nat) : Int) < c) by omega), cf, dI (by omega) (by omega), fV h0 (by rw [aW]; exact h1), hu]
        have hn := eX (f := ff g.ak.toNat) hv
        have his := WI F (n := g.au.toNat) (f := ff g.ak.toNat) (i := (v : Int)) (by omega) (by omega)
        rw [show (v : Int).toNat = v by omega] at his
        have e3 : ∀ c x, gy F ⟨tab g.au.toNat (ff g.ak.toNat)⟩ k F c x = gy F ⟨tab g.au.toNat (ff g.ak.toNat)⟩ k (G + 2 + 1) c x := fun c x => by rw [show G + 2 + 1 = F by omega]
        rw [e3]
        rcases PW g.ak.toNat v with e | e | e
        · rw [go (G + 2) 0 v (-1) (by omega) (by omega) (by rw [his, e]; rfl) (by rw [hn, e]) (by omega) (by omega), stop]
        · rw [go (G + 2) 0 v 1 (by omega) (by omega) (by rw [his, e]; rfl) (by rw [hn, e]) (by omega) (by omega), go (G + 1) (0 + 1) 1 (-1) (by omega) (by omega) is1 n1 (by omega) (by omega), stop]
        · unfold gy
          rw [his, e, ob, show ((-2 : Int) != -2) = false from rfl, cf]
      rw [hl1, dI (by omega) (by omega), cs]
    · conv => lhs; unfold jq
      rw [aW, dge, cf]
theorem PY (F : Nat) (hF : 100 ≤ F) (hg : GG g) : jM F (st0 g size) = some true := by
  have t1 := hg.t1; have s2 := hg.s2; have s1 := hg.s1
  have hl : (st0 g size).au.length = g.au.toNat := aW _ _
  have hn1 : nth (st0 g size).au 1 = ⟨uG, -1⟩ := by
    have hT : 1 < 8 * g.ak.toNat := by omega
    rw [show nth (st0 g size).au 1 = sf g.ak.toNat 1 from eX (v := 1) (by omega)]
    simp [sf, hT]
  unfold jM
  rw [jn_]
  refine qB (fun n v => fB F (st0 g size) (fun _ => some true) n v) g.au.toNat _ (fun n v hv => ?_) (fun n => ?_) F 0 (by omega) (by omega)
  · have hn : nth (st0 g size).au (v : Int) = sf g.ak.toNat v := eX hv
    conv => lhs; unfold fB
    rw [hl, dlt hv, ct, jn_, fV (by omega) (by rw [hl]; omega), hn, cs]
    have stop : ∀ (k : Unit → Option Bool) (m : Nat) (c : Int), 0 ≤ c → c < 4 → eH F (st0 g size) v k (m + 1) (-1) c = k () := by
      intro k m c h0 h1
      unfold eH
      rw [hl, decide_eq_true (show c < ((g.au.toNat : Nat) : Int) by omega), ct, show decide ((-1 : Int) < 0) = true from rfl, ct]
    obtain ⟨G, hG⟩ : ∃ G, F = G + 2 := ⟨F - 2, by omega⟩
    have e3 : ∀ k c x, eH F (st0 g size) v k F c x = eH F (st0 g size) v k (G + 1 + 1) c x := fun k c x => by rw [show G + 1 + 1 = F by omega]
    rw [e3]
    rcases y7 g.ak.toNat v with e | e | e | e
    · rw [e]; rw [stop _ _ _ (by omega) (by omega), dI (by omega) (by omega)]
    · rw [e]; rw [stop _ _ _ (by omega) (by omega), dI (by omega) (by omega)]
    · rw [show (sf g.ak.toNat v).xUp = 1 from by rw [e]]
      conv => lhs; unfold eH
      rw [hl, decide_eq_true (show (0 : Int) < ((g.au.toNat : Nat) : Int) by omega), ct, show decide ((1 : Int) < 0) = false from rfl, cf, fV (by omega) (by rw [hl]; omega), hn1, hn, e, aa8, ob, Bool.not_true, Bool.false_and, cf, dI (by omega) (by omega), stop _ _ _ (by omega) (by omega), dI (by omega) (by omega)]
    · rw [e]; rw [stop _ _ _ (by omega) (by omega), dI (by omega) (by omega)]
  · conv => lhs; unfold fB
    rw [hl, dge, cf]
theorem Jz (F : Nat) (hF : 100 ≤ F) (hg : GG g) (hz1 : 1 ≤ size) (hz2 : size ≤ 4096) : oI F (st0 g size) = some true := by
  have t1 := hg.t1; have s2 := hg.s2; have s1 := hg.s1; have h1 := hg.h1
  have hl : (st0 g size).au.length = g.au.toNat := aW _ _
  have hlt : (st0 g size).ay.length = g.ay.toNat := aW _ _
  have AA : (st0 g size).bH = g := rfl
  have e1 : ((((st0 g size).au.length : Nat) : Int) != g.au) = false := by rw [hl, bne_eq_false_iff_eq]; omega
  have e2 : ((((st0 g size).ay.length : Nat) : Int) != g.ay) = false := by rw [hlt, bne_eq_false_iff_eq]; omega
  unfold oI
  have o : (false || false) = false := rfl
  have aa : (true && true) = true := rfl
  rw [AA, mD F hg, ob, e1, e2, Bool.not_true, o, o, cf, WC F hF hg, ob, ttt, lzt, RN F hF hg hz1 hz2, ob, aa, ttt, lzt, UY F hF hg, ob, aa, ttt, lzt, WH F hF hg, ob, Bool.not_false, aa, ttt, lzt, RP F hF hg, ob, lzt, PX F hF hg, ob, aa, ttt, lzt, PY F hF hg, ob, aa]
end Go.V.P
set_option linter.unusedVariables false
set_option linter.unusedSimpArgs false
set_option maxRecDepth 20000
namespace Go.V.P
open Go.V Go.Proofs
def yF (n : Int) : List Int := [1, n, 0, 0, 0, 0, 0, 0]
theorem all2 {p : Nat → Bool} (h : ((List.range 64).all fun a => (List.range 65).all fun b => p (64 * a + b)) = true) (n : Nat) (hn : n ≤ 4096) : p n = true := by
  by_cases e : n = 4096
  · subst e
    exact List.all_eq_true.1 (List.all_eq_true.1 h 63 (List.mem_range.2 (by omega))) 64 (List.mem_range.2 (by omega))
  have h1 := List.all_eq_true.1 h (n / 64) (List.mem_range.2 (by omega))
  have h2 := List.all_eq_true.1 h1 (n % 64) (List.mem_range.2 (by omega))
  have : 64 * (n / 64) + n % 64 = n := by omega
  rwa [this] at h2
noncomputable def WJ (n : Nat) : Bool := decide (uf .u64 (n : Int) 65535 = n) && decide (uf .u64 (n : Int) 4294901760 = 0) && decide (uf .u64 (n : Int) 281470681743360 = 0) && decide (ior .u64 0 (n : Int) = n) && decide (ior .u64 (n : Int) 0 = n) && decide (kS .u64 (n : Int) 0 = n) && decide (o9 .u64 (n : Int) 0 = n)
theorem WO : ((List.range 64).all fun a => (List.range 65).all fun b => WJ (64 * a + b)) = true := by kernel_rfl
theorem abb (n : Nat) (hn : n ≤ 4096) : uf .u64 (n : Int) 65535 = n ∧ uf .u64 (n : Int) 4294901760 = 0 ∧ uf .u64 (n : Int) 281470681743360 = 0 ∧ ior .u64 0 (n : Int) = n ∧ ior .u64 (n : Int) 0 = n ∧ kS .u64 (n : Int) 0 = n ∧ o9 .u64 (n : Int) 0 = n := by
  have := all2 (p := WJ) WO n hn
  unfold WJ at this
  simp only [Bool.and_eq_true, decide_eq_true_eq] at this
  obtain ⟨⟨⟨⟨⟨⟨a1, a2⟩, a3⟩, a4⟩, a5⟩, a6⟩, a7⟩ := this
  exact ⟨a1, a2, a3, a4, a5, a6, a7⟩
theorem cw1 (G : Nat) : qj (G + 5) Dy = some (1793, true) := by kernel_rfl
theorem cw2 (G : Nat) : qj (G + 5) uG = some (4294969091, true) := by kernel_rfl
theorem cw3 (G : Nat) : qj (G + 5) wE = some (0, true) := by kernel_rfl
theorem aco (G : Nat) : ru (G + 5) 1793 = some (Dy, true) := by kernel_rfl
theorem abd (G : Nat) : ru (G + 5) 4294969091 = some (uG, true) := by kernel_rfl
theorem acp (G : Nat) : ru (G + 5) 0 = some (wE, true) := by kernel_rfl
theorem tp2 (G : Nat) : jG (G + 6) Aa = some [3, 0, 0, 0, 0, 0, 0, 0] := by kernel_rfl
theorem tp4 (G : Nat) : jG (G + 6) ET = some [0, 0, 0, 0, 0, 0, 0, 0] := by kernel_rfl
theorem acr (G : Nat) : jG (G + 6) (pW 0) = some [770, 0, 0, 0, 0, 0, 0, 0] := by kernel_rfl
theorem acs (G : Nat) : jG (G + 6) (pW 8) = some [525058, 0, 0, 0, 0, 0, 0, 0] := by kernel_rfl
theorem acu (G : Nat) : jG (G + 6) (pW 16) = some [1049346, 0, 0, 0, 0, 0, 0, 0] := by kernel_rfl
theorem acv (G : Nat) : jG (G + 6) (pW 24) = some [1573634, 0, 0, 0, 0, 0, 0, 0] := by kernel_rfl
theorem tg2 (G : Nat) : kM (G + 10) [3, 0, 0, 0, 0, 0, 0, 0] = some (Aa, true) := by kernel_rfl
theorem tg4 (G : Nat) : kM (G + 10) [0, 0, 0, 0, 0, 0, 0, 0] = some (ET, true) := by kernel_rfl
theorem acw (G : Nat) : kM (G + 10) [770, 0, 0, 0, 0, 0, 0, 0] = some (pW 0, true) := by kernel_rfl
theorem acy (G : Nat) : kM (G + 10) [525058, 0, 0, 0, 0, 0, 0, 0] = some (pW 8, true) := by kernel_rfl
theorem acz (G : Nat) : kM (G + 10) [1049346, 0, 0, 0, 0, 0, 0, 0] = some (pW 16, true) := by kernel_rfl
theorem acA (G : Nat) : kM (G + 10) [1573634, 0, 0, 0, 0, 0, 0, 0] = some (pW 24, true) := by kernel_rfl
def prs : List aU := [⟨0, 16⟩, ⟨16, 16⟩, ⟨32, 16⟩]
theorem Ba (G : Nat) : fQ (G + 6) prs = some true := by kernel_rfl
theorem abe (F : Nat) : iD F ⟨0, 16⟩ = some 65535 := by kernel_rfl
theorem abf (F : Nat) : iD F ⟨16, 16⟩ = some 4294901760 := by kernel_rfl
theorem abg (F : Nat) : iD F ⟨32, 16⟩ = some 281470681743360 := by kernel_rfl
theorem WR {n : Nat} (h : n ≤ 4096) : IntKind.u64.wrap (n : Int) = n := by rw [IntKind.wrap_u64]; omega
theorem UZ {n : Nat} (h : n ≤ 4096) : IntKind.i64.wrap (n : Int) = n := by rw [IntKind.wrap_i64]; omega
theorem Yw (G : Nat) (n : Nat) (h : n ≤ 4096) : jK (G + 6) prs [(n : Int), 0, 0] = some ((n : Int), true) := by
  obtain ⟨a1, a2, a3, a4, a5, a6, a7⟩ := abb n h
  unfold jK
  rw [Ba, ob, show ((((prs.length : Nat) : Int)) != ((([(n : Int), 0, 0] : List Int).length : Nat) : Int)) = false from rfl, show (!true || false) = false from rfl, cf, jn_]
  unfold gY
  rw [show decide ((0 : Int) < ((prs.length : Nat) : Int)) = true from rfl, ct, fV (by decide) (by decide), fV (by decide) (by show (0 : Int) < 3; decide), show nth prs 0 = ⟨0, 16⟩ from rfl, abe, ob, dD (by decide), show nth [(n : Int), 0, 0] 0 = (n : Int) from rfl, show kS .u64 65535 (⟨0, 16⟩ : aU).fE = 65535 by kernel_rfl, decide_eq_false (show ¬ ((65535 : Int) < (n : Int)) by omega), cf, fV (by decide) (by show (0 : Int) < 3; decide), dD (by decide), dI (by decide) (by decide), show (⟨0, 16⟩ : aU).fE = 0 from rfl, a7, a4]
  unfold gY
  rw [show decide ((0 : Int) + 1 < ((prs.length : Nat) : Int)) = true from rfl, ct, fV (by decide) (by decide), fV (by decide) (by show (0 : Int) + 1 < 3; decide), show nth prs (0 + 1) = ⟨16, 16⟩ from rfl, abf, ob, dD (by decide), show nth [(n : Int), 0, 0] (0 + 1) = 0 from rfl, show kS .u64 4294901760 (⟨16, 16⟩ : aU).fE = 65535 by kernel_rfl, show decide ((65535 : Int) < 0) = false from rfl, cf, fV (by decide) (by show (0 : Int) + 1 < 3; decide), dD (by decide), dI (by decide) (by decide), show o9 .u64 0 (⟨16, 16⟩ : aU).fE = 0 by kernel_rfl, a5]
  unfold gY
  rw [show decide ((0 : Int) + 1 + 1 < ((prs.length : Nat) : Int)) = true from rfl, ct, fV (by decide) (by decide), fV (by decide) (by show (0 : Int) + 1 + 1 < 3; decide), show nth prs (0 + 1 + 1) = ⟨32, 16⟩ from rfl, abg, ob, dD (by decide), show nth [(n : Int), 0, 0] (0 + 1 + 1) = 0 from rfl, show kS .u64 281470681743360 (⟨32, 16⟩ : aU).fE = 65535 by kernel_rfl, show decide ((65535 : Int) < 0) = false from rfl, cf, fV (by decide) (by show (0 : Int) + 1 + 1 < 3; decide), dD (by decide), dI (by decide) (by decide), show o9 .u64 0 (⟨32, 16⟩ : aU).fE = 0 by kernel_rfl, a5]
  unfold gY
  rw [show decide ((0 : Int) + 1 + 1 + 1 < ((prs.length : Nat) : Int)) = false from rfl, cf]
theorem Yx (G : Nat) (n : Nat) (h : n ≤ 4096) : nR (G + 6) (n : Int) prs = some [(n : Int), 0, 0] := by
  obtain ⟨a1, a2, a3, a4, a5, a6, a7⟩ := abb n h
  unfold nR
  rw [Ba, ob, Bool.not_true, cf, dD (by decide), jn_, show List.replicate (0 : Int).toNat (0 : Int) = [] from rfl]
  unfold ku
  rw [show decide ((0 : Int) < ((prs.length : Nat) : Int)) = true from rfl, ct, fV (by decide) (by decide), show nth prs 0 = ⟨0, 16⟩ from rfl, abe, ob, dD (by decide), dD (by simp), dI (by decide) (by decide), a1, show (⟨0, 16⟩ : aU).fE = 0 from rfl, a6]
  unfold ku
  rw [show decide ((0 : Int) + 1 < ((prs.length : Nat) : Int)) = true from rfl, ct, fV (by decide) (by decide), show nth prs (0 + 1) = ⟨16, 16⟩ from rfl, abf, ob, dD (by decide), dD (by simp), dI (by decide) (by decide), a2, show kS .u64 0 (⟨16, 16⟩ : aU).fE = 0 by kernel_rfl]
  unfold ku
  rw [show decide ((0 : Int) + 1 + 1 < ((prs.length : Nat) : Int)) = true from rfl, ct, fV (by decide) (by decide), show nth prs (0 + 1 + 1) = ⟨32, 16⟩ from rfl, abg, ob, dD (by decide), dD (by simp), dI (by decide) (by decide), a3, show kS .u64 0 (⟨32, 16⟩ : aU).fE = 0 by kernel_rfl]
  unfold ku
  rw [show decide ((0 : Int) + 1 + 1 + 1 < ((prs.length : Nat) : Int)) = false from rfl, cf]
  rfl
theorem byt (G : Nat) : l9 (G + 6) = some [⟨0, 8⟩, ⟨8, 8⟩, ⟨16, 8⟩, ⟨24, 8⟩, ⟨32, 8⟩] := by kernel_rfl
theorem WS (G : Nat) : jK (G + 6) [⟨0, 8⟩, ⟨8, 8⟩, ⟨16, 8⟩, ⟨24, 8⟩, ⟨32, 8⟩] [1, 0, 0, 0, 0] = some (1, true) := by kernel_rfl
theorem Bc (F : Nat) : oP F = some prs := by kernel_rfl
theorem Yy (G : Nat) : nR (G + 6) 1 [⟨0, 8⟩, ⟨8, 8⟩, ⟨16, 8⟩, ⟨24, 8⟩, ⟨32, 8⟩] = some [1, 0, 0, 0, 0] := by kernel_rfl
theorem tp1 (G : Nat) (n : Nat) (h1 : 1 ≤ n) (h : n ≤ 4096) : jG (G + 6) (qO (n : Int)) = some (yF (n : Int)) := by
  unfold jG
  rw [Gs, decide_eq_true (show (1 : Int) ≤ (n : Int) by omega), decide_eq_true (show (n : Int) ≤ 4096 by omega), ob, show (!(true && true)) = false from rfl, cf, jn_]
  rw [show (qO (n : Int)).qC = false from rfl, cf]
  dsimp only
  rw [jn_, byt, ob, show ([IntKind.u64.wrap (qO (n : Int)).xType, IntKind.u64.wrap (qO (n : Int)).jw, IntKind.u64.wrap (qO (n : Int)).jJ, (0 : Int), IntKind.u64.wrap (qO (n : Int)).fE] : List Int) = [1, 0, 0, 0, 0] from rfl, WS, ob]
  dsimp only
  rw [jn_, Bc, ob]
  rw [show ([IntKind.u64.wrap (qO (n : Int)).mQ, IntKind.u64.wrap (qO (n : Int)).nT, IntKind.u64.wrap (qO (n : Int)).gX] : List Int) = [IntKind.u64.wrap (n : Int), 0, 0] from rfl, WR h, Yw G n h, ob]
  dsimp only
  rw [jn_, dD (by simp), dD (by simp)]
  rfl
end Go.V.P
set_option linter.unusedVariables false
set_option linter.unusedSimpArgs false
namespace Go.V.P
open Go.V Go.Proofs
variable {g : bg} {size : Int}
theorem JA (n : Nat) : (((n : Nat) : Int) != ((n : Nat) : Int)) = false := by simp
theorem PZ (F : Nat) (l : List Int) (hF : l.length < F) (hl : l.length < 1000000) : jC F l l = some true := by
  unfold jC
  rw [JA, cf, jn_]
  refine qB (fun n v => fF F l l (fun _ => some true) n v) l.length _ (fun n v hv => ?_) (fun n => ?_) F 0 (by omega) (by omega)
  · conv => lhs; unfold fF
    rw [dlt hv, ct, fV (by omega) (by omega), fV (by omega) (by omega), show (nth l (v : Int) != nth l (v : Int)) = false by simp, cf, dI (by omega) (by omega), cs]
  · conv => lhs; unfold fF
    rw [dge, cf]
theorem WT (F : Nat) (l : List aY) (hF : l.length < F) (hl : l.length < 1000000) : kF F l l = some true := by
  unfold kF
  rw [JA, cf, jn_]
  refine qB (fun n v => iQ F l l (fun _ => some true) n v) l.length _ (fun n v hv => ?_) (fun n => ?_) F 0 (by omega) (by omega)
  · conv => lhs; unfold iQ
    rw [dlt hv, ct, fV (by omega) (by omega), fV (by omega) (by omega), cs]
    simp only [beq_self_eq_true, Bool.and_self, Bool.not_true]
    rw [cf, dI (by omega) (by omega)]
  · conv => lhs; unfold iQ
    rw [dge, cf]
theorem U0 (F : Nat) (l : List aJ) (hF : l.length < F) (hl : l.length < 1000000) : jT F l l = some true := by
  unfold jT
  rw [JA, cf, jn_]
  refine qB (fun n v => iI F l l (fun _ => some true) n v) l.length _ (fun n v hv => ?_) (fun n => ?_) F 0 (by omega) (by omega)
  · conv => lhs; unfold iI
    rw [dlt hv, ct, fV (by omega) (by omega), fV (by omega) (by omega), cs]
    simp only [beq_self_eq_true, Bool.and_self, Bool.not_true]
    rw [cf, dI (by omega) (by omega)]
  · conv => lhs; unfold iI
    rw [dge, cf]
theorem U1 (F : Nat) (s : aK) (h1 : s.au.length < F) (h2 : s.ay.length < F) (h3 : F < 1000000) : ug F s s = some true := by
  unfold ug
  simp only [beq_self_eq_true, Bool.and_self]
  rw [lzt, WT F _ h1 (by omega), ob, show (true && true) = true from rfl, ttt, lzt, U0 F _ h2 (by omega), ob]
  rfl
theorem tg1 (G : Nat) (n : Nat) (h1 : 1 ≤ n) (h : n ≤ 4096) : kM (G + 10) (yF (n : Int)) = some (qO (n : Int), true) := by
  unfold kM
  rw [show ((((yF (n : Int)).length : Nat) : Int) != 8) = false from rfl, cf, fV (by decide) (by show (0 : Int) < 8; decide), byt, ob, show nth (yF (n : Int)) 0 = 1 from rfl, Yy, ob, fV (by decide) (by show (1 : Int) < 8; decide), Bc, ob, show nth (yF (n : Int)) 1 = (n : Int) from rfl, Yx _ n h, ob]
  rw [fV (by decide) (by decide), fV (by decide) (by decide), fV (by decide) (by decide), fV (by decide) (by decide), fV (by decide) (by decide), fV (by decide) (by show (0 : Int) < 3; decide), fV (by decide) (by show (1 : Int) < 3; decide), fV (by decide) (by show (2 : Int) < 3; decide), fV (by decide) (by show (2 : Int) < 8; decide), dD (by show (0 : Int) ≤ 3 ∧ (3 : Int) ≤ 8 ∧ (8 : Int) ≤ 8; decide), dD (by show 4 ≤ 5; decide)]
  have e : (⟨IntKind.i64.wrap (nth [1, 0, 0, 0, 0] 0), IntKind.i64.wrap (nth [1, 0, 0, 0, 0] 1), IntKind.i64.wrap (nth [1, 0, 0, 0, 0] 2), IntKind.i64.wrap (nth [(n : Int), 0, 0] 0), IntKind.i64.wrap (nth [(n : Int), 0, 0] 1), IntKind.i64.wrap (nth [1, 0, 0, 0, 0] 4), IntKind.i64.wrap (nth [(n : Int), 0, 0] 2), nth [1, 0, 0, 0, 0] 3 == (1 : Int), nth (yF (n : Int)) 2, ⟨nth (cut (yF (n : Int)) 3 (((yF (n : Int)).length : Nat) : Int)) 0, nth (cut (yF (n : Int)) 3 (((yF (n : Int)).length : Nat) : Int)) 1, nth (cut (yF (n : Int)) 3 (((yF (n : Int)).length : Nat) : Int)) 2, nth (cut (yF (n : Int)) 3 (((yF (n : Int)).length : Nat) : Int)) 3⟩⟩ : aJ) = qO (n : Int) := by
    have : IntKind.i64.wrap (nth [(n : Int), 0, 0] 0) = (n : Int) := UZ h
    rw [this]
    rfl
  rw [e, tp1 _ n h1 h, ob, PZ _ _ (by show 8 < G + 10; omega) (by show 8 < 1000000; omega), ob]
  rfl
def A1 (g : bg) : Nat := 16 + 1208 * g.ak.toNat
def B1 (g : bg) : Nat := A1 g + 2 * g.au.toNat
def C1 (g : bg) : Nat := B1 g + 8 * g.ay.toNat
theorem C8 (hg : GG g) : C1 g % 8 = 0 ∧ 16 ≤ C1 g ∧ C1 g ≤ 5424 ∧ A1 g % 8 = 0 := by
  have t1 := hg.t1; have t2 := hg.t2; have s2 := hg.s2; have s1 := hg.s1; have h1 := hg.h1; have h2 := hg.h2; have s8 := hg.s8
  unfold C1 B1 A1
  omega
theorem NV (F : Nat) (hg : GG g) : qL F g = some (A1 g : Int) := by
  have t1 := hg.t1; have t2 := hg.t2
  unfold qL A1
  rw [dI (by omega) (by omega), dI (by omega) (by omega)]
  congr 1
  omega
theorem JB (F : Nat) (hg : GG g) : pG F g = some (B1 g : Int) := by
  have t1 := hg.t1; have t2 := hg.t2; have s2 := hg.s2; have s1 := hg.s1; have c8 := C8 hg
  unfold pG
  rw [NV F hg, ob, dI (by omega) (by omega), dI (by unfold C1 B1 at c8; omega) (by unfold C1 B1 at c8; omega)]
  unfold B1
  congr 1
  omega
theorem xC (F : Nat) (hg : GG g) : ql F g = some (C1 g : Int) := by
  have h1 := hg.h1; have h2 := hg.h2; have t1 := hg.t1; have c8 := C8 hg
  unfold ql
  rw [mD F hg, ob, Bool.not_true, cf, JB F hg, ob, dI (by omega) (by omega), dI (by unfold C1 at c8; omega) (by unfold C1 at c8; omega)]
  unfold C1
  congr 1
  omega
theorem wrap_small {n : Int} (h0 : 0 ≤ n) (h1 : n < 1000000000) : IntKind.i64.wrap n = n := by rw [IntKind.wrap_i64]; omega
theorem Hf {n : Int} (h0 : 0 ≤ n) (h1 : n < 1000000000) : IntKind.u64.wrap n = n := by rw [IntKind.wrap_u64]; omega
theorem Hg {a : Int} (h0 : 0 ≤ a) : Int.tdiv a 8 = a / 8 := Int.tdiv_eq_ediv_of_nonneg h0
theorem y8 (F : Nat) (hg : GG g) : sO F g = some ((C1 g / 8 + 1 : Nat) : Int) := by
  have c8 := C8 hg
  unfold sO
  rw [mD F hg, ob, Bool.not_true, cf, xC F hg, ob, Hg (by omega), wrap_small (by omega) (by omega), dI (by omega) (by omega)]
  congr 1
theorem EU (F : Nat) (hg : GG g) : uQ F g = some 8 := by
  unfold uQ
  rw [mD F hg, ob, Bool.not_true, cf]
theorem NW (F : Nat) {n a b : Int} (h1 : a ≤ n) (h2 : n ≤ b) : oH F n a b = some true := by
  unfold oH
  rw [decide_eq_true h1, decide_eq_true h2]
  rfl
theorem qE (F : Nat) (hg : GG g) {v : Nat} (h : v < g.ak.toNat) : lG F g v = some (((16 + 1208 * v : Nat) : Int), 1208) := by
  have t1 := hg.t1; have t2 := hg.t2
  unfold lG
  rw [mD F hg, ob, dD (fun _ => ⟨by omega, by omega⟩), Bool.not_true, fff, lzt, NW F (by omega) (by omega), ob, show (false || !true) = false from rfl, cf, dI (by omega) (by omega), dI (by omega) (by omega)]
  congr 2
  omega
theorem y9 (F : Nat) (hg : GG g) {v : Nat} (h : v < g.au.toNat) : sQ F g v = some ((A1 g + 2 * v : Nat) : Int) := by
  have t1 := hg.t1; have s2 := hg.s2; have s1 := hg.s1; have c8 := C8 hg
  unfold sQ
  rw [mD F hg, ob, dD (fun _ => ⟨by omega, by omega⟩), Bool.not_true, fff, lzt, NW F (by omega) (by omega), ob, show (false || !true) = false from rfl, cf, NV F hg, ob, dI (by omega) (by omega), dI (by unfold C1 B1 at c8; omega) (by unfold C1 B1 at c8; omega)]
  congr 1
theorem zf (F : Nat) (hg : GG g) {v : Nat} (h : v < g.ay.toNat) : tH F g v = some ((B1 g + 8 * v : Nat) : Int) := by
  have t1 := hg.t1; have h1 := hg.h1; have h2 := hg.h2; have c8 := C8 hg
  unfold tH
  rw [mD F hg, ob, dD (fun _ => ⟨by omega, by omega⟩), Bool.not_true, fff, lzt, NW F (by omega) (by omega), ob, show (false || !true) = false from rfl, cf, JB F hg, ob, dI (by omega) (by omega), dI (by unfold C1 at c8; omega) (by unfold C1 at c8; omega)]
  congr 1
def U2 (c : eG) : Int := if c.xType = 1 then 1793 else if c.xType = 3 then 4294969091 else 0
def thW (t : aJ) : List Int := [if t.xType = 2 then 770 + 65536 * t.jJ else t.xType, t.mQ, 0, 0, 0, 0, 0, 0]
noncomputable def wf (g : bg) (size : Int) (b : Int) (i : Nat) : Int :=
  if i < 8 then (sup ⟨g, b⟩).getD i 0
  else if i < A1 g then 0
  else if i < B1 g then (if (i - A1 g) % 2 = 0 then U2 (sf g.ak.toNat ((i - A1 g) / 2)).iF else (sf g.ak.toNat ((i - A1 g) / 2)).xUp + 1)
  else if i < C1 g then (thW (tf g.ak.toNat size ((i - B1 g) / 8))).getD ((i - B1 g) % 8) 0
  else (sup ⟨g, b⟩).getD (i - C1 g) 0
theorem NY {n a m : Nat} {f : Nat → Int} {l2 : List Int} (h1 : a + l2.length ≤ n) (h2 : l2.length ≤ m) : cpy (tab n f) a m l2 = tab n (fun i => if a ≤ i ∧ i < a + l2.length then l2.getD (i - a) 0 else f i) := by
  have hmin : min l2.length m = l2.length := Nat.min_eq_left h2
  rw [WU _ _ _ _ (by rw [hmin, aW]; exact h1), hmin, List.take_length]
  apply List.ext_getElem?
  intro i
  have hl : ((tab n f).take a).length = a := by rw [List.length_take, aW]; omega
  by_cases c0 : i < a
  · rw [List.append_assoc, List.getElem?_append_left (by omega), List.getElem?_take_of_lt c0, qh (by omega), qh (by omega), if_neg (by omega)]
  · rw [List.append_assoc, List.getElem?_append_right (by omega), hl]
    by_cases c1 : i < a + l2.length
    · rw [List.getElem?_append_left (by omega), qh (by omega), if_pos ⟨by omega, c1⟩]
      simp [List.getD_eq_getElem?_getD, show i - a < l2.length by omega]
    · rw [List.getElem?_append_right (by omega), List.getElem?_drop]
      have e : a + l2.length + (i - a - l2.length) = i := by omega
      rw [e]
      by_cases c2 : i < n
      · rw [qh c2, qh c2, if_neg (by omega)]
      · rw [List.getElem?_eq_none (by rw [aW]; omega), List.getElem?_eq_none (by rw [aW]; omega)]
end Go.V.P
set_option linter.unusedVariables false
set_option linter.unusedSimpArgs false
namespace Go.V.P
open Go.V Go.Proofs
variable {g : bg} {size : Int}
theorem Yz (F : Nat) (hF : 5 ≤ F) (t i : Nat) : qj F (sf t i).iF = some (U2 (sf t i).iF, true) := by
  obtain ⟨G, rfl⟩ : ∃ G, F = G + 5 := ⟨F - 5, by omega⟩
  rcases y7 t i with e | e | e | e <;> rw [e]
  · exact cw1 G
  · exact cw2 G
  · exact cw2 G
  · exact cw3 G
theorem YA (F : Nat) (hF : 5 ≤ F) (t i : Nat) : ru F (U2 (sf t i).iF) = some ((sf t i).iF, true) := by
  obtain ⟨G, rfl⟩ : ∃ G, F = G + 5 := ⟨F - 5, by omega⟩
  rcases y7 t i with e | e | e | e <;> rw [e]
  · exact aco G
  · exact abd G
  · exact abd G
  · exact acp G
theorem JC {i t : Nat} (h2 : 2 ≤ i) (h : i < 2 + t) (ht : t ≤ 4) : (8 * ((i : Int) - 2)) = 0 ∨ (8 * ((i : Int) - 2)) = 8 ∨ (8 * ((i : Int) - 2)) = 16 ∨ (8 * ((i : Int) - 2)) = 24 := by omega
theorem ZE (F : Nat) (hF : 20 ≤ F) {t : Nat} (ht : t ≤ 4) (hz1 : 1 ≤ size) (hz2 : size ≤ 4096) (i : Nat) : jG F (tf t size i) = some (thW (tf t size i)) := by
  obtain ⟨G, rfl⟩ : ∃ G, F = G + 6 := ⟨F - 6, by omega⟩
  rcases vG t i size with ⟨_, e⟩ | ⟨_, e⟩ | ⟨c1, c2, e⟩ | ⟨c1, _, e⟩ <;> rw [e]
  · obtain ⟨n, rfl⟩ : ∃ n : Nat, size = n := ⟨size.toNat, by omega⟩
    exact tp1 G n (by omega) (by omega)
  · exact tp2 G
  · rcases JC c1 c2 ht with h | h | h | h <;> rw [h]
    · exact acr G
    · exact acs G
    · exact acu G
    · exact acv G
  · exact tp4 G
theorem ZF (F : Nat) (hF : 20 ≤ F) {t : Nat} (ht : t ≤ 4) (hz1 : 1 ≤ size) (hz2 : size ≤ 4096) (i : Nat) : kM F (thW (tf t size i)) = some (tf t size i, true) := by
  obtain ⟨G, rfl⟩ : ∃ G, F = G + 10 := ⟨F - 10, by omega⟩
  rcases vG t i size with ⟨_, e⟩ | ⟨_, e⟩ | ⟨c1, c2, e⟩ | ⟨c1, _, e⟩ <;> rw [e]
  · obtain ⟨n, rfl⟩ : ∃ n : Nat, size = n := ⟨size.toNat, by omega⟩
    exact tg1 G n (by omega) (by omega)
  · exact tg2 G
  · rcases JC c1 c2 ht with h | h | h | h <;> rw [h]
    · exact acw G
    · exact acy G
    · exact acz G
    · exact acA G
  · exact tg4 G
theorem xE (t : aJ) : (thW t).length = 8 := rfl
theorem Zg (t i : Nat) : (sf t i).xUp = -1 ∨ (sf t i).xUp = 1 := by
  rcases y7 t i with e | e | e | e <;> rw [e] <;> simp
def N1 (g : bg) : Nat := C1 g + 8
noncomputable def wS (g : bg) (b : Int) (v : Nat) (i : Nat) : Int :=
  if i < 8 then (sup ⟨g, b⟩).getD i 0
  else if i < A1 g then 0
  else if i < A1 g + 2 * v then (if (i - A1 g) % 2 = 0 then U2 (sf g.ak.toNat ((i - A1 g) / 2)).iF else (sf g.ak.toNat ((i - A1 g) / 2)).xUp + 1)
  else if i < C1 g then 0
  else (sup ⟨g, b⟩).getD (i - C1 g) 0
noncomputable def wT (g : bg) (size : Int) (b : Int) (v : Nat) (i : Nat) : Int :=
  if i < 8 then (sup ⟨g, b⟩).getD i 0
  else if i < A1 g then 0
  else if i < B1 g then (if (i - A1 g) % 2 = 0 then U2 (sf g.ak.toNat ((i - A1 g) / 2)).iF else (sf g.ak.toNat ((i - A1 g) / 2)).xUp + 1)
  else if i < B1 g + 8 * v then (thW (tf g.ak.toNat size ((i - B1 g) / 8))).getD ((i - B1 g) % 8) 0
  else if i < C1 g then 0
  else (sup ⟨g, b⟩).getD (i - C1 g) 0
theorem ZG (F : Nat) (hF : 200 ≤ F) (hg : GG g) (b : Int) (k : List Int → Option (List Int)) : jD F (st0 g size) k F 0 (tab (N1 g) (wS g b 0)) = k (tab (N1 g) (wS g b g.au.toNat)) := by
  have t1 := hg.t1; have t2 := hg.t2; have s2 := hg.s2; have s1 := hg.s1; have c8 := C8 hg
  have hl : (st0 g size).au.length = g.au.toNat := aW _ _
  refine qP (fun n v l => jD F (st0 g size) k n v l) g.au.toNat (fun v => tab (N1 g) (wS g b v)) _ (fun n v hv => ?_) (fun n => ?_) F 0 (by omega) (by omega)
  · have hn : nth (st0 g size).au (v : Int) = sf g.ak.toNat v := eX hv
    have AA : (st0 g size).bH = g := rfl
    have hu := Zg g.ak.toNat v
    have hlt : A1 g + 2 * v + 1 < B1 g := by unfold B1; omega
    have hA8 : 16 ≤ A1 g := by unfold A1; omega
    have hlt2 : B1 g ≤ C1 g := by unfold C1; omega
    have hN : N1 g = C1 g + 8 := rfl
    conv => lhs; unfold jD
    rw [hl, dlt hv, ct, fV (by omega) (by rw [hl]; omega), AA, y9 F hg hv, ob, hn, Yz F (by omega), ob, fV (by omega) (by rw [aW]; omega), dI (by omega) (by omega), dI (by omega) (by omega), fV (by omega) (by rw [aW]; omega), dI (by omega) (by omega), cs, cs]
    rw [Hf (by omega) (by omega), qA, qA, Int.toNat_natCast, Int.toNat_natCast]
    congr 1
    refine gU fun j hj => ?_
    unfold wS
    by_cases c1 : j = A1 g + 2 * v + 1
    · subst c1
      rw [if_pos rfl, if_neg (by omega), if_neg (by omega), if_pos (by omega), if_neg (by omega), show (A1 g + 2 * v + 1 - A1 g) / 2 = v by omega]
    · rw [if_neg c1]
      by_cases c2 : j = A1 g + 2 * v
      · subst c2
        rw [if_pos rfl, if_neg (by omega), if_neg (by omega), if_pos (by omega), if_pos (by omega), show (A1 g + 2 * v - A1 g) / 2 = v by omega]
      · rw [if_neg c2]
        by_cases c3 : j < 8
        · rw [if_pos c3, if_pos c3]
        · rw [if_neg c3, if_neg c3]
          by_cases c4 : j < A1 g
          · rw [if_pos c4, if_pos c4]
          · rw [if_neg c4, if_neg c4]
            by_cases c5 : j < A1 g + 2 * v
            · rw [if_pos c5, if_pos (show j < A1 g + 2 * (v + 1) by omega)]
            · rw [if_neg c5, if_neg (show ¬ j < A1 g + 2 * (v + 1) by omega)]
  · conv => lhs; unfold jD
    rw [hl, dge, cf]
theorem ZH (F : Nat) (hF : 200 ≤ F) (hg : GG g) (hz1 : 1 ≤ size) (hz2 : size ≤ 4096) (b : Int) (k : List Int → Option (List Int)) : jE F (st0 g size) k F 0 (tab (N1 g) (wT g size b 0)) = k (tab (N1 g) (wT g size b g.ay.toNat)) := by
  have t1 := hg.t1; have t2 := hg.t2; have h1 := hg.h1; have h2 := hg.h2; have c8 := C8 hg
  have hl : (st0 g size).ay.length = g.ay.toNat := aW _ _
  refine qP (fun n v l => jE F (st0 g size) k n v l) g.ay.toNat (fun v => tab (N1 g) (wT g size b v)) _ (fun n v hv => ?_) (fun n => ?_) F 0 (by omega) (by omega)
  · have hn : nth (st0 g size).ay (v : Int) = tf g.ak.toNat size v := eX hv
    have AA : (st0 g size).bH = g := rfl
    have hlt : B1 g + 8 * v + 8 ≤ C1 g := by unfold C1; omega
    have hA : A1 g ≤ B1 g := by unfold B1; omega
    have hA8 : 16 ≤ A1 g := by unfold A1; omega
    have hN : N1 g = C1 g + 8 := rfl
    have e0 : 0 + (((B1 g + 8 * v : Nat) : Int)).toNat * 1 = B1 g + 8 * v := by omega
    have e1 : (((N1 g : Nat) : Int)).toNat - (((B1 g + 8 * v : Nat) : Int)).toNat = N1 g - (B1 g + 8 * v) := by omega
    conv => lhs; unfold jE
    rw [hl, dlt hv, ct, fV (by omega) (by rw [hl]; omega), AA, zf F hg hv, ob, aW, dD (by omega), hn, ZE F (by omega) (by omega) hz1 hz2, ob, xE, e0, e1, dD (by omega), dI (by omega) (by omega), cs]
    rw [NY (by rw [xE]; omega) (by rw [xE]; omega), xE]
    congr 1
    refine gU fun j hj => ?_
    unfold wT
    by_cases c1 : B1 g + 8 * v ≤ j ∧ j < B1 g + 8 * v + 8
    · rw [if_pos c1, if_neg (by omega), if_neg (by omega), if_neg (by omega), if_pos (by omega), show (j - B1 g) / 8 = v by omega, show (j - B1 g) % 8 = j - (B1 g + 8 * v) by omega]
    · rw [if_neg c1]
      by_cases c3 : j < 8
      · rw [if_pos c3, if_pos c3]
      · rw [if_neg c3, if_neg c3]
        by_cases c4 : j < A1 g
        · rw [if_pos c4, if_pos c4]
        · rw [if_neg c4, if_neg c4]
          by_cases c5 : j < B1 g
          · rw [if_pos c5, if_pos c5]
          · rw [if_neg c5, if_neg c5]
            by_cases c6 : j < B1 g + 8 * v
            · rw [if_pos c6, if_pos (show j < B1 g + 8 * (v + 1) by omega)]
            · rw [if_neg c6, if_neg (show ¬ j < B1 g + 8 * (v + 1) by omega)]
  · conv => lhs; unfold jE
    rw [hl, dge, cf]
noncomputable def P1 (g : bg) (size b : Int) : List Int := tab (N1 g) (wf g size b)
theorem U3 (F : Nat) (hF : 200 ≤ F) (hg : GG g) (hz1 : 1 ≤ size) (hz2 : size ≤ 4096) (b : Int) : pX F (st0 g size) b = some (P1 g size b) := by
  have t1 := hg.t1; have t2 := hg.t2; have h1 := hg.h1; have h2 := hg.h2; have c8 := C8 hg
  have AA : (st0 g size).bH = g := rfl
  have hA : A1 g ≤ B1 g := by unfold B1; omega
  have hA8 : 16 ≤ A1 g := by unfold A1; omega
  have hBC : B1 g ≤ C1 g := by unfold C1; omega
  have hN : N1 g = C1 g + 8 := rfl
  have e0 : ((((C1 g / 8 + 1 : Nat) : Int)) * 8).toNat = N1 g := by omega
  unfold pX
  rw [Jz F (by omega) hg hz1 hz2, ob, Bool.not_true, cf, AA, y8 F hg, ob, dI (by omega) (by omega), dD (by omega), y5 F (by omega) _ (mD F hg), ob, kH, e0, List.length_replicate, dD (by omega), xC F hg, ob, dD (by omega), aP, List.length_replicate, dD (by omega), jn_, rV]
  rw [NY (by rw [kH]; omega) (by rw [kH]; omega), NY (by rw [kH]; omega) (by rw [kH]; omega), kH]
  have eS : tab (N1 g) (fun i => if 0 + (((C1 g : Nat) : Int)).toNat * 1 ≤ i ∧ i < 0 + (((C1 g : Nat) : Int)).toNat * 1 + 8 then (sup ⟨g, b⟩).getD (i - (0 + (((C1 g : Nat) : Int)).toNat * 1)) 0 else if 0 ≤ i ∧ i < 0 + 8 then (sup ⟨g, b⟩).getD (i - 0) 0 else 0) = tab (N1 g) (wS g b 0) := by
    refine gU fun j hj => ?_
    have e1 : 0 + (((C1 g : Nat) : Int)).toNat * 1 = C1 g := by omega
    rw [e1]
    unfold wS
    by_cases c1 : C1 g ≤ j
    · rw [if_pos (by omega), if_neg (by omega), if_neg (by omega), if_neg (by omega), if_neg (by omega)]
    · rw [if_neg (by omega)]
      by_cases c2 : j < 8
      · rw [if_pos (by omega), if_pos c2]; rfl
      · rw [if_neg (by omega), if_neg c2]
        by_cases c3 : j < A1 g
        · rw [if_pos c3]
        · rw [if_neg c3, if_neg (by omega), if_pos (by omega)]
  rw [eS, ZG F hF hg b, jn_]
  have eT : tab (N1 g) (wS g b g.au.toNat) = tab (N1 g) (wT g size b 0) := by
    refine gU fun j hj => ?_
    unfold wS wT
    have e2 : A1 g + 2 * g.au.toNat = B1 g := rfl
    rw [e2]
    by_cases c1 : j < 8
    · rw [if_pos c1, if_pos c1]
    · rw [if_neg c1, if_neg c1]
      by_cases c2 : j < A1 g
      · rw [if_pos c2, if_pos c2]
      · rw [if_neg c2, if_neg c2]
        by_cases c3 : j < B1 g
        · rw [if_pos c3, if_pos c3]
        · rw [if_neg c3, if_neg c3, if_neg (show ¬ j < B1 g + 8 * 0 by omega)]
  rw [eT, ZH F hF hg hz1 hz2 b]
  unfold P1
  congr 1
  refine gU fun j hj => ?_
  unfold wT wf
  have e2 : B1 g + 8 * g.ay.toNat = C1 g := rfl
  rw [e2]
  by_cases c1 : j < 8
  · rw [if_pos c1, if_pos c1]
  · rw [if_neg c1, if_neg c1]
    by_cases c2 : j < A1 g
    · rw [if_pos c2, if_pos c2]
    · rw [if_neg c2, if_neg c2]
      by_cases c3 : j < B1 g
      · rw [if_pos c3, if_pos c3]
      · rw [if_neg c3, if_neg c3]
        by_cases c4 : j < C1 g
        · rw [if_pos c4, if_pos c4]
        · rw [if_neg c4, if_neg c4, if_neg c4]
end Go.V.P
set_option linter.unusedVariables false
set_option linter.unusedSimpArgs false
namespace Go.V.P
open Go.V Go.Proofs
variable {g : bg} {size : Int}
def mx (a b : Int) : Int := if b > a then b else a
theorem WV (a b c : Int) : bu Tryz.prog .max #[42, 42, 42] 42 #[false, false, false] [.int .u64 a, .int .u64 b, .int .u64 c] = some (.int .u64 (mx (mx a b) c)) := rfl
theorem CQ (a : Int) : int? .u64 (.int .u64 a) = some a := rfl
theorem YB (s : dQ) : nth (sup s) 1 = IntKind.u64.wrap s.bH.ak ∧ nth (sup s) 2 = IntKind.u64.wrap s.bH.au ∧ nth (sup s) 3 = IntKind.u64.wrap s.bH.ay ∧ nth (sup s) 4 = s.tq := ⟨rfl, rfl, rfl, rfl⟩
theorem CS (F : Nat) (hF : 20 ≤ F) (hg : GG g) (b : Int) : oJ F (sup ⟨g, b⟩) = some (⟨g, b⟩, true) := by
  have t1 := hg.t1; have t2 := hg.t2; have s2 := hg.s2; have s1 := hg.s1; have h1 := hg.h1; have h2 := hg.h2
  obtain ⟨n1, n2, n3, n4⟩ := YB ⟨g, b⟩
  dsimp only at n1 n2 n3 n4
  rw [Hf (by omega) (by omega)] at n1 n2 n3
  have hl : ((sup ⟨g, b⟩).length : Nat) = 8 := kH _
  have hb : (((8 : Nat) : Int) != 8) = false := rfl
  have e : (⟨IntKind.i64.wrap (nth (sup ⟨g, b⟩) 1), IntKind.i64.wrap (nth (sup ⟨g, b⟩) 2), IntKind.i64.wrap (nth (sup ⟨g, b⟩) 3)⟩ : bg) = g := by
    rw [n1, n2, n3, wrap_small (by omega) (by omega), wrap_small (by omega) (by omega), wrap_small (by omega) (by omega)]
  unfold oJ
  rw [dD (fun _ => ⟨by decide, by rw [hl]; decide⟩), dD (fun _ => ⟨by decide, by rw [hl]; decide⟩), dD (fun _ => ⟨by decide, by rw [hl]; decide⟩), e, hl, hb, fff, lzt, WV, ob, CQ, ob, n1, n2, n3]
  have hm : decide ((4096 : Int) < mx (mx g.ak g.au) g.ay) = false := by
    apply decide_eq_false
    unfold mx
    split <;> split <;> omega
  rw [hm, show (false || false) = false from rfl, cf, fV (by decide) (by rw [hl]; decide), fV (by decide) (by rw [hl]; decide), fV (by decide) (by rw [hl]; decide), fV (by decide) (by rw [hl]; decide), n4, y5 F (by omega) _ (mD F hg), ob, PZ F _ (by rw [hl]; omega) (by rw [hl]; decide), ob, Bool.not_true, cf]
theorem yG {n a b : Nat} {f : Nat → Int} (h1 : a ≤ b) (h2 : b ≤ n) : cut (tab n f) (a : Int) (b : Int) = tab (b - a) (fun i => f (a + i)) := by
  unfold cut
  rw [Int.toNat_natCast, Int.toNat_natCast]
  apply List.ext_getElem?
  intro i
  by_cases hi : i < b - a
  · rw [List.getElem?_take_of_lt hi, List.getElem?_drop, qh (by omega), qh hi]
  · rw [List.getElem?_eq_none (by rw [List.length_take, List.length_drop, aW]; omega), List.getElem?_eq_none (by rw [aW]; omega)]
theorem Jo (s : dQ) : sup s = tab 8 (fun i => (sup s).getD i 0) := ER (sup s) 0
theorem U4 (hg : GG g) (size b : Int) : cut (P1 g size b) 0 8 = sup ⟨g, b⟩ := by
  have c8 := C8 hg
  have hN : N1 g = C1 g + 8 := rfl
  unfold P1
  rw [show (0 : Int) = ((0 : Nat) : Int) from rfl, show (8 : Int) = ((8 : Nat) : Int) from rfl, yG (by omega) (by omega), Jo]
  exact gU fun j hj => by unfold wf; rw [if_pos (by omega), Nat.zero_add]
theorem P5 (hg : GG g) (size b : Int) : cut (P1 g size b) ((C1 g : Nat) : Int) ((N1 g : Nat) : Int) = sup ⟨g, b⟩ := by
  have c8 := C8 hg
  have hN : N1 g = C1 g + 8 := rfl
  have hA : A1 g ≤ B1 g := by unfold B1; omega
  have hBC : B1 g ≤ C1 g := by unfold C1; omega
  unfold P1
  rw [yG (by omega) (by omega), Jo, show N1 g - C1 g = 8 by omega]
  exact gU fun j hj => by unfold wf; rw [if_neg (by omega), if_neg (by omega), if_neg (by omega), if_neg (by omega), show C1 g + j - C1 g = j by omega]
theorem DY (F : Nat) (hF : 20 ≤ F) (hg : GG g) (size b : Int) : jv F (P1 g size b) = some (⟨g, b⟩, true, true) := by
  have c8 := C8 hg
  have hN : N1 g = C1 g + 8 := rfl
  have hl : (P1 g size b).length = N1 g := aW _ _
  unfold jv
  rw [hl, decide_eq_false (show ¬ (((N1 g : Nat) : Int) < 8) by omega), show (Int.tmod ((N1 g : Nat) : Int) 8 != 0) = false by rw [Jv (by omega), bne_eq_false_iff_eq]; omega, show (false || false) = false from rfl, cf, dD (by omega), U4 hg, CS F hF hg, ob, ttt, lzt, y8 F hg, ob, dI (by omega) (by omega), dD (by omega)]
  rw [show ((N1 g : Nat) : Int) - 8 = ((C1 g : Nat) : Int) by omega, P5 hg, CS F hF hg, ob, ttt, lzt, y8 F hg, ob, Hg (by omega), wrap_small (by omega) (by omega)]
  have e : (((C1 g / 8 + 1 : Nat) : Int) == ((N1 g : Nat) : Int) / 8) = true := by rw [beq_iff_eq]; omega
  rw [e, show (true && true) = true from rfl, ct]
theorem ZI (F : Nat) (hF : 200 ≤ F) (hg : GG g) (size b : Int) (k : List aY → Option (aK × Int)) : iU F (P1 g size b) (⟨g, b⟩, true, true) k F 0 [] = k (tab g.au.toNat (sf g.ak.toNat)) := by
  have t1 := hg.t1; have t2 := hg.t2; have s2 := hg.s2; have s1 := hg.s1; have c8 := C8 hg
  have hN : N1 g = C1 g + 8 := rfl
  have hBC : B1 g ≤ C1 g := by unfold C1; omega
  have hA8 : 16 ≤ A1 g := by unfold A1; omega
  have hl : (P1 g size b).length = N1 g := aW _ _
  refine qP (fun n v l => iU F (P1 g size b) (⟨g, b⟩, true, true) k n v l) g.au.toNat (fun v => tab v (sf g.ak.toNat)) _ (fun n v hv => ?_) (fun n => ?_) F 0 (by omega) (by omega)
  · have hlt : A1 g + 2 * v + 1 < B1 g := by unfold B1; omega
    have hu := Zg g.ak.toNat v
    conv => lhs; unfold iU
    rw [decide_eq_true (show (v : Int) < g.au by omega), ct, jn_, y9 F hg hv, ob, fV (by omega) (by rw [hl]; omega)]
    have e1 : nth (P1 g size b) ((A1 g + 2 * v : Nat) : Int) = U2 (sf g.ak.toNat v).iF := by
      unfold P1
      rw [eX (by omega)]
      unfold wf
      rw [if_neg (by omega), if_neg (by omega), if_pos (by omega), if_pos (by omega), show (A1 g + 2 * v - A1 g) / 2 = v by omega]
    have e2 : nth (P1 g size b) (((A1 g + 2 * v : Nat) : Int) + 1) = (sf g.ak.toNat v).xUp + 1 := by
      unfold P1
      rw [cs, eX (by omega)]
      unfold wf
      rw [if_neg (by omega), if_neg (by omega), if_pos (by omega), if_neg (by omega), show (A1 g + 2 * v + 1 - A1 g) / 2 = v by omega]
    rw [e1, YA F (by omega), ob, dD (fun _ => ⟨by omega, by omega⟩), dD (fun _ => ⟨by omega, by rw [hl]; omega⟩), e2, decide_eq_false (show ¬ ((96 : Int) < (sf g.ak.toNat v).xUp + 1) by omega), Bool.not_true, show (false || false) = false from rfl, cf, dI (by omega) (by omega), fV (by omega) (by rw [hl]; omega), wrap_small (by omega) (by omega), dI (by omega) (by omega), dD (by rw [aW]; simp only [List.length_cons, List.length_nil]; omega)]
    dsimp only
    rw [dI (by omega) (by omega), cs, pF, Int.add_sub_cancel]
  · conv => lhs; unfold iU
    rw [decide_eq_false (show ¬ (((g.au.toNat : Nat) : Int) < g.au) by omega), cf]
theorem ZJ (F : Nat) (hF : 200 ≤ F) (hg : GG g) (hz1 : 1 ≤ size) (hz2 : size ≤ 4096) (b : Int) (k : List aJ → Option (aK × Int)) : iV F (P1 g size b) (⟨g, b⟩, true, true) k F 0 [] = k (tab g.ay.toNat (tf g.ak.toNat size)) := by
  have t1 := hg.t1; have t2 := hg.t2; have h1 := hg.h1; have h2 := hg.h2; have c8 := C8 hg
  have hN : N1 g = C1 g + 8 := rfl
  have hA : A1 g ≤ B1 g := by unfold B1; omega
  have hA8 : 16 ≤ A1 g := by unfold A1; omega
  have hl : (P1 g size b).length = N1 g := aW _ _
  refine qP (fun n v l => iV F (P1 g size b) (⟨g, b⟩, true, true) k n v l) g.ay.toNat (fun v => tab v (tf g.ak.toNat size)) _ (fun n v hv => ?_) (fun n => ?_) F 0 (by omega) (by omega)
  · have hlt : B1 g + 8 * v + 8 ≤ C1 g := by unfold C1; omega
    conv => lhs; unfold iV
    rw [decide_eq_true (show (v : Int) < g.ay by omega), ct, zf F hg hv, ob, dI (by omega) (by omega), hl, dD (by omega)]
    have e1 : cut (P1 g size b) ((B1 g + 8 * v : Nat) : Int) (((B1 g + 8 * v : Nat) : Int) + 8) = thW (tf g.ak.toNat size v) := by
      unfold P1
      rw [show (((B1 g + 8 * v : Nat) : Int) + 8) = ((B1 g + 8 * v + 8 : Nat) : Int) by omega, yG (by omega) (by omega), show B1 g + 8 * v + 8 - (B1 g + 8 * v) = 8 by omega, ER (thW (tf g.ak.toNat size v)) 0, xE]
      refine gU fun j hj => ?_
      unfold wf
      rw [if_neg (by omega), if_neg (by omega), if_neg (by omega), if_pos (by omega), show (B1 g + 8 * v + j - B1 g) / 8 = v by omega, show (B1 g + 8 * v + j - B1 g) % 8 = j by omega]
    rw [e1, ZF F (by omega) (by omega) hz1 hz2, ob, Bool.not_true, cf, dD (by rw [aW]; simp only [List.length_cons, List.length_nil]; omega), dI (by omega) (by omega), cs, pF]
  · conv => lhs; unfold iV
    rw [decide_eq_false (show ¬ (((g.ay.toNat : Nat) : Int) < g.ay) by omega), cf]
theorem Gt (F : Nat) (hF : 200 ≤ F) (hg : GG g) (hz1 : 1 ≤ size) (hz2 : size ≤ 4096) (b : Int) : jU F (P1 g size b) = some (st0 g size, 0) := by
  unfold jU
  rw [DY F (by omega) hg, ob, show (!true && !true) = false from rfl, cf, jn_, ZI F hF hg, jn_, ZJ F hF hg hz1 hz2]
  have := Jz F (by omega) hg hz1 hz2
  unfold st0 at this
  rw [this, ob, Bool.not_true, cf]
  rfl
end Go.V.P
set_option linter.unusedVariables false
set_option linter.unusedSimpArgs false
namespace Go.V.P
open Go.V Go.Proofs
variable {g : bg} {size : Int}
def D0 : bC := ⟨0, 0, ⟨0, 0, 0, 0⟩, ⟨0, 0, 0⟩, []⟩
def Z0 : List Int := tab 1208 (fun _ => 0)
theorem JD (hg : GG g) (size b : Int) {v : Nat} (hv : v < g.ak.toNat) : cut (P1 g size b) ((16 + 1208 * v : Nat) : Int) (((16 + 1208 * v : Nat) : Int) + 1208) = Z0 := by
  have c8 := C8 hg
  have hN : N1 g = C1 g + 8 := rfl
  have hA : 16 + 1208 * v + 1208 ≤ A1 g := by unfold A1; omega
  have hA2 : A1 g ≤ B1 g := by unfold B1; omega
  have hBC : B1 g ≤ C1 g := by unfold C1; omega
  unfold P1 Z0
  rw [show (((16 + 1208 * v : Nat) : Int) + 1208) = ((16 + 1208 * v + 1208 : Nat) : Int) by omega, yG (by omega) (by omega), show 16 + 1208 * v + 1208 - (16 + 1208 * v) = 1208 by omega]
  exact gU fun j hj => by unfold wf; rw [if_neg (by omega), if_pos (by omega)]
theorem NZ (F : Nat) (hg : GG g) : lu F g Z0 = some (D0, true) := by
  have t1 := hg.t1
  have hl : Z0.length = 1208 := aW _ _
  unfold lu
  rw [show lG F g 0 = some (((16 + 1208 * 0 : Nat) : Int), 1208) from qE F hg (v := 0) (by omega), ob, hl, show (((1208 : Int) == 0) || (((1208 : Nat) : Int) != 1208)) = false from rfl, cf, fV (by decide) (by rw [hl]; decide)]
  have e0 : nth Z0 0 = 0 := eX (v := 0) (by decide)
  have e7 : nth Z0 7 = 0 := eX (v := 7) (by decide)
  rw [e0, show ((0 : Int) == 0) = true from rfl, ct, jn_, fV (by decide) (by rw [hl]; decide), e7]
  rfl
theorem Jp (a b : Int) : bu Tryz.prog .max #[42, 42] 42 #[false, false] [.int .u64 a, .int .u64 b] = some (.int .u64 (mx a b)) := rfl
theorem U5 {b : Int} (h0 : 0 ≤ b) (h1 : b < 4611686018427387904) : IntKind.u64.wrap (b + 1) = b + 1 := by rw [IntKind.wrap_u64]; omega
theorem Ul (F : Nat) (hF : 200 ≤ F) (hg : GG g) (hz1 : 1 ≤ size) (hz2 : size ≤ 4096) {b : Int} (h0 : 0 ≤ b) (h1 : b < 4611686018427387904) : lM F (P1 g size b) = some (⟨st0 g size, tab g.ak.toNat (fun _ => D0), b + 1, true⟩, true) := by
  have t1 := hg.t1; have t2 := hg.t2; have c8 := C8 hg
  have hN : N1 g = C1 g + 8 := rfl
  have hl : (P1 g size b).length = N1 g := aW _ _
  unfold lM
  rw [DY F (by omega) hg, ob, show (!true && !true) = false from rfl, cf, jn_, hl, dI (by omega) (by omega), dD (by omega), show ((N1 g : Nat) : Int) - 8 = ((C1 g : Nat) : Int) by omega, P5 hg, CS F (by omega) hg, ob, show (true && true) = true from rfl, ct]
  dsimp only
  rw [Jp, ob, CQ, ob, show mx b b = b by unfold mx; split <;> rfl, decide_eq_false (show ¬ ((4611686018427387904 : Int) ≤ b) by omega), cf, jn_]
  have key : ∀ k, jh F (⟨g, b⟩, true, true) k F (P1 g size b) 0 0 [] = k (P1 g size b) 0 (tab g.ak.toNat (fun _ => D0)) := by
    intro k
    refine qP (fun n v l => jh F (⟨g, b⟩, true, true) k n (P1 g size b) 0 v l) g.ak.toNat (fun v => tab v (fun _ => D0)) _ (fun n v hv => ?_) (fun n => ?_) F 0 (by omega) (by omega)
    · conv => lhs; unfold jh
      have hA : 16 + 1208 * v + 1208 ≤ A1 g := by unfold A1; omega
      have hA2 : A1 g ≤ B1 g := by unfold B1; omega
      have hBC : B1 g ≤ C1 g := by unfold C1; omega
      rw [decide_eq_true (show (v : Int) < g.ak by omega), ct, qE F hg hv, ob, jn_, dI (by omega) (by omega), hl, dD (by omega), JD hg size b hv, NZ F hg, ob]
      dsimp only
      rw [Bool.not_true, cf, jn_, show (D0.bY == 2) = false from rfl, cf]
      dsimp only
      rw [dD (by rw [aW]; simp only [List.length_cons, List.length_nil]; omega), dI (by omega) (by omega), cs, pF]
    · conv => lhs; unfold jh
      rw [decide_eq_false (show ¬ (((g.ak.toNat : Nat) : Int) < g.ak) by omega), cf]
  rw [key, Gt F hF hg hz1 hz2, ob, U5 h0 h1]
  rfl
theorem WW (F : Nat) (hF : 200 ≤ F) (hg : GG g) (hz1 : 1 ≤ size) (hz2 : size ≤ 4096) {b : Int} (h0 : 0 ≤ b) (h1 : b < 4611686018427387904) : uh F (P1 g size b) = some true := by
  unfold uh
  rw [Ul F hF hg hz1 hz2 h0 h1, ob]
theorem YC (F : Nat) : pY F D0 = some D0 := rfl
end Go.V.P
set_option linter.unusedVariables false
set_option linter.unusedSimpArgs false
namespace Go.V.P
open Go.V Go.Proofs
def v8 (h : Nat → Int) : V8 Int := ⟨h 0, h 1, h 2, h 3, h 4, h 5, h 6, h 7⟩
theorem ZK (h : Nat → Int) {j : Nat} (hj : j < 8) (x : Int) : (v8 h).put j x = v8 (fun i => if i = j then x else h i) := by
  rcases j with _ | _ | _ | _ | _ | _ | _ | _ | j <;> first | rfl | omega
theorem ZL (h : Nat → Int) {j : Nat} (hj : j < 8) : (v8 h).get j = h j := by
  rcases j with _ | _ | _ | _ | _ | _ | _ | _ | j <;> first | rfl | omega
theorem P6 {h h' : Nat → Int} (e : ∀ j, j < 8 → h j = h' j) : v8 h = v8 h' := by
  unfold v8
  rw [e 0 (by omega), e 1 (by omega), e 2 (by omega), e 3 (by omega), e 4 (by omega), e 5 (by omega), e 6 (by omega), e 7 (by omega)]
theorem get_put {v : V8 Int} {j k : Nat} (hj : j < 8) (hk : k < 8) (x : Int) : (v.put j x).get k = if k = j then x else v.get k := by
  rcases j with _ | _ | _ | _ | _ | _ | _ | _ | j <;> first | omega | (rcases k with _ | _ | _ | _ | _ | _ | _ | _ | k <;> first | rfl | omega)
def RQ (f : Nat → Int) (v r : Nat) : bQ := ⟨v8 (fun j => if 8 * r + j < v then f (8 * r + j) else 0), v8 (fun j => if 8 * r + j < v then f (8 * r + j) else 0), false, false⟩
theorem Um (F : Nat) {n : Nat} (h1 : 1 ≤ n) (h2 : n ≤ 4096) : xu F (n : Int) = some (some ⟨List.replicate n ⟨⟨0, 0, 0, 0, 0, 0, 0, 0⟩, ⟨0, 0, 0, 0, 0, 0, 0, 0⟩, false, false⟩, false, 0, 0, []⟩, 0) := by
  unfold xu
  rw [decide_eq_false (show ¬ ((n : Int) < 1) by omega), decide_eq_false (show ¬ ((4096 : Int) < (n : Int)) by omega), show (false || false) = false from rfl, cf, dD (by omega), Int.toNat_natCast]
def N7 (R : Nat) (f : Nat → Int) : aO := ⟨tab R (RQ f (8 * R)), false, 0, 0, []⟩
theorem P7 (F : Nat) {R : Nat} (f : Nat → Int) (h1 : 1 ≤ R) (h2 : R ≤ 4096) (hF : 8 * R < F) : qm F (tab (8 * R) f) = some (some (N7 R f), 0) := by
  unfold qm
  rw [aW, Hg (by omega), Jv (by omega), show ((8 * R : Nat) : Int) / 8 = (R : Int) by omega, show ((8 * R : Nat) : Int) % 8 = 0 by omega, wrap_small (by omega) (by omega), Um F h1 h2, ob]
  unfold Bd
  dsimp only
  rw [show (((0 : Int) != 0) || ((0 : Int) != 0)) = false from rfl, cf, jn_]
  have e0 : List.replicate R (⟨⟨0, 0, 0, 0, 0, 0, 0, 0⟩, ⟨0, 0, 0, 0, 0, 0, 0, 0⟩, false, false⟩ : bQ) = tab R (RQ f 0) := by
    rw [rV]; exact gU fun j hj => by simp [RQ, v8]
  rw [e0]
  refine qP (fun n v l => oQ F (tab (8 * R) f) _ n v l) (8 * R) (fun v => tab R (RQ f v)) _ (fun n v hv => ?_) (fun n => ?_) F 0 (by omega) (by omega)
  · conv => lhs; unfold oQ
    rw [aW, dlt hv, ct, fV (by omega) (by rw [aW]; omega), Hg (by omega), Jv (by omega), wrap_small (by omega) (by omega), fV (by omega) (by rw [aW]; omega), dD (by omega), dD (by omega), dI (by omega) (by omega), cs, eX hv, show ((v : Int) / 8) = ((v / 8 : Nat) : Int) by omega, eX (by omega), show ((v : Int) % 8).toNat = v % 8 by omega]
    rw [qA, Int.toNat_natCast]
    congr 1
    refine gU fun r hr => ?_
    by_cases c : r = v / 8
    · subst c
      rw [if_pos rfl]
      unfold RQ
      dsimp only
      rw [ZK _ (by omega)]
      have : v8 (fun i => if i = v % 8 then f v else if 8 * (v / 8) + i < v then f (8 * (v / 8) + i) else 0) = v8 (fun j => if 8 * (v / 8) + j < v + 1 then f (8 * (v / 8) + j) else 0) := P6 fun j hj => by
        by_cases c1 : j = v % 8
        · rw [if_pos c1, if_pos (by omega)]; congr 1; omega
        · rw [if_neg c1]
          by_cases c2 : 8 * (v / 8) + j < v
          · rw [if_pos c2, if_pos (by omega)]
          · rw [if_neg c2, if_neg (by omega)]
      rw [this]
    · rw [if_neg c]
      unfold RQ
      have : v8 (fun j => if 8 * r + j < v then f (8 * r + j) else 0) = v8 (fun j => if 8 * r + j < v + 1 then f (8 * r + j) else 0) := P6 fun j hj => by
        by_cases c2 : 8 * r + j < v
        · rw [if_pos c2, if_pos (by omega)]
        · rw [if_neg c2, if_neg (by omega)]
      rw [this]
  · conv => lhs; unfold oQ
    rw [aW, dge, cf]
    rfl
def wd (M : aO) (i : Nat) : Int := (nth M.xl ((i / 8 : Nat) : Int)).xNew.get (i % 8)
structure Mem (M : aO) (R : Nat) (w : Nat → Int) (c : Nat) : Prop where
  len : M.xl.length = R
  wds : ∀ i, i < 8 * R → wd M i = w i
  off : M.gB = false
  fuse : M.dO = 0
  P8 : 0 ≤ M.dA
  cnt : M.dA ≤ c
theorem P9 {R : Nat} (f : Nat → Int) : Mem (N7 R f) R f 0 := by
  refine ⟨aW _ _, fun i hi => ?_, rfl, rfl, by show (0 : Int) ≤ 0; decide, by show (0 : Int) ≤ 0; decide⟩
  unfold wd N7
  dsimp only
  rw [eX (by omega)]
  unfold RQ
  dsimp only
  rw [ZL _ (by omega), if_pos (by omega)]
  congr 1
  omega
theorem YD (v : V8 Int) : [v.c0, v.c1, v.c2, v.c3, v.c4, v.c5, v.c6, v.c7] = tab 8 (fun j => v.get j) := rfl
theorem YE {α : Type} (n m : Nat) (f : Nat → α) : tab (n + m) f = tab n f ++ tab m (fun i => f (n + i)) := by
  apply List.ext_getElem?
  intro i
  by_cases c : i < n
  · rw [List.getElem?_append_left (by rw [aW]; exact c), qh (by omega), qh c]
  · rw [List.getElem?_append_right (by rw [aW]; omega), aW]
    by_cases c2 : i < n + m
    · rw [qh c2, qh (by omega)]; congr 2; omega
    · rw [List.getElem?_eq_none (by rw [aW]; omega), List.getElem?_eq_none (by rw [aW]; omega)]
theorem vH (F : Nat) {M : aO} {R c : Nat} {w : Nat → Int} (h : Mem M R w c) (hF : R < F) (hR : R ≤ 4096) : fM F M = some (tab (8 * R) w) := by
  have hl := h.len
  unfold fM
  rw [hl, dI (by omega) (by omega), dD (by omega), jn_, show List.replicate (0 : Int).toNat (0 : Int) = [] from rfl]
  have e : tab (8 * R) w = tab (8 * R) (wd M) := gU fun i hi => (h.wds i hi).symm
  rw [e]
  refine qP (fun n v l => lq F M _ n v l) R (fun v => tab (8 * v) (wd M)) _ (fun n v hv => ?_) (fun n => ?_) F 0 (by omega) (by omega)
  · conv => lhs; unfold lq
    rw [hl, dlt hv, ct, fV (by omega) (by rw [hl]; omega), dD (by rw [aW]; simp only [List.length_cons, List.length_nil]; omega), dI (by omega) (by omega), cs, show 8 * (v + 1) = 8 * v + 8 by omega, YE, YD]
    congr 2
    refine gU fun j hj => ?_
    unfold wd
    rw [show (8 * v + j) / 8 = v by omega, show (8 * v + j) % 8 = j by omega]
  · conv => lhs; unfold lq
    rw [hl, dge, cf]
theorem RS (F : Nat) {M : aO} {a b : Int} (h : M.gB = false) (h0 : 0 ≤ a) (h1 : a < b) : oU F M a b = some 0 := by
  unfold oU
  rw [h, cf, decide_eq_false (show ¬ (a < 0) by omega), decide_eq_false (show ¬ (b ≤ a) by omega)]
  rfl
theorem N8 (F : Nat) {M : aO} (h : M.dO = 0) (h0 : 0 ≤ M.dA) (h1 : M.dA ≤ 1000000000) : nU F M = some (⟨M.xl, M.gB, M.dA + 1, 0, M.dN⟩, true) := by
  unfold nU
  rw [jn_, h, show decide ((0 : Int) < 0) = false from rfl, cf]
  dsimp only
  rw [dI (by omega) (by omega)]
theorem Gu {α : Type} [Inhabited α] {l : List α} {i j : Int} {x : α} (hi : ix l i) (hj : 0 ≤ j) : nth (jl l i x) j = if j = i then x else nth l j := by
  by_cases c : j = i
  · subst c; rw [if_pos rfl, Qa hi]
  · rw [if_neg c]
    have : i.toNat ≠ j.toNat := by unfold ix at hi; omega
    simp [nth, jl, List.getD_eq_getElem?_getD, List.getElem?_set_ne this]
theorem WX (F : Nat) {M : aO} {R c : Nat} {w : Nat → Int} (h : Mem M R w c) (hR : R ≤ 4096) (hc : c ≤ 1000000000) {a : Nat} (ha : a < 8 * R) (v : Int) :
    ∃ M', qF F M (a : Int) v = some (M', 0) ∧ Mem M' R (fun i => if i = a then v else w i) (c + 1) := by
  have hl := h.len; have hf := h.fuse; have h0 := h.P8; have h1 := h.cnt; have hoff := h.off
  have hix : ix M.xl ((a / 8 : Nat) : Int) := ⟨by omega, by rw [hl]; omega⟩
  refine ⟨⟨jl M.xl ((a / 8 : Nat) : Int) ⟨(nth M.xl ((a / 8 : Nat) : Int)).jQ, (nth M.xl ((a / 8 : Nat) : Int)).xNew.put (a % 8) v, true, false⟩, M.gB, M.dA + 1, 0, M.dN⟩, ?_, ?_⟩
  · unfold qF
    rw [hl, dI (by omega) (by omega), RS F hoff (by omega) (by omega), ob, show ((0 : Int) != 0) = false from rfl, cf, N8 F hf h0 (by omega), ob, Bool.not_true, cf, Hg (by omega), Jv (by omega), wrap_small (by omega) (by omega), show ((a : Int) / 8) = ((a / 8 : Nat) : Int) by omega, dD hix]
    unfold sG EX
    rw [dD hix, ob, decide_eq_true (show (0 : Int) ≤ (a : Int) % 8 by omega), decide_eq_true (show (a : Int) % 8 < 8 by omega), show (!(true && true)) = false from rfl, cf, dD (by omega), ob, show ((a : Int) % 8).toNat = a % 8 by omega]
  · refine ⟨by dsimp only; rw [aG]; exact hl, fun i hi => ?_, hoff, rfl, by dsimp only; omega, by dsimp only; omega⟩
    unfold wd
    dsimp only
    rw [Gu hix (by omega)]
    by_cases c1 : ((i / 8 : Nat) : Int) = ((a / 8 : Nat) : Int)
    · rw [if_pos c1]
      dsimp only
      rw [get_put (by omega) (by omega)]
      by_cases c2 : i = a
      · subst c2; rw [if_pos rfl, if_pos rfl]
      · rw [if_neg (by omega), if_neg c2, ← h.wds i hi]
        unfold wd
        rw [c1]
    · rw [if_neg c1, if_neg (fun e => c1 (by rw [e])), ← h.wds i hi]
      rfl
theorem WY (F : Nat) {M : aO} {R c : Nat} {w : Nat → Int} (h : Mem M R w c) (hR : R ≤ 4096) (hc : c ≤ 1000000000) {r : Int} (h0r : 0 ≤ r) (hr : r < R) :
    ∃ M', qG F M r = some (M', 0) ∧ Mem M' R w (c + 1) := by
  have hl := h.len; have hf := h.fuse; have h0 := h.P8; have h1 := h.cnt; have hoff := h.off
  have hix : ix M.xl r := ⟨h0r, by rw [hl]; omega⟩
  refine ⟨⟨jl M.xl r ⟨(nth M.xl r).jQ, (nth M.xl r).xNew, (nth M.xl r).yA, ((nth M.xl r).rH || (nth M.xl r).yA)⟩, M.gB, M.dA + 1, 0, M.dN⟩, ?_, ?_⟩
  · unfold qG
    rw [hl, RS F hoff (by omega) (by omega), ob, show ((0 : Int) != 0) = false from rfl, cf, N8 F hf h0 (by omega), ob, Bool.not_true, cf, dD hix]
    unfold sH
    rw [dD hix, ob]
  · refine ⟨by dsimp only; rw [aG]; exact hl, fun i hi => ?_, hoff, rfl, by dsimp only; omega, by dsimp only; omega⟩
    rw [← h.wds i hi]
    unfold wd
    dsimp only
    rw [Gu hix (by omega)]
    by_cases c1 : ((i / 8 : Nat) : Int) = r
    · rw [if_pos c1, c1]
    · rw [if_neg c1]
theorem U6 (F : Nat) {M : aO} {R c : Nat} {w : Nat → Int} (h : Mem M R w c) {r : Nat} (hr : r < R) : ∃ M' b, qH F M (r : Int) = some (M', b) ∧ Mem M' R w c := by
  have hl := h.len
  have hix : ix M.xl (r : Int) := ⟨by omega, by rw [hl]; omega⟩
  unfold qH
  rw [dD hix]
  cases hs : (nth M.xl (r : Int)).rH
  · exact ⟨M, false, by rw [cf], h⟩
  · rw [ct]
    unfold qI
    rw [dD hix]
    cases ho : (nth M.xl (r : Int)).yA
    · exact ⟨M, false, by rw [Bool.not_false, ct, ob], h⟩
    · rw [Bool.not_true, cf, ob]
      refine ⟨_, true, rfl, by dsimp only; rw [aG]; exact hl, fun i hi => ?_, h.off, h.fuse, h.P8, h.cnt⟩
      rw [← h.wds i hi]
      unfold wd
      dsimp only
      rw [Gu hix (by omega)]
      by_cases c1 : ((i / 8 : Nat) : Int) = (r : Int)
      · rw [if_pos c1, c1]
      · rw [if_neg c1]
theorem WZ (F : Nat) (x : aO × Bool) {R : Nat} (hx : x.1.xl.length = R) (hR : R ≤ 4096) (w : Nat → Int) (c : Nat) (k : List bQ → Bool → Int → Int → List Int → Option (aO × Int)) (hk : ∀ M', Mem M' R w c → ∃ M'', k M'.xl M'.gB M'.dA M'.dO M'.dN = some (M'', 0) ∧ Mem M'' R w c) :
    ∀ (n v : Nat) (M : aO), v ≤ R → R - v < n → Mem M R w c → ∃ M'', lX F x k n (v : Int) M.xl M.gB M.dA M.dO M.dN = some (M'', 0) ∧ Mem M'' R w c := by
  intro n
  induction n with
  | zero => intro v M h1 h2; omega
  | succ n ih =>
    intro v M h1 h2 h
    unfold lX
    rw [hx]
    by_cases hv : v < R
    · obtain ⟨M', b, e, h'⟩ := U6 F h hv
      rw [dlt hv, ct, fV (by omega) (by rw [h.len]; omega), show (⟨M.xl, M.gB, M.dA, M.dO, M.dN⟩ : aO) = M from rfl, e, ob, dI (by omega) (by omega), cs]
      exact ih (v + 1) M' (by omega) (by omega) h'
    · rw [decide_eq_false (show ¬ ((v : Int) < ((R : Nat) : Int)) by omega), cf]
      exact hk M h
theorem W9 (F : Nat) {M : aO} {R c : Nat} {w : Nat → Int} (h : Mem M R w c) (hR : R ≤ 4096) (hF : R < F) (hc : c ≤ 1000000000) : ∃ M', qJ F M = some (M', 0) ∧ Mem M' R w (c + 1) := by
  have hl := h.len; have hf := h.fuse; have h0 := h.P8; have h1 := h.cnt; have hoff := h.off
  unfold qJ
  rw [RS F hoff (by omega) (by omega), ob, show ((0 : Int) != 0) = false from rfl, cf, N8 F hf h0 (by omega), ob, Bool.not_true, cf, jn_]
  have h' : Mem (⟨M.xl, M.gB, M.dA + 1, 0, M.dN⟩ : aO) R w (c + 1) := ⟨hl, h.wds, hoff, rfl, by dsimp only; omega, by dsimp only; omega⟩
  exact WZ F _ hl hR w (c + 1) _ (fun M' hM' => ⟨M', rfl, hM'⟩) F 0 _ (by omega) (by omega) h'
end Go.V.P
set_option linter.unusedVariables false
set_option linter.unusedSimpArgs false
namespace Go.V.P
open Go.V Go.Proofs
theorem U7 {x : Int} {l : List Int} (h : x ∈ Hl l) : x ∈ l := by
  unfold Hl Go.Lib.compact Go.Lib.compactUpTo at h
  obtain ⟨j, hj, rfl⟩ := List.mem_map.1 h
  have hj2 := List.mem_range.1 (List.mem_filter.1 hj).1
  simp [hj2]
theorem N9 (l : List Int) : (Hl l).length ≤ l.length := by
  unfold Hl Go.Lib.compact Go.Lib.compactUpTo
  rw [List.length_map]
  exact Nat.le_trans (List.length_filter_le _ _) (by simp)
theorem U8 {x : Int} {l : List Int} (h : x ∈ EY l) : x ∈ l := by
  unfold EY at h
  exact List.mem_mergeSort.1 h
def app (ws : List aA) (w : Nat → Int) : Nat → Int := match ws with
  | [] => w
  | x :: ws => app ws (fun i => if i = x.xAt.toNat then x.xV else w i)
theorem xG (a b : List aA) (w : Nat → Int) : app (a ++ b) w = app b (app a w) := by
  induction a generalizing w with
  | nil => rfl
  | cons x a ih => exact ih _
def RU (R : Nat) (ws : List aA) : Prop := ∀ x ∈ ws, 0 ≤ x.xAt ∧ x.xAt < 8 * R
theorem rows_ok (F : Nat) {R : Nat} {ws : List aA} (hR : R ≤ 4096) (h : RU R ws) (hl : ws.length ≤ 10000) (hF : ws.length < F) : ∃ l, tJ F ws = some l ∧ l.length ≤ ws.length ∧ ∀ x ∈ l, 0 ≤ x ∧ x < R := by
  have key : tJ F ws = some (Hl (EY (tab ws.length (fun i => (nth ws (i : Int)).xAt / 8)))) := by
    unfold tJ
    rw [jn_]
    refine qP (fun n v l => nV F ws _ n v l) ws.length (fun v => tab v (fun i => (nth ws (i : Int)).xAt / 8)) _ (fun n v hv => ?_) (fun n => ?_) F 0 (by omega) (by omega)
    · have hm : nth ws (v : Int) ∈ ws := by
        rw [nH ws hv]; exact List.getElem_mem hv
      obtain ⟨a1, a2⟩ := h _ hm
      conv => lhs; unfold nV
      rw [dlt hv, ct, jn_, fV (by omega) (by omega), decide_eq_true a1, ct, Hg a1, wrap_small (by omega) (by omega), dD (by rw [aW]; simp only [List.length_cons, List.length_nil]; omega)]
      dsimp only
      rw [dI (by omega) (by omega), cs, pF]
    · conv => lhs; unfold nV
      rw [dge, cf, dD (by rw [aW]; omega), dD (by rw [aH, aW]; omega)]
  refine ⟨_, key, ?_, fun x hx => ?_⟩
  · refine Nat.le_trans (N9 _) ?_
    rw [aH, aW]
    exact Nat.le_refl _
  · have := U8 (U7 hx)
    unfold tab at this
    obtain ⟨i, hi, rfl⟩ := List.mem_map.1 this
    have hi := List.mem_range.1 hi
    have hm : nth ws (i : Int) ∈ ws := by rw [nH ws hi]; exact List.getElem_mem hi
    obtain ⟨a1, a2⟩ := h _ hm
    omega
theorem YF (F : Nat) {R : Nat} {ws : List aA} (hR : R ≤ 4096) (hfit : RU R ws) (hl : ws.length ≤ 10000) (Q : aO → Prop) (k : List bQ → Bool → Int → Int → List Int → Option (aO × Int)) (w0 : Nat → Int) (c0 : Nat)
    (hk : ∀ M, Mem M R (app ws w0) (c0 + ws.length) → ∃ M', k M.xl M.gB M.dA M.dO M.dN = some (M', 0) ∧ Q M') (hc : c0 ≤ 100000000) :
    ∀ (n v : Nat) (M : aO), v ≤ ws.length → ws.length - v < n → Mem M R (app (ws.take v) w0) (c0 + v) → ∃ M', pI F ws k n (v : Int) M.xl M.gB M.dA M.dO M.dN = some (M', 0) ∧ Q M' := by
  intro n
  induction n with
  | zero => intro v M h1 h2; omega
  | succ n ih =>
    intro v M h1 h2 h
    unfold pI
    by_cases hv : v < ws.length
    · have hm : nth ws (v : Int) ∈ ws := by rw [nH ws hv]; exact List.getElem_mem hv
      obtain ⟨a1, a2⟩ := hfit _ hm
      obtain ⟨M', e, h'⟩ := WX F h hR (by omega) (a := (nth ws (v : Int)).xAt.toNat) (by omega) (nth ws (v : Int)).xV
      rw [show (((nth ws (v : Int)).xAt.toNat : Nat) : Int) = (nth ws (v : Int)).xAt by omega] at e
      rw [dlt hv, ct, fV (by omega) (by omega), show (⟨M.xl, M.gB, M.dA, M.dO, M.dN⟩ : aO) = M from rfl, e, ob, show ((0 : Int) != 0) = false from rfl, cf, dI (by omega) (by omega), cs]
      refine ih (v + 1) M' (by omega) (by omega) ?_
      have e2 : app (ws.take (v + 1)) w0 = fun i => if i = (nth ws (v : Int)).xAt.toNat then (nth ws (v : Int)).xV else app (ws.take v) w0 i := by
        rw [List.take_succ_eq_append_getElem hv, xG, nH ws hv]
        rfl
      rw [e2, show c0 + (v + 1) = c0 + v + 1 by omega]
      exact h'
    · have : v = ws.length := by omega
      subst this
      rw [dge, cf]
      rw [List.take_length] at h
      exact hk M h
theorem YG (F : Nat) {R : Nat} (hR : R ≤ 4096) {rows : List Int} (hr : ∀ x ∈ rows, 0 ≤ x ∧ x < R) (hl : rows.length ≤ 10000) (Q : aO → Prop) (k : List bQ → Bool → Int → Int → List Int → Option (aO × Int)) (w : Nat → Int) (c0 : Nat)
    (hk : ∀ M, Mem M R w (c0 + rows.length) → ∃ M', k M.xl M.gB M.dA M.dO M.dN = some (M', 0) ∧ Q M') (hc : c0 ≤ 100000000) :
    ∀ (n v : Nat) (M : aO), v ≤ rows.length → rows.length - v < n → Mem M R w (c0 + v) → ∃ M', pJ F k rows n (v : Int) M.xl M.gB M.dA M.dO M.dN = some (M', 0) ∧ Q M' := by
  intro n
  induction n with
  | zero => intro v M h1 h2; omega
  | succ n ih =>
    intro v M h1 h2 h
    unfold pJ
    by_cases hv : v < rows.length
    · have hm : nth rows (v : Int) ∈ rows := by rw [nH rows hv]; exact List.getElem_mem hv
      obtain ⟨a1, a2⟩ := hr _ hm
      obtain ⟨M', e, h'⟩ := WY F h hR (by omega) a1 a2
      rw [dlt hv, ct, fV (by omega) (by omega), show (⟨M.xl, M.gB, M.dA, M.dO, M.dN⟩ : aO) = M from rfl, e, ob, show ((0 : Int) != 0) = false from rfl, cf, dI (by omega) (by omega), cs]
      exact ih (v + 1) M' (by omega) (by omega) h'
    · have : v = rows.length := by omega
      subst this
      rw [dge, cf]
      exact hk M h
theorem YH (F : Nat) {M : aO} {R c : Nat} {w : Nat → Int} (h : Mem M R w c) (hR : R ≤ 4096) {ws : List aA} (hfit : RU R ws) (hl : ws.length ≤ 10000) (hF : ws.length < F) (hF2 : R < F) (hc : c ≤ 10000000) :
    ∃ M', vI F M ws = some (M', 0) ∧ Mem M' R (app ws w) (c + 2 * ws.length + 1) := by
  obtain ⟨rows, e, hlr, hr⟩ := rows_ok F hR hfit hl hF
  unfold vI
  rw [jn_]
  refine YF F hR hfit hl (fun M' => Mem M' R (app ws w) (c + 2 * ws.length + 1)) _ w c (fun M1 hM1 => ?_) (by omega) F 0 M (by omega) (by omega) (by simpa [app] using h)
  rw [jn_, e, ob]
  refine YG F hR hr (by omega) (fun M' => Mem M' R (app ws w) (c + 2 * ws.length + 1)) _ (app ws w) (c + ws.length) (fun M2 hM2 => ?_) (by omega) F 0 M1 (by omega) (by omega) (by simpa using hM1)
  obtain ⟨M3, e3, h3⟩ := W9 F hM2 hR hF2 (by omega)
  refine ⟨M3, ?_, ⟨h3.len, h3.wds, h3.off, h3.fuse, h3.P8, by have := h3.cnt; omega⟩⟩
  rw [show (⟨M2.xl, M2.gB, M2.dA, M2.dO, M2.dN⟩ : aO) = M2 from rfl, e3, ob]
end Go.V.P
set_option linter.unusedVariables false
set_option linter.unusedSimpArgs false
namespace Go.V.P
open Go.V Go.Proofs
variable {g : bg} {size : Int}
theorem Qb {ws : List aA} {w : Nat → Int} (h : ∀ x ∈ ws, w x.xAt.toNat = x.xV) : app ws w = w := by
  induction ws with
  | nil => rfl
  | cons x ws ih =>
    unfold app
    have : (fun i => if i = x.xAt.toNat then x.xV else w i) = w := by
      funext i
      by_cases c : i = x.xAt.toNat
      · rw [if_pos c, c]; exact (h x List.mem_cons_self).symm
      · rw [if_neg c]
    rw [this]
    exact ih fun y hy => h y (List.mem_cons_of_mem _ hy)
theorem Jq (a : Nat) (f : Nat → Int) (w : Nat → Int) (i : Nat) : ∀ n : Nat, app (tab n (fun j => (⟨((a + j : Nat) : Int), f j⟩ : aA))) w i = if a ≤ i ∧ i < a + n then f (i - a) else w i
  | 0 => by rw [WA, if_neg (by omega)]; rfl
  | n + 1 => by
    rw [pF, xG]
    show (if i = (((a + n : Nat) : Int)).toNat then f n else app (tab n (fun j => (⟨((a + j : Nat) : Int), f j⟩ : aA))) w i) = _
    rw [Jq a f w i n, Int.toNat_natCast]
    by_cases c : i = a + n
    · rw [if_pos c, if_pos (by omega)]; congr 1; omega
    · rw [if_neg c]
      by_cases c2 : a ≤ i ∧ i < a + n
      · rw [if_pos c2, if_pos (by omega)]
      · rw [if_neg c2, if_neg (by omega)]
noncomputable def blk (g : bg) (b : Int) (a : Nat) : List aA := tab 8 (fun j => ⟨((a + j : Nat) : Int), (sup ⟨g, b⟩).getD j 0⟩)
theorem EZ (F : Nat) (hF : 20 ≤ F) (hg : GG g) (s : aK) (hs : s.bH = g) (was : List bC) (b : Int) (first : Bool) (a : Nat) (ha : a ≤ 100000) : kW F ⟨s, was, b, first⟩ (a : Int) = some (blk g b a) := by
  unfold kW
  dsimp only
  rw [jn_, hs, y5 F (by omega) _ (mD F hg), ob]
  refine qP (fun n v l => mX F (a : Int) _ (sup ⟨g, b⟩) n v l) 8 (fun v => tab v (fun j => (⟨((a + j : Nat) : Int), (sup ⟨g, b⟩).getD j 0⟩ : aA))) _ (fun n v hv => ?_) (fun n => ?_) F 0 (by omega) (by omega)
  · conv => lhs; unfold mX
    rw [kH, dlt hv, ct, fV (by omega) (by rw [kH]; omega), dI (by omega) (by omega), dD (by rw [aW]; simp only [List.length_cons, List.length_nil]; omega), dI (by omega) (by omega), cs, pF, show ((a : Int) + (v : Int)) = ((a + v : Nat) : Int) by omega, nH _ (by rw [kH]; exact hv)]
    simp [List.getD_eq_getElem?_getD, show v < (sup ⟨g, b⟩).length by rw [kH]; exact hv]
  · conv => lhs; unfold mX
    rw [kH, dge, cf]
    rfl
theorem Xa (G : Nat) : lN (G + 10) D0 = some 0 := by kernel_rfl
def marks (t : Nat) : List aA := tab t (fun v => ⟨((16 + 1208 * v : Nat) : Int), 0⟩)
theorem Xb (F : Nat) (hF : 20 ≤ F) (hg : GG g) (b : Int) : oK F ⟨st0 g size, tab g.ak.toNat (fun _ => D0), b, true⟩ = some [marks g.ak.toNat, [⟨8, 0⟩], blk g b (C1 g), blk g b 0] := by
  have t1 := hg.t1; have t2 := hg.t2; have c8 := C8 hg
  unfold oK
  dsimp only
  rw [jn_]
  have AA : (st0 g size).bH = g := rfl
  obtain ⟨G, hG⟩ : ∃ G, F = G + 10 := ⟨F - 10, by omega⟩
  have hfirst : lN F D0 = some 0 := by rw [hG]; exact Xa G
  have key : ∀ k, iE F ⟨st0 g size, tab g.ak.toNat (fun _ => D0), b, true⟩ k F 0 [] [] = k (marks g.ak.toNat) [] := by
    intro k
    refine qP (fun n v l => iE F ⟨st0 g size, tab g.ak.toNat (fun _ => D0), b, true⟩ k n v l []) g.ak.toNat (fun v => tab v (fun v => (⟨((16 + 1208 * v : Nat) : Int), 0⟩ : aA))) _ (fun n v hv => ?_) (fun n => ?_) F 0 (by omega) (by omega)
    · conv => lhs; unfold iE
      dsimp only
      rw [aW, dlt hv, ct, fV (by omega) (by rw [aW]; omega), AA, qE F hg hv, ob, jn_, eX hv, show (D0.bY == 2) = false from rfl, cf]
      dsimp only
      rw [jn_, show (D0.bY == 1) = false from rfl, cf]
      dsimp only
      rw [YC, ob, hfirst, ob, dD (by rw [aW]; simp only [List.length_cons, List.length_nil]; omega), dI (by omega) (by omega), cs, pF]
    · conv => lhs; unfold iE
      dsimp only
      rw [aW, dge, cf]
      rfl
  have h1 : 1 = ([(⟨8, 0⟩ : aA)] : List aA).length := rfl
  have hb0 : kW F ⟨st0 g size, tab g.ak.toNat (fun _ => D0), b, true⟩ 0 = some (blk g b 0) := EZ F hF hg _ AA _ _ _ 0 (by omega)
  have hbC : kW F ⟨st0 g size, tab g.ak.toNat (fun _ => D0), b, true⟩ ((C1 g : Nat) : Int) = some (blk g b (C1 g)) := EZ F hF hg _ AA _ _ _ _ (by omega)
  rw [key, AA, EU F hg, ob, dD h1, dD h1, dD (by simp), ct, xC F hg, ob, hbC, ob, hb0, ob, dD (by simp)]
  rfl
def oZ (l : List (List aA)) (w : Nat → Int) : Nat → Int := match l with
  | [] => w
  | ws :: l => oZ l (app ws w)
theorem yH (a b : List (List aA)) (w : Nat → Int) : oZ (a ++ b) w = oZ b (oZ a w) := by
  induction a generalizing w with
  | nil => rfl
  | cons x a ih => exact ih _
theorem Un (F : Nat) {R : Nat} {l : List (List aA)} (hR : R ≤ 4096) (hF : R < F) (hF2 : 1000 ≤ F) (hfit : ∀ ws ∈ l, RU R ws ∧ ws.length ≤ 900) (hl : l.length ≤ 100) (Q : aO → eF → Prop) (k : List bQ → Bool → Int → Int → List Int → Option (aO × Option eF × Int)) (w0 : Nat → Int) (c0 : Nat)
    (hk : ∀ M, Mem M R (oZ l w0) (c0 + 2000 * l.length) → ∃ M' G, k M.xl M.gB M.dA M.dO M.dN = some (M', some G, 0) ∧ Q M' G) (hc : c0 ≤ 1000000) :
    ∀ (n v : Nat) (M : aO), v ≤ l.length → l.length - v < n → Mem M R (oZ (l.take v) w0) (c0 + 2000 * v) → ∃ M' G, pK F k l n (v : Int) M.xl M.gB M.dA M.dO M.dN = some (M', some G, 0) ∧ Q M' G := by
  intro n
  induction n with
  | zero => intro v M h1 h2; omega
  | succ n ih =>
    intro v M h1 h2 h
    unfold pK
    by_cases hv : v < l.length
    · have hm : nth l (v : Int) ∈ l := by rw [nH l hv]; exact List.getElem_mem hv
      obtain ⟨a1, a2⟩ := hfit _ hm
      obtain ⟨M', e, h'⟩ := YH F h hR a1 (by omega) (by omega) hF (by omega)
      rw [dlt hv, ct, fV (by omega) (by omega), show (⟨M.xl, M.gB, M.dA, M.dO, M.dN⟩ : aO) = M from rfl, e, ob, show ((0 : Int) != 0) = false from rfl, cf, dI (by omega) (by omega), cs]
      refine ih (v + 1) M' (by omega) (by omega) ?_
      have e2 : oZ (l.take (v + 1)) w0 = app (nth l (v : Int)) (oZ (l.take v) w0) := by
        rw [List.take_succ_eq_append_getElem hv, yH, nH l hv]
        rfl
      rw [e2]
      exact ⟨h'.len, h'.wds, h'.off, h'.fuse, h'.P8, by have := h'.cnt; omega⟩
    · have : v = l.length := by omega
      subst this
      rw [dge, cf]
      rw [List.take_length] at h
      exact hk M h
theorem Xc (hg : GG g) (b : Int) (i : Nat) : oZ [marks g.ak.toNat, [⟨8, 0⟩], blk g (b + 1) (C1 g), blk g (b + 1) 0] (wf g size b) i = if i < N1 g then wf g size (b + 1) i else wf g size b i := by
  have t1 := hg.t1; have t2 := hg.t2; have c8 := C8 hg
  have hA8 : 16 ≤ A1 g := by unfold A1; omega
  have hAB : A1 g ≤ B1 g := by unfold B1; omega
  have hBC : B1 g ≤ C1 g := by unfold C1; omega
  have hN : N1 g = C1 g + 8 := rfl
  have m1 : app (marks g.ak.toNat) (wf g size b) = wf g size b := Qb fun x hx => by
    unfold marks tab at hx
    obtain ⟨v, hv, rfl⟩ := List.mem_map.1 hx
    have hv := List.mem_range.1 hv
    have hA : 16 + 1208 * v + 1208 ≤ A1 g := by unfold A1; omega
    dsimp only
    rw [Int.toNat_natCast]
    unfold wf
    rw [if_neg (by omega), if_pos (by omega)]
  have m2 : app [⟨8, 0⟩] (wf g size b) = wf g size b := Qb fun x hx => by
    rw [List.mem_singleton] at hx
    subst hx
    show wf g size b 8 = 0
    unfold wf
    rw [if_neg (by omega), if_pos (by omega)]
  show app (blk g (b + 1) 0) (app (blk g (b + 1) (C1 g)) (app [⟨8, 0⟩] (app (marks g.ak.toNat) (wf g size b)))) i = _
  rw [m1, m2]
  unfold blk
  rw [Jq, Jq]
  by_cases c1 : i < 8
  · rw [if_pos (by omega), if_pos (by omega)]
    unfold wf
    rw [if_pos c1, Nat.sub_zero]
  · rw [if_neg (by omega)]
    by_cases c2 : C1 g ≤ i ∧ i < C1 g + 8
    · rw [if_pos c2, if_pos (by omega)]
      unfold wf
      rw [if_neg c1, if_neg (by omega), if_neg (by omega), if_neg (by omega)]
    · rw [if_neg c2]
      by_cases c3 : i < N1 g
      · rw [if_pos c3]
        unfold wf
        rw [if_neg c1, if_neg c1]
        by_cases c4 : i < A1 g
        · rw [if_pos c4, if_pos c4]
        · rw [if_neg c4, if_neg c4]
          by_cases c5 : i < B1 g
          · rw [if_pos c5, if_pos c5]
          · rw [if_neg c5, if_neg c5, if_pos (by omega), if_pos (by omega)]
      · rw [if_neg c3]
def Qc : vJ := ⟨0, D0, []⟩
theorem Xd (F : Nat) (hF : 5000 ≤ F) (hg : GG g) (hz1 : 1 ≤ size) (hz2 : size ≤ 4096) (b : Int) {M : aO} {c : Nat} {w : Nat → Int} (h : Mem M (N1 g / 8) w c) (hw : tab (N1 g) w = P1 g size b) :
    oV F M = some (some ⟨M, g, List.replicate g.ak.toNat Qc, [], false⟩, 0) := by
  have t1 := hg.t1; have t2 := hg.t2; have c8 := C8 hg
  have hN : N1 g = C1 g + 8 := rfl
  have hA8 : 16 ≤ A1 g := by unfold A1; omega
  have hl : (P1 g size b).length = N1 g := aW _ _
  have AA : (st0 g size).bH = g := rfl
  have rO : fM F M = some (P1 g size b) := by
    rw [vH F h (by omega) (by omega), show 8 * (N1 g / 8) = N1 g by omega, hw]
  have n8 : nth (P1 g size b) 8 = 0 := by
    unfold P1
    rw [show (8 : Int) = ((8 : Nat) : Int) from rfl, eX (by omega)]
    unfold wf
    rw [if_neg (by omega), if_pos (by omega)]
  unfold oV kT
  rw [h.off, ob, cf, rO, ob, Gt F (by omega) hg hz1 hz2, ob]
  dsimp only
  rw [show ((0 : Int) != 0) = false from rfl, fff, lzt, AA, EU F hg, ob, dD (fun _ => ⟨by decide, by rw [hl]; omega⟩), n8, show (false || ((0 : Int) != 0)) = false from rfl, cf, jn_]
  refine qB (fun n v => jY F (P1 g size b) (st0 g size, 0) _ n v) g.ak.toNat _ (fun n v hv => ?_) (fun n => ?_) F 0 (by omega) (by omega)
  · have hA : 16 + 1208 * v + 1208 ≤ A1 g := by unfold A1; omega
    have hAB : A1 g ≤ B1 g := by unfold B1; omega
    have hBC : B1 g ≤ C1 g := by unfold C1; omega
    conv => lhs; unfold jY
    dsimp only
    rw [AA, decide_eq_true (show (v : Int) < g.ak by omega), ct, qE F hg hv, ob, jn_, dI (by omega) (by omega), hl, dD (by omega), JD hg size b hv, NZ F hg, ob]
    dsimp only
    rw [show (((!true) || (D0.bY == 1)) || (D0.bY == 2)) = false from rfl, cf, dI (by omega) (by omega), cs]
  · conv => lhs; unfold jY
    dsimp only
    rw [AA, decide_eq_false (show ¬ (((g.ak.toNat : Nat) : Int) < g.ak) by omega), cf, dD (by omega)]
    rfl
theorem YI (F : Nat) (hF : 5000 ≤ F) (hg : GG g) (hz1 : 1 ≤ size) (hz2 : size ≤ 4096) {b : Int} (h0 : 0 ≤ b) (h1 : b < 4611686018427387904) {M : aO} {c : Nat} (hc : c ≤ 1000000) (h : Mem M (N1 g / 8) (wf g size b) c) :
    ∃ M' c' w', kN F M = some (M', some ⟨M', g, List.replicate g.ak.toNat Qc, [], false⟩, 0) ∧ Mem M' (N1 g / 8) w' c' ∧ tab (N1 g) w' = P1 g size (b + 1) := by
  have t1 := hg.t1; have t2 := hg.t2; have c8 := C8 hg
  have hN : N1 g = C1 g + 8 := rfl
  have hA8 : 16 ≤ A1 g := by unfold A1; omega
  have hAB : A1 g ≤ B1 g := by unfold B1; omega
  have hBC : B1 g ≤ C1 g := by unfold C1; omega
  have rO : fM F M = some (P1 g size b) := by
    rw [vH F h (by omega) (by omega), show 8 * (N1 g / 8) = N1 g by omega]; rfl
  have hw' : tab (N1 g) (oZ [marks g.ak.toNat, [⟨8, 0⟩], blk g (b + 1) (C1 g), blk g (b + 1) 0] (wf g size b)) = P1 g size (b + 1) := by
    unfold P1
    exact gU fun i hi => by rw [Xc hg b i, if_pos hi]
  have hfit : ∀ ws ∈ [marks g.ak.toNat, [⟨8, 0⟩], blk g (b + 1) (C1 g), blk g (b + 1) 0], RU (N1 g / 8) ws ∧ ws.length ≤ 900 := by
    intro ws hws
    simp only [List.mem_cons, List.not_mem_nil, or_false] at hws
    rcases hws with rfl | rfl | rfl | rfl
    · refine ⟨fun x hx => ?_, by unfold marks; rw [aW]; omega⟩
      unfold marks tab at hx
      obtain ⟨v, hv, rfl⟩ := List.mem_map.1 hx
      have hv := List.mem_range.1 hv
      have hA : 16 + 1208 * v + 1208 ≤ A1 g := by unfold A1; omega
      dsimp only
      omega
    · refine ⟨fun x hx => ?_, by simp⟩
      rw [List.mem_singleton] at hx
      subst hx
      dsimp only
      omega
    · refine ⟨fun x hx => ?_, by unfold blk; rw [aW]; omega⟩
      unfold blk tab at hx
      obtain ⟨v, hv, rfl⟩ := List.mem_map.1 hx
      have hv := List.mem_range.1 hv
      dsimp only
      omega
    · refine ⟨fun x hx => ?_, by unfold blk; rw [aW]; omega⟩
      unfold blk tab at hx
      obtain ⟨v, hv, rfl⟩ := List.mem_map.1 hx
      have hv := List.mem_range.1 hv
      dsimp only
      omega
  have key := Un F (R := N1 g / 8) (l := [marks g.ak.toNat, [⟨8, 0⟩], blk g (b + 1) (C1 g), blk g (b + 1) 0]) (by omega) (by omega) (by omega) hfit (by simp) (fun M' G => G = ⟨M', g, List.replicate g.ak.toNat Qc, [], false⟩ ∧ Mem M' (N1 g / 8) (oZ [marks g.ak.toNat, [⟨8, 0⟩], blk g (b + 1) (C1 g), blk g (b + 1) 0] (wf g size b)) (c + 8000))
    (fun v7 v8 v9 v10 v11 => (oV F (⟨v7, v8, v9, v10, v11⟩ : aO)).bind fun x13 => Bd (x13.1) (some ((⟨v7, v8, v9, v10, v11⟩ : aO), none, x13.2)) fun o14 => some ((⟨v7, v8, v9, v10, v11⟩ : aO), (some (⟨(⟨v7, v8, v9, v10, v11⟩ : aO), o14.lT, o14.xw, o14.jB, o14.nP⟩ : eF)), x13.2))
    (wf g size b) c (fun M1 hM1 => by
      have hgn := Xd F hF hg hz1 hz2 (b + 1) hM1 hw'
      refine ⟨M1, _, ?_, rfl, ⟨hM1.len, hM1.wds, hM1.off, hM1.fuse, hM1.P8, by have := hM1.cnt; simp at this; omega⟩⟩
      rw [show (⟨M1.xl, M1.gB, M1.dA, M1.dO, M1.dN⟩ : aO) = M1 from rfl, hgn, ob]
      rfl) hc F 0 M (by omega) (by simp; omega) (by simpa [oZ] using h)
  obtain ⟨M', G, e, rfl, hM'⟩ := key
  refine ⟨M', _, _, ?_, hM', hw'⟩
  unfold kN kT
  rw [h.off, ob, cf, rO, ob, Ul F (by omega) hg hz1 hz2 h0 h1, ob, Bool.not_true, cf, jn_, Xb F (by omega) hg, ob]
  rw [h.off] at e
  exact e
end Go.V.P
set_option linter.unusedVariables false
set_option linter.unusedSimpArgs false
namespace Go.V.P
open Go.V Go.Proofs
variable {g : bg} {size : Int}
theorem YJ (F : Nat) (hF : 10000 ≤ F) (hg : GG g) (hz1 : 1 ≤ size) (hz2 : size ≤ 4096) : vK F g size = some (some (N7 (N1 g / 8) (wf g size 0)), 0) := by
  have c8 := C8 hg
  have hN : N1 g = C1 g + 8 := rfl
  unfold vK
  rw [Nh F (by omega) hg hz1 hz2, ob, show ((0 : Int) != 0) = false from rfl, cf, U3 F (by omega) hg hz1 hz2, ob]
  have := P7 F (R := N1 g / 8) (wf g size 0) (by omega) (by omega) (by omega)
  rw [show 8 * (N1 g / 8) = N1 g by omega] at this
  unfold P1
  rw [this, ob]
  rfl
theorem Xe (F : Nat) (hF : 5000 ≤ F) (hg : GG g) (hz1 : 1 ≤ size) (hz2 : size ≤ 4096) {b : Int} {M : aO} {c : Nat} {w : Nat → Int} (h : Mem M (N1 g / 8) w c) (hw : tab (N1 g) w = P1 g size b) :
    oL F ⟨M, g, List.replicate g.ak.toNat Qc, [], false⟩ = some (st0 g size, 0) := by
  have t1 := hg.t1; have t2 := hg.t2; have c8 := C8 hg
  have hN : N1 g = C1 g + 8 := rfl
  have hA8 : 16 ≤ A1 g := by unfold A1; omega
  have hl : (P1 g size b).length = N1 g := aW _ _
  have rO : fM F M = some (P1 g size b) := by
    rw [vH F h (by omega) (by omega), show 8 * (N1 g / 8) = N1 g by omega, hw]
  unfold oL sJ kT
  dsimp only
  rw [h.off, ob, show (false || false) = false from rfl, cf, List.length_replicate, decide_eq_false (show ¬ ((0 : Int) < 0) by omega), decide_eq_false (show ¬ (((g.ak.toNat : Nat) : Int) ≤ 0) by omega), show (false || false) = false from rfl, cf, ob, show ((0 : Int) != 0) = false from rfl, cf, rO, ob, jn_]
  refine qB (fun n v => jV F ⟨M, g, List.replicate g.ak.toNat Qc, [], false⟩ _ n (P1 g size b) v) g.ak.toNat _ (fun n v hv => ?_) (fun n => ?_) F 0 (by omega) (by omega)
  · have hA : 16 + 1208 * v + 1208 ≤ A1 g := by unfold A1; omega
    have hAB : A1 g ≤ B1 g := by unfold B1; omega
    have hBC : B1 g ≤ C1 g := by unfold C1; omega
    conv => lhs; unfold jV rC
    dsimp only
    rw [List.length_replicate, dlt hv, ct, jn_, qE F hg hv, ob, dI (by omega) (by omega), hl, dD (by omega), JD hg size b hv, NZ F hg, ob, ob]
    dsimp only
    rw [show (true && (D0.bY == 2)) = false from rfl, cf]
    rw [dI (by omega) (by omega), cs]
  · conv => lhs; unfold jV
    dsimp only
    rw [List.length_replicate, dge, cf, Gt F (by omega) hg hz1 hz2, ob]
def xH : bg := ⟨2, 32, 16⟩
theorem Xf : GG xH := ⟨by decide, by decide, by decide, by decide, by decide, by decide, by decide⟩
theorem Xg (F : Nat) (hF : 10000 ≤ F) (hF2 : F < 1000000) : nX F = some true := by
  have hg := Xf
  have hN : N1 xH = 2632 := by decide
  have hs : (st0 xH 64).au.length = 32 := aW _ _
  have ht : (st0 xH 64).ay.length = 16 := aW _ _
  obtain ⟨M', c', w', e, hM', hw'⟩ := YI F (by omega) hg (size := 64) (by decide) (by decide) (b := 0) (by decide) (by decide) (c := 0) (by decide) (P9 (wf xH 64 0))
  have rO : fM F M' = some (P1 xH 64 (0 + 1)) := by
    rw [vH F hM' (by rw [hN]; omega) (by rw [hN]; omega), show 8 * (N1 xH / 8) = N1 xH by rw [hN], hw']
  have hl : (P1 xH 64 (0 + 1)).length = 2632 := (aW _ _).trans hN
  have n4 : nth (P1 xH 64 (0 + 1)) 4 = 1 := by
    unfold P1
    rw [show (4 : Int) = ((4 : Nat) : Int) from rfl, eX (by rw [hN]; omega)]
    rfl
  unfold nX
  rw [show vM F = some xH from rfl, ob, YJ F hF hg (by decide) (by decide), ob]
  unfold Bd
  dsimp only
  rw [show (((0 : Int) != 0) || false) = false from rfl, cf, e, ob]
  dsimp only
  rw [show (((0 : Int) != 0) || false) = false from rfl, cf, Xe F (by omega) hg (by decide) (by decide) hM' hw', ob, ob, Nh F (by omega) hg (by decide) (by decide), ob, rO, ob]
  dsimp only
  rw [show ((0 : Int) == 0) = true from rfl, ttt, lzt, U1 F _ (by rw [hs]; omega) (by rw [ht]; omega) hF2, ob, hl, show decide ((8 : Int) < ((2632 : Nat) : Int)) = true from rfl, show ((true && true) && true) = true from rfl, dD (fun _ => ⟨by decide, by rw [hl]; decide⟩), n4, show ((1 : Int) == 1) = true from rfl, show (true && true) = true from rfl, ttt, lzt, WW F (by omega) hg (by decide) (by decide) (by decide) (by decide), ob]
  rfl
end Go.V.P
set_option linter.unusedVariables false
set_option linter.unusedSimpArgs false
namespace Go.V.P
open Go.V Go.Proofs
def Tot {α : Type} (o : Option α) (Q : α → Prop) : Prop := ∃ r, o = some r ∧ Q r
section
variable {α β : Type} {Q : β → Prop} {P : α → Prop}
theorem dB {x : β} (h : Q x) : Tot (some x) Q := ⟨x, rfl, h⟩
theorem T_eq {a : Option β} {x : β} (e : a = some x) (h : Q x) : Tot a Q := ⟨x, e, h⟩
theorem jm {a : Option α} {f : α → Option β} (h : Tot a P) (h2 : ∀ r, P r → Tot (f r) Q) : Tot (a.bind f) Q := by
  obtain ⟨r, rfl, hr⟩ := h
  rw [ob]; exact h2 r hr
theorem jr {a : Option α} {x : α} {f : α → Option β} (e : a = some x) (h2 : Tot (f x) Q) : Tot (a.bind f) Q := by rw [e, ob]; exact h2
theorem dG {c : Prop} [Decidable c] {x : Option β} (hc : c) (h : Tot x Q) : Tot (gd c x) Q := by rw [dD hc]; exact h
theorem iq {b : Bool} {x y : Option β} (h1 : b = true → Tot x Q) (h2 : b = false → Tot y Q) : Tot (bif b then x else y) Q := by
  cases b
  · rw [cf]; exact h2 rfl
  · rw [ct]; exact h1 rfl
theorem lC {κ : Type} {k : κ} {f : κ → Option β} (h : Tot (f k) Q) : Tot (jn k f) Q := by rw [jn_]; exact h
theorem sS [Inhabited α] {b : Bool} {x : Option α} {f : α → Option β} (h : b = true → Tot x P) (h2 : ∀ r, (b = true → P r) → Tot (f r) Q) : Tot ((lz b x).bind f) Q := by
  cases b
  · rw [lzf, ob]; exact h2 _ (fun h => by cases h)
  · rw [lzt]; exact jm (h rfl) fun r hr => h2 r fun _ => hr
theorem wo (L : Nat → Int → Option β) (len : Nat) (I : Nat → Prop) (hstep : ∀ n (v : Nat), v < len → I v → (I (v + 1) → Tot (L n ((v + 1 : Nat) : Int)) Q) → Tot (L (n + 1) v) Q) (hend : ∀ n, I len → Tot (L (n + 1) len) Q) : ∀ (n v : Nat), v ≤ len → len - v < n → I v → Tot (L n v) Q := by
  intro n
  induction n with
  | zero => intro v h1 h2; omega
  | succ n ih =>
    intro v h1 h2 hI
    by_cases hv : v < len
    · exact hstep n v hv hI fun h => ih (v + 1) (by omega) (by omega) h
    · have : v = len := by omega
      subst this
      exact hend n hI
theorem lD {σ : Type} (L : Nat → Int → σ → Option β) (len : Nat) (I : Nat → σ → Prop) (hstep : ∀ n (v : Nat) s, v < len → I v s → (∀ s', I (v + 1) s' → Tot (L n ((v + 1 : Nat) : Int) s') Q) → Tot (L (n + 1) v s) Q) (hend : ∀ n s, I len s → Tot (L (n + 1) len s) Q) : ∀ (n v : Nat) (s : σ), v ≤ len → len - v < n → I v s → Tot (L n v s) Q := by
  intro n
  induction n with
  | zero => intro v s h1 h2; omega
  | succ n ih =>
    intro v s h1 h2 hI
    by_cases hv : v < len
    · exact hstep n v s hv hI fun s' h => ih (v + 1) s' (by omega) (by omega) h
    · have : v = len := by omega
      subst this
      exact hend n s hI
end
def JE (c : eG) : Bool := (c.xType == 0) && ((c.iO == 0) && ((c.kL == 0) && ((c.gX == 0) && true)))
theorem vN (F : Nat) (c : eG) : jI F c = some (JE c) := rfl
theorem JF (F : Nat) (c : eG) : Tot (oN F c) fun _ => True := by
  unfold oN
  refine jr (vN F c) (iq (fun _ => dB trivial) fun _ => ?_)
  refine jr rfl (sS (P := fun _ => True) (fun _ => T_eq rfl trivial) fun _ _ => sS (P := fun _ => True) (fun _ => T_eq rfl trivial) fun _ _ => sS (P := fun _ => True) (fun _ => T_eq rfl trivial) fun _ _ => sS (P := fun _ => True) (fun _ => T_eq rfl trivial) fun _ _ => dB trivial)
def JG (s : aK) (a : Int) : Bool := (decide (0 ≤ a) && decide (a < ((s.ay.length : Nat) : Int))) && ((nth s.ay a).xType != 0)
theorem JH (F : Nat) (s : aK) (a : Int) : fP F s a = some (JG s a) := by
  unfold fP
  rw [dD (fun h => by simpa [ix] using h)]
  rfl
theorem CU {s : aK} {a : Int} (h : JG s a = true) : ix s.ay a := by
  unfold JG at h
  simp only [Bool.and_eq_true, decide_eq_true_eq] at h
  exact h.1
def YK (x : aY) : Prop := (JE x.iF = true → x.xUp = -1) ∧ (JE x.iF = false → -1 ≤ x.xUp)
theorem Xh (F : Nat) (s : aK) (hs : s.au.length ≤ 1000) (hF : s.au.length < F) : Tot (kZ F s) fun b => b = true → ∀ i : Nat, i < s.au.length → YK (nth s.au (i : Int)) := by
  unfold kZ
  refine lC ?_
  refine wo (fun n v => gu F s _ n v) s.au.length (fun v => ∀ i : Nat, i < v → YK (nth s.au (i : Int))) (fun n v hv hI hk => ?_) (fun n hI => ?_) F 0 (by omega) (by omega) (fun i h => by omega)
  · show Tot (gu F s _ (n + 1) v) _
    unfold gu
    rw [dlt hv, ct]
    refine dG ⟨by omega, by omega⟩ (jm (JF F _) fun b _ => iq (fun _ => dB (fun h => by cases h)) fun _ => lC ?_)
    refine jr (vN F _) ?_
    have rest : ∀ v39 : Bool, (v39 = false → YK (nth s.au (v : Int))) → Tot (bif v39 then some false else (jI F ((nth s.au v).iF)).bind fun x42 => (lz (((!x42) == true)) (fP F s ((nth s.au v).iF.iO))).bind fun x43 => gd (((!x42) == true) = true → (!x43) = false → ix s.ay ((nth s.au v).iF.iO)) ((bif ((!x42) && ((!x43) || ((nth s.ay ((nth s.au v).iF.iO)).xType != (nth s.au v).iF.xType))) then some false else gd (inI ((v : Int) + (1 : Int))) (gu F s (fun _ => some true) n ((v : Int) + (1 : Int))))))
        (fun b => b = true → ∀ i : Nat, i < s.au.length → YK (nth s.au (i : Int))) := by
      intro b hb
      refine iq (fun _ => dB (fun h => by cases h)) fun hbf => jr (vN F _) ?_
      refine sS (P := fun b => b = JG s _) (fun _ => T_eq (JH F s _) rfl) fun x43 hx => ?_
      refine dG (fun h1 h2 => CU (hx h1 ▸ by simpa using h2)) (iq (fun _ => dB (fun h => by cases h)) fun _ => dG ⟨by omega, by omega⟩ ?_)
      rw [cs]
      refine hk fun i hi => ?_
      by_cases h : i < v
      · exact hI i h
      · obtain rfl : i = v := by omega
        exact hb hbf
    refine iq (fun h => rest _ fun h2 => ?_) fun h => jr (vN F _) (rest _ fun h2 => ?_)
    · rw [h] at h2; cases h2
    · refine ⟨fun h3 => ?_, fun h3 => ?_⟩
      · rw [h3] at h; simpa using h
      · rw [h3] at h2; simp at h2; omega
  · show Tot (gu F s _ (n + 1) _) _
    unfold gu
    rw [dge, cf]
    exact dB fun _ => hI
end Go.V.P
set_option linter.unusedVariables false
set_option linter.unusedSimpArgs false
namespace Go.V.P
open Go.V Go.Proofs
def Bf (t : aJ) : Prop := t.xType = 2 → 1 ≤ t.jw ∧ t.jw ≤ 4 ∧ 0 ≤ t.jJ ∧ t.jJ ≤ 96
theorem Oa {n : Int} (h1 : 1 ≤ n) (h2 : n ≤ 4) : 2 ≤ o9 .i64 (1 : Int) n ∧ o9 .i64 (1 : Int) n ≤ 16 := by
  have : n = 1 ∨ n = 2 ∨ n = 3 ∨ n = 4 := by omega
  rcases this with rfl | rfl | rfl | rfl <;> decide
theorem JI (F : Nat) (a b c : Int) : nS F a b c = some (decide (b ≤ a) && decide (a ≤ c)) := rfl
theorem U9 (F : Nat) (t : aJ) : Tot (qU F t) fun _ => True := by
  unfold qU
  refine iq (fun _ => dB trivial) fun _ => iq (fun _ => dB trivial) fun _ => iq (fun _ => iq (fun _ => dB trivial) fun _ => dB trivial) fun _ => iq (fun _ => dB trivial) fun _ => iq (fun _ => dB trivial) fun _ => dB trivial
theorem DZ (F : Nat) (t : aJ) : Tot (jO F t) fun b => b = true → Bf t := by
  unfold jO
  refine jm (U9 F t) fun x _ => iq (fun _ => dB fun h => by cases h) fun _ => iq (fun h => ?_) fun _ => iq (fun h => ?_) fun h2 => iq (fun _ => ?_) fun _ => ?_
  · refine jr (JI ..) (sS (P := fun _ => True) (fun _ => T_eq (JI ..) trivial) fun _ _ => dB fun _ h2 => ?_)
    rw [beq_iff_eq] at h; omega
  · refine jr (JI ..) ?_
    by_cases hb : 1 ≤ t.jw ∧ t.jw ≤ 4
    · have hi := Oa hb.1 hb.2
      refine dG (fun _ => by omega) (dG (fun _ => ⟨by omega, by omega⟩) (sS (P := fun b => b = true → 0 ≤ t.jJ ∧ t.jJ ≤ 96) (fun _ => T_eq (JI ..) fun h => ?_) fun r hr => dB fun h3 _ => ?_))
      · simp only [Bool.and_eq_true, decide_eq_true_eq] at h; omega
      · simp only [Bool.and_eq_true, decide_eq_true_eq] at h3
        have := hr (by simp [hb.1, hb.2]) h3.2
        exact ⟨hb.1, hb.2, this.1, this.2⟩
    · have hf : (decide (1 ≤ t.jw) && decide (t.jw ≤ 4)) = false := by
        cases hc : (decide (1 ≤ t.jw) && decide (t.jw ≤ 4)) with
        | false => rfl
        | true => exact absurd (by simpa using hc) hb
      rw [hf]
      exact dG (fun h => by cases h) (dG (fun h => by cases h) (sS (P := fun _ => True) (fun h => by cases h) fun r _ => dB fun h => by cases h))
  · refine jr (JI ..) (sS (P := fun _ => True) (fun _ => T_eq (JI ..) trivial) fun _ _ => dB fun _ h3 => ?_)
    rw [h3] at h2; cases h2
  · refine dB fun _ h3 => ?_
    rw [h3] at h2; cases h2
def Gv (s : aK) : Prop := GG s.bH ∧ s.au.length = s.bH.au.toNat ∧ s.ay.length = s.bH.ay.toNat
theorem Gv.s {s : aK} (h : Gv s) : s.au.length ≤ 96 ∧ s.ay.length ≤ 48 := by
  obtain ⟨⟨h1, h2, h3, h4, h5, h6, h7⟩, h8, h9⟩ := h
  omega
theorem RX (F : Nat) (hF : 100 ≤ F) (s : aK) (hs : Gv s) : Tot (jS F s) fun b => b = true → ∀ i : Nat, i < s.ay.length → Bf (nth s.ay (i : Int)) := by
  obtain ⟨hs1, hs2⟩ := hs.s
  have hg := hs.1
  have t1 := hg.t1; have t2 := hg.t2
  unfold jS
  refine lC ?_
  refine wo (fun n v => fK F s _ n v) s.ay.length (fun v => ∀ i : Nat, i < v → Bf (nth s.ay (i : Int))) (fun n v hv hI hk => ?_) (fun n hI => ?_) F 0 (by omega) (by omega) (fun i h => by omega)
  · show Tot (fK F s _ (n + 1) v) _
    unfold fK
    rw [dlt hv, ct]
    refine dG ⟨by omega, by omega⟩ (jm (DZ F _) fun b hb => iq (fun _ => dB (fun h => by cases h)) fun hb1 => ?_)
    have abk : Bf (nth s.ay (v : Int)) := hb (by simpa using hb1)
    refine dG (fun h1 h2 => ?_) (dG (fun h1 h2 => ?_) (sS (P := fun _ => True) (fun _ => T_eq (vN F _) trivial) fun x41 _ => iq (fun _ => dB (fun h => by cases h)) fun _ => dG (fun h => ⟨by omega, by omega⟩) (dG (fun h => ⟨by omega, by omega⟩) (sS (P := fun _ => True) (fun h => ?_) fun x45 _ => iq (fun _ => dB (fun h => by cases h)) fun _ => sS (P := fun _ => True) (fun h => T_eq (Jw F (by omega) s (by omega) _) trivial) fun x47 _ => iq (fun _ => dB (fun h => by cases h)) fun _ => dG ⟨by omega, by omega⟩ ?_))))
    · simp only [beq_iff_eq, decide_eq_true_eq, decide_eq_false_iff_not] at h1 h2
      exact ⟨by omega, by omega⟩
    · simp only [beq_iff_eq, decide_eq_true_eq, decide_eq_false_iff_not] at h1 h2
      exact ⟨by omega, by omega⟩
    · simp only [Bool.and_eq_true, beq_iff_eq, decide_eq_true_eq] at h
      exact T_eq (ES F hg (by omega) (by omega)) trivial
    · rw [cs]
      refine hk fun i hi => ?_
      by_cases h : i < v
      · exact hI i h
      · obtain rfl : i = v := by omega
        exact abk
  · show Tot (fK F s _ (n + 1) _) _
    unfold fK
    rw [dge, cf]
    exact dB fun _ => hI
theorem Va (F : Nat) (hF : 100 ≤ F) (s : aK) (hs : Gv s) (ht : ∀ i : Nat, i < s.ay.length → Bf (nth s.ay (i : Int))) : Tot (kJ F s) fun _ => True := by
  obtain ⟨hs1, hs2⟩ := hs.s
  unfold kJ
  refine dG ⟨by omega, by omega, by omega, by omega⟩ (lC ?_)
  refine lD (fun n v l => fJ F s _ n v l) s.ay.length (fun v l => l.length = s.au.length) (fun n v l hv hI hk => ?_) (fun n l hI => ?_) F 0 _ (by omega) (by omega) (by simp)
  · show Tot (fJ F s _ (n + 1) v l) _
    unfold fJ
    rw [dlt hv, ct]
    refine lC (dG ⟨by omega, by omega⟩ (iq (fun _ => dG ⟨by omega, by omega⟩ (by rw [cs]; exact hk l hI)) fun hne => ?_))
    have h2 : (nth s.ay (v : Int)).xType = 2 := by simpa using hne
    obtain ⟨b1, b2, b3, b4⟩ := ht v hv h2
    have hi := Oa b1 b2
    refine dG (by omega) ?_
    refine lD (fun n w l => fH F s v _ n w l) (o9 .i64 (1 : Int) (nth s.ay (v : Int)).jw).toNat (fun w l => l.length = s.au.length) (fun n w l hw hI hk2 => ?_) (fun n l hI => ?_) F 0 _ (by omega) (by omega) hI
    · show Tot (fH F s v _ (n + 1) w l) _
      unfold fH
      rw [decide_eq_true (by omega : (w : Int) < o9 .i64 (1 : Int) (nth s.ay (v : Int)).jw), ct]
      refine dG ⟨by omega, by omega⟩ (dG (fun h => ?_) (iq (fun _ => dB trivial) fun h => dG ?_ (dG ⟨by omega, by omega⟩ ?_)))
      · simp only [decide_eq_false_iff_not] at h
        exact ⟨by omega, by omega⟩
      · simp only [Bool.or_eq_false_iff, decide_eq_false_iff_not] at h
        exact ⟨by omega, by omega⟩
      · rw [cs]
        exact hk2 _ (by rw [aG]; exact hI)
    · show Tot (fH F s v _ (n + 1) _ l) _
      unfold fH
      rw [decide_eq_false (by omega : ¬ (((o9 .i64 (1 : Int) (nth s.ay (v : Int)).jw).toNat : Nat) : Int) < o9 .i64 (1 : Int) (nth s.ay (v : Int)).jw), cf]
      exact dG ⟨by omega, by omega⟩ (by rw [cs]; exact hk l hI)
  · show Tot (fJ F s _ (n + 1) _ l) _
    unfold fJ
    rw [dge, cf]
    refine lC ?_
    refine wo (fun n v => gG F s l _ n v) s.au.length (fun _ => True) (fun n v hv _ hk => ?_) (fun n _ => ?_) F 0 (by omega) (by omega) trivial
    · show Tot (gG F s l _ (n + 1) v) _
      unfold gG
      rw [dlt hv, ct]
      refine dG ⟨by omega, by omega⟩ (dG ⟨by omega, by omega⟩ (sS (P := fun _ => True) (fun _ => T_eq (vN F _) trivial) fun x23 _ => iq (fun _ => dB trivial) fun _ => dG ⟨by omega, by omega⟩ (by rw [cs]; exact hk trivial)))
    · show Tot (gG F s l _ (n + 1) _) _
      unfold gG
      rw [dge, cf]
      exact dB trivial
end Go.V.P
set_option linter.unusedVariables false
set_option linter.unusedSimpArgs false
namespace Go.V.P
open Go.V Go.Proofs
def Ob (s : aK) : Prop := ∀ i : Nat, i < s.ay.length → Bf (nth s.ay (i : Int))
theorem Ob.at {s : aK} (h : Ob s) {a : Int} (ha : ix s.ay a) : Bf (nth s.ay a) := by
  have := h a.toNat (by have := ha.1; have := ha.2; omega)
  rwa [show ((a.toNat : Nat) : Int) = a by have := ha.1; omega] at this
theorem Uo (F : Nat) {t : aJ} (h : Bf t) (a : Int) : Tot (tK F t a) fun _ => True := by
  unfold tK
  refine dG (fun h1 => ?_) (dG (fun h1 => ?_) (dB trivial))
  · simp only [Bool.and_eq_true, beq_iff_eq] at h1
    have := h h1.1; omega
  · simp only [Bool.and_eq_true, beq_iff_eq] at h1
    obtain ⟨b1, b2, b3, b4⟩ := h h1.1
    have := Oa b1 b2
    exact ⟨by omega, by omega⟩
theorem Vb (F : Nat) (hF : 100 ≤ F) {s : aK} (hs : s.ay.length ≤ 48) (h : Ob s) (a : Int) : Tot (ng F s a) fun _ => True := by
  unfold ng kC
  refine jm (P := fun _ => True) (lC ?_) fun _ _ => dB trivial
  refine wo (fun n v => eY F s.ay _ _ n v) s.ay.length (fun _ => True) (fun n v hv _ hk => ?_) (fun n _ => ?_) F 0 (by omega) (by omega) trivial
  · show Tot (eY F s.ay _ _ (n + 1) v) _
    unfold eY
    rw [dlt hv, ct]
    refine dG ⟨by omega, by omega⟩ (jm (P := fun _ => True) ?_ fun x _ => iq (fun _ => dB trivial) fun _ => dG ⟨by omega, by omega⟩ (by rw [cs]; exact hk trivial))
    unfold lV
    exact jm (Uo F (h v hv) a) fun _ _ => dB trivial
  · show Tot (eY F s.ay _ _ (n + 1) _) _
    unfold eY
    rw [dge, cf]
    exact dB trivial
def left (L : Nat) (m : List Int) : Nat := ((List.range L).filter fun i : Nat => !m.contains (i : Int)).length
theorem left_le (L : Nat) (m : List Int) : left L m ≤ L := Nat.le_trans (List.length_filter_le _ _) (by simp)
theorem Vd (L : Nat) {m m' : List Int} (h : ∀ x, m.contains x = true → m'.contains x = true) : left L m' ≤ left L m := by
  unfold left
  generalize List.range L = l
  induction l with
  | nil => simp
  | cons a l ih =>
    simp only [List.filter_cons]
    cases h1 : m.contains (a : Int) with
    | true => rw [h _ h1]; simpa using ih
    | false =>
      cases h2 : m'.contains (a : Int) with
      | true => simp only [Bool.not_true, Bool.not_false, if_true, Bool.false_eq_true, if_false, List.length_cons]; omega
      | false => simp only [Bool.not_false, if_true, List.length_cons]; omega
theorem YL (L : Nat) {m : List Int} {a : Nat} (ha : a < L) (hm : m.contains (a : Int) = false) : left L (m ++ [(a : Int)]) < left L m := by
  unfold left
  have key : ∀ l : List Nat, a ∈ l → (l.filter fun i : Nat => !(m ++ [(a : Int)]).contains (i : Int)).length < (l.filter fun i : Nat => !m.contains (i : Int)).length ∧ True := by
    intro l
    induction l with
    | nil => intro h; cases h
    | cons b l ih =>
      intro h
      have hle : (l.filter fun i : Nat => !(m ++ [(a : Int)]).contains (i : Int)).length ≤ (l.filter fun i : Nat => !m.contains (i : Int)).length := by
        clear ih h
        induction l with
        | nil => simp
        | cons c l ih =>
          simp only [List.filter_cons]
          cases h1 : m.contains (c : Int) with
          | true => rw [show (m ++ [(a : Int)]).contains (c : Int) = true by simp only [List.contains_append, h1, Bool.true_or]]; simpa using ih
          | false =>
            cases h2 : (m ++ [(a : Int)]).contains (c : Int) with
            | true => simp only [Bool.not_true, Bool.not_false, if_true, Bool.false_eq_true, if_false, List.length_cons]; omega
            | false => simp only [Bool.not_false, if_true, List.length_cons]; omega
      refine ⟨?_, trivial⟩
      by_cases hab : a = b
      · subst hab
        simp only [List.filter_cons, hm]
        rw [show (m ++ [(a : Int)]).contains (a : Int) = true by simp]
        simp only [Bool.not_true, Bool.not_false, if_true, Bool.false_eq_true, if_false, List.length_cons]; omega
      · have hin : a ∈ l := by
          rcases List.mem_cons.1 h with h | h
          · exact absurd h hab
          · exact h
        have := (ih hin).1
        simp only [List.filter_cons]
        have hne : ((b : Int) == (a : Int)) = false := by rw [beq_eq_false_iff_ne]; omega
        rw [show (m ++ [(a : Int)]).contains (b : Int) = m.contains (b : Int) by simp only [List.contains_append, List.contains_cons, hne, List.contains_nil, Bool.or_false]]
        cases m.contains (b : Int) <;> simp only [Bool.not_true, Bool.not_false, if_true, Bool.false_eq_true, if_false, List.length_cons] <;> omega
  exact (key (List.range L) (by simpa using ha)).1
theorem RY (F : Nat) (hF : 200 ≤ F) {s : aK} (hs : s.au.length ≤ 100) (h : Ob s) : ∀ (D : Nat) (node : Int) (m : List Int), ix s.ay node → left s.ay.length m < D →
    Tot (lY F D s node m) fun r => ∀ x, m.contains x = true → r.contains x = true := by
  intro D
  induction D with
  | zero => intro node m _ h; omega
  | succ D ih =>
    intro node m hn hD
    unfold lY
    refine iq (fun _ => dB fun x hx => hx) fun hc => ?_
    have abl : ((node.toNat : Nat) : Int) = node := by have := hn.1; omega
    have hlt := YL s.ay.length (m := m) (a := node.toNat) (by have := hn.1; have := hn.2; omega) (by rw [abl]; exact hc)
    rw [abl] at hlt
    refine lD (fun n v l => jP F s node _ n v l) s.au.length (fun v l => (∀ x, (m ++ [node]).contains x = true → l.contains x = true)) (fun n v l hv hI hk => ?_) (fun n l hI => ?_) F 0 _ (by omega) (by omega) (fun x hx => hx)
    · show Tot (jP F s node _ (n + 1) v l) _
      unfold jP
      rw [dlt hv, ct]
      refine lC (dG ⟨by omega, by omega⟩ (dG (fun _ => hn) (sS (P := fun _ => True) (fun _ => Uo F (h.at hn) _) fun x33 _ => sS (P := fun b => b = JG s (nth s.au (v : Int)).iF.iO) (fun _ => T_eq (JH F s _) rfl) fun x34 hx34 => iq (fun hb => ?_) fun _ => ?_)))
      · simp only [Bool.and_eq_true] at hb
        have h34 := hx34 (by simp [hb.1.1, hb.1.2])
        rw [hb.2] at h34
        refine jm (ih _ l (CU h34.symm) (by have := Vd s.ay.length hI; omega)) fun r hr => dG ⟨by omega, by omega⟩ ?_
        rw [cs]
        exact hk r fun x hx => hr x (hI x hx)
      · refine dG ⟨by omega, by omega⟩ ?_
        rw [cs]
        exact hk l hI
    · show Tot (jP F s node _ (n + 1) _ l) _
      unfold jP
      rw [dge, cf]
      exact dB fun x hx => hI x (by rw [List.contains_append, hx, Bool.true_or])
theorem RZ (F : Nat) (hF : 200 ≤ F) {s : aK} (hs : s.au.length ≤ 100) (hs2 : s.ay.length ≤ 48) (h : Ob s) (a b : Int) : Tot (mG F s a b) fun _ => True := by
  unfold mG
  refine jr (JH F s a) (dG (fun h1 => CU (by simpa using h1)) (iq (fun _ => dB trivial) fun h2 => ?_))
  have hin : ix s.ay a := by
    simp only [Bool.or_eq_false_iff] at h2
    exact CU (by simpa using h2.1)
  unfold xI
  refine jm (RY F hF hs h F a [] hin (by have := left_le s.ay.length []; omega)) fun r _ => jm (Vb F (by omega) hs2 h b) fun _ _ => dB trivial
theorem Xj (F : Nat) (hF : 200 ≤ F) {s : aK} (hs : s.au.length ≤ 100) (hs2 : s.ay.length ≤ 48) (h : Ob s) : Tot (lg F s) fun _ => True := by
  unfold lg
  refine lC ?_
  refine wo (fun n v => gW F s _ n v) s.au.length (fun _ => True) (fun n v hv _ hk => ?_) (fun n _ => ?_) F 0 (by omega) (by omega) trivial
  · show Tot (gW F s _ (n + 1) v) _
    unfold gW
    rw [dlt hv, ct]
    exact dG ⟨by omega, by omega⟩ (sS (P := fun _ => True) (fun _ => RZ F hF hs hs2 h _ _) fun _ _ => iq (fun _ => dB trivial) fun _ => dG ⟨by omega, by omega⟩ (by rw [cs]; exact hk trivial))
  · show Tot (gW F s _ (n + 1) _) _
    unfold gW
    rw [dge, cf]
    exact dB trivial
end Go.V.P
set_option linter.unusedVariables false
set_option linter.unusedSimpArgs false
namespace Go.V.P
open Go.V Go.Proofs
def fU (s : aK) (i : Nat) : Int := bif JE (nth s.au (i : Int)).iF then -2 else (nth s.au (i : Int)).xUp
theorem Ve (F : Nat) (hF : 200 ≤ F) {s : aK} (hs : s.au.length ≤ 100) : mF F s = some ⟨tab s.au.length (fU s)⟩ := by
  have : Tot (mF F s) fun r => r = ⟨tab s.au.length (fU s)⟩ := by
    unfold mF
    refine lC ?_
    refine lD (fun n v l => iL F s _ n v l) s.au.length (fun v l => l = tab v (fU s)) (fun n v l hv hI hk => ?_) (fun n l hI => ?_) F 0 _ (by omega) (by omega) rfl
    · show Tot (iL F s _ (n + 1) v l) _
      unfold iL
      rw [dlt hv, ct]
      have hl : l.length = v := by rw [hI, aW]
      have rest : ∀ y : Int, y = fU s v → Tot (gd ((l.length + ([y] : List Int).length) * 8 ≤ 140737488355328) (gd (inI ((v : Int) + (1 : Int))) (iL F s (fun v1 => some ⟨v1⟩) n ((v : Int) + (1 : Int)) (l ++ ([y] : List Int))))) fun r => r = ⟨tab s.au.length (fU s)⟩ := by
        intro y hy
        refine dG (by simp only [List.length_cons, List.length_nil]; omega) (dG ⟨by omega, by omega⟩ ?_)
        rw [cs]
        exact hk _ (by rw [hI, hy, pF])
      refine dG ⟨by omega, by omega⟩ (lC (jr (vN F _) (iq (fun h => rest _ ?_) fun h => rest _ ?_)))
      · unfold fU; rw [h]; rfl
      · unfold fU; rw [h]; rfl
    · show Tot (iL F s _ (n + 1) _ l) _
      unfold iL
      rw [dge, cf]
      exact dB (by rw [hI])
  obtain ⟨r, h1, h2⟩ := this
  rw [h1, h2]
def isB (l : List Int) (a : Int) : Bool := (decide (0 ≤ a) && decide (a < ((l.length : Nat) : Int))) && (nth l a != (-2 : Int))
theorem Xk (F : Nat) (f : iR) (a : Int) : iP F f a = some (isB f.xUp a) := by
  unfold iP
  rw [dD (fun h => by simpa [ix] using h)]
  rfl
theorem Xl {l : List Int} {a : Int} (h : isB l a = true) : ix l a ∧ nth l a ≠ -2 := by
  unfold isB at h
  simp only [Bool.and_eq_true, decide_eq_true_eq, bne_iff_ne, ne_eq] at h
  exact h
theorem Si (F : Nat) (hF : 200 ≤ F) (f : iR) : Tot (oO F f) fun b => b = true → ∀ i : Nat, i < f.xUp.length → nth f.xUp (i : Int) = -2 ∨ nth f.xUp (i : Int) = -1 ∨ isB f.xUp (nth f.xUp (i : Int)) = true := by
  unfold oO
  refine iq (fun _ => dB fun h => by cases h) fun hlen => lC ?_
  have hl : f.xUp.length ≤ 96 := by simp only [decide_eq_false_iff_not] at hlen; omega
  refine wo (fun n v => jo F f _ n v) f.xUp.length (fun v => ∀ i : Nat, i < v → nth f.xUp (i : Int) = -2 ∨ nth f.xUp (i : Int) = -1 ∨ isB f.xUp (nth f.xUp (i : Int)) = true) (fun n v hv hI hk => ?_) (fun n hI => ?_) F 0 (by omega) (by omega) (fun i h => by omega)
  · show Tot (jo F f _ (n + 1) v) _
    unfold jo
    rw [dlt hv, ct]
    refine dG ⟨by omega, by omega⟩ (sS (P := fun b => b = isB f.xUp (nth f.xUp (v : Int))) (fun _ => T_eq (Xk F f _) rfl) fun x91 hx => iq (fun _ => dB fun h => by cases h) fun h2 => dG ⟨by omega, by omega⟩ ?_)
    rw [cs]
    refine hk fun i hi => ?_
    by_cases h : i < v
    · exact hI i h
    · obtain rfl : i = v := by omega
      by_cases h3 : nth f.xUp (i : Int) = -2
      · exact .inl h3
      · by_cases h4 : nth f.xUp (i : Int) = -1
        · exact .inr (.inl h4)
        · have h5 : ((nth f.xUp (i : Int) != -2) && (nth f.xUp (i : Int) != -1)) = true := by simp [h3, h4]
          have h6 := hx (by rw [h5]; rfl)
          rw [h5, Bool.true_and] at h2
          exact .inr (.inr (by rw [← h6]; simpa using h2))
  · show Tot (jo F f _ (n + 1) _) _
    unfold jo
    rw [dge, cf]
    refine lC ?_
    refine wo (fun n v => jq F f _ n v) f.xUp.length (fun _ => True) (fun n v hv _ hk => ?_) (fun n _ => ?_) F 0 (by omega) (by omega) trivial
    · show Tot (jq F f _ (n + 1) v) _
      unfold jq
      rw [dlt hv, ct]
      refine lC ?_
      refine lD (fun n d a => gy F f _ n d a) (f.xUp.length + 1) (fun _ _ => True) (fun n d a hd _ hk2 => ?_) (fun n a _ => ?_) F 0 _ (by omega) (by omega) trivial
      · show Tot (gy F f _ (n + 1) d a) _
        unfold gy
        refine jr (Xk F f a) (iq (fun h => iq (fun _ => dB fun h => by cases h) fun _ => dG ⟨by omega, by omega⟩ (dG (Xl h).1 (by rw [cs]; exact hk2 _ trivial))) fun _ => ?_)
        exact dG ⟨by omega, by omega⟩ (by rw [cs]; exact hk trivial)
      · show Tot (gy F f _ (n + 1) _ a) _
        unfold gy
        refine jr (Xk F f a) (iq (fun h => iq (fun _ => dB fun h => by cases h) fun hh => ?_) fun _ => ?_)
        · simp only [decide_eq_false_iff_not] at hh; omega
        · exact dG ⟨by omega, by omega⟩ (by rw [cs]; exact hk trivial)
    · show Tot (jq F f _ (n + 1) _) _
      unfold jq
      rw [dge, cf]
      exact dB fun _ => hI
theorem E5 (F : Nat) (a : Int) : Tot (uS F a) fun _ => True := by
  unfold uS
  exact jr rfl (iq (fun _ => dB trivial) fun _ => dB trivial)
theorem Oc (F : Nat) (a b : Int) : Tot (qV F a b) fun _ => True := by
  unfold qV wO
  exact jm (P := fun _ => True) (jm (E5 F _) fun _ _ => jm (E5 F _) fun _ _ => dB trivial) fun _ _ => dB trivial
theorem Xm (F : Nat) (a b : eG) : Tot (uP F a b) fun _ => True := by
  unfold uP
  exact jr (vN F a) (iq (fun _ => dB trivial) fun _ => sS (P := fun _ => True) (fun _ => Oc F _ _) fun _ _ => dB trivial)
def ZN (s : aK) (a : Int) : Prop := a < 0 ∨ (ix s.au a ∧ JE (nth s.au a).iF = false)
theorem Qd (F : Nat) (hF : 200 ≤ F) {s : aK} (hs : s.au.length ≤ 100) (h : ∀ i : Nat, i < s.au.length → ZN s (nth s.au (i : Int)).xUp) : Tot (jM F s) fun _ => True := by
  unfold jM
  refine lC ?_
  refine wo (fun n v => fB F s _ n v) s.au.length (fun _ => True) (fun n v hv _ hk => ?_) (fun n _ => ?_) F 0 (by omega) (by omega) trivial
  · show Tot (fB F s _ (n + 1) v) _
    unfold fB
    rw [dlt hv, ct]
    have hk' : Tot (gd (inI ((v : Int) + 1)) (fB F s (fun _ => some true) n ((v : Int) + 1))) fun _ => True := dG ⟨by omega, by omega⟩ (by rw [cs]; exact hk trivial)
    refine lC (dG ⟨by omega, by omega⟩ ?_)
    refine lD (fun n w a => eH F s v _ n a w) s.au.length (fun _ a => ZN s a) (fun n w a hw ha hk2 => ?_) (fun n a _ => ?_) F 0 _ (by omega) (by omega) (h v hv)
    · show Tot (eH F s v _ (n + 1) a w) _
      unfold eH
      rw [dlt hw, ct]
      refine iq (fun _ => hk') fun hneg => ?_
      have hix : ix s.au a := by
        rcases ha with ha | ha
        · simp only [decide_eq_false_iff_not] at hneg; omega
        · exact ha.1
      refine dG hix (jm (Xm F _ _) fun x83 _ => iq (fun _ => dB trivial) fun _ => dG ⟨by omega, by omega⟩ ?_)
      rw [cs]
      have := h a.toNat (by have := hix.1; have := hix.2; omega)
      rw [show ((a.toNat : Nat) : Int) = a by have := hix.1; omega] at this
      exact hk2 _ this
    · show Tot (eH F s v _ (n + 1) a _) _
      unfold eH
      rw [dge, cf]
      exact hk'
  · show Tot (fB F s _ (n + 1) _) _
    unfold fB
    rw [dge, cf]
    exact dB trivial
theorem Bg (F : Nat) (hF : 200 ≤ F) (s : aK) : Tot (oI F s) fun b => b = true → Gv s ∧ Ob s ∧ ∀ i : Nat, i < s.au.length → -1 ≤ (nth s.au (i : Int)).xUp ∧ (nth s.au (i : Int)).xUp < 97 := by
  unfold oI
  by_cases hg : GG s.bH
  · refine jr (mD F hg) (iq (fun _ => dB fun h => by cases h) fun h => ?_)
    have hsz : Gv s := by
      have h1 := hg.t1; have h2 := hg.s1; have h3 := hg.h1
      simp only [Bool.not_true, Bool.false_or, Bool.or_eq_false_iff, bne_eq_false_iff_eq] at h
      exact ⟨hg, by omega, by omega⟩
    obtain ⟨hs1, hs2⟩ := hsz.s
    refine jm (Xh F s (by omega) (by omega)) fun x3 h3 => ?_
    refine sS (P := fun b => b = true → Ob s) (fun _ => RX F (by omega) s hsz) fun x4 h4 => ?_
    have ht : (x3 && x4) = true → Ob s := fun h => by
      simp only [Bool.and_eq_true] at h
      exact h4 (by rw [h.1]; rfl) h.2
    refine sS (P := fun _ => True) (fun h => Va F (by omega) s hsz (ht (by simpa using h))) fun x5 _ => ?_
    refine sS (P := fun _ => True) (fun h => Xj F hF (by omega) (by omega) (ht (by simp only [beq_iff_eq, Bool.and_eq_true] at h ⊢; exact h.1))) fun x6 _ => ?_
    refine sS (P := fun f => f = (⟨tab s.au.length (fU s)⟩ : iR)) (fun _ => T_eq (Ve F hF (by omega)) rfl) fun x7 h7 => ?_
    refine sS (P := fun b => b = true → ∀ i : Nat, i < x7.xUp.length → nth x7.xUp (i : Int) = -2 ∨ nth x7.xUp (i : Int) = -1 ∨ isB x7.xUp (nth x7.xUp (i : Int)) = true) (fun _ => Si F hF x7) fun x8 h8 => ?_
    have hat : (((((x3 && x4) && x5) && (!x6)) && x8) == true) = true → ∀ i : Nat, i < s.au.length → ZN s (nth s.au (i : Int)).xUp ∧ -1 ≤ (nth s.au (i : Int)).xUp ∧ (nth s.au (i : Int)).xUp < 97 := by
      intro h i hi
      have hh : ((((x3 && x4) && x5) && (!x6)) == true) = true := by
        simp only [beq_iff_eq, Bool.and_eq_true] at h ⊢; exact h.1
      have h8' := h8 hh (by simp only [beq_iff_eq, Bool.and_eq_true] at h; exact h.2)
      have hup := h3 (by simp only [beq_iff_eq, Bool.and_eq_true] at hh; exact hh.1.1.1) i hi
      rw [h7 hh] at h8'
      simp only [aW] at h8'
      have := h8' i hi
      rw [eX hi] at this
      cases hn : JE (nth s.au (i : Int)).iF with
      | true =>
        have h1 := hup.1 hn
        exact ⟨.inl (by omega), by omega, by omega⟩
      | false =>
        have hge := hup.2 hn
        have hf : fU s i = (nth s.au (i : Int)).xUp := by unfold fU; rw [hn]; rfl
        rw [hf] at this
        rcases this with h | h | h
        · omega
        · exact ⟨.inl (by omega), by omega, by omega⟩
        · obtain ⟨a1, a2⟩ := Xl h
          have a1' : 0 ≤ (nth s.au (i : Int)).xUp ∧ (nth s.au (i : Int)).xUp < (s.au.length : Nat) := by
            have := a1.2; rw [aW] at this; exact ⟨a1.1, this⟩
          refine ⟨.inr ⟨a1', ?_⟩, by omega, by omega⟩
          rw [sF a1'.1 (by omega)] at a2
          cases hc : JE (nth s.au (nth s.au (i : Int)).xUp).iF with
          | false => rfl
          | true =>
            exfalso; apply a2
            unfold fU
            rw [show ((((nth s.au (i : Int)).xUp).toNat : Nat) : Int) = (nth s.au (i : Int)).xUp by omega, hc]; rfl
    refine sS (P := fun _ => True) (fun h => Qd F hF (by omega) fun i hi => (hat h i hi).1) fun x9 _ => dB fun h => ⟨hsz, ?_, ?_⟩
    · simp only [Bool.and_eq_true] at h
      exact ht (by simp [h.1.1.1.1.1, h.1.1.1.1.2])
    · simp only [Bool.and_eq_true] at h
      intro i hi
      exact (hat (by simp only [beq_iff_eq, Bool.and_eq_true]; exact h.1) i hi).2
  · refine jr (Jm F hg) (iq (fun _ => dB fun h => by cases h) fun h => ?_)
    cases h
end Go.V.P
set_option linter.unusedVariables false
set_option linter.unusedSimpArgs false
namespace Go.V.P
open Go.V Go.Proofs
theorem Sj {n : Nat} (h : n < 18446744073709551616) : IntKind.u64.wrap (n : Int) = n := by rw [IntKind.wrap_u64]; omega
theorem YM {n : Nat} (h : n < 18446744073709551616) : (BitVec.ofInt 64 (n : Int)).toNat = n := by
  rw [BitVec.toNat_ofInt]; omega
theorem ZO {a b : Nat} (ha : a < 18446744073709551616) (hb : b < 18446744073709551616) : uf .u64 (a : Int) (b : Int) = ((a &&& b : Nat) : Int) := by
  show IntKind.u64.wrap (((BitVec.ofInt 64 (a : Int) &&& BitVec.ofInt 64 (b : Int)).toNat : Nat) : Int) = _
  rw [BitVec.toNat_and, YM ha, YM hb]
  exact Sj (Nat.lt_of_le_of_lt Nat.and_le_left ha)
theorem Ur {a b : Nat} (ha : a < 18446744073709551616) (hb : b < 18446744073709551616) : ior .u64 (a : Int) (b : Int) = ((a ||| b : Nat) : Int) := by
  show IntKind.u64.wrap (((BitVec.ofInt 64 (a : Int) ||| BitVec.ofInt 64 (b : Int)).toNat : Nat) : Int) = _
  rw [BitVec.toNat_or, YM ha, YM hb]
  exact Sj (Nat.or_lt_two_pow (n := 64) ha hb)
theorem ZP {a n : Nat} (h : n ≤ 64) : kS .u64 (a : Int) (n : Int) = ((a / 2 ^ n : Nat) : Int) := by
  show Int.fdiv (a : Int) (2 ^ (min ((n : Int).toNat) 64)) = _
  rw [show min ((n : Int).toNat) 64 = n by omega, show ((2 : Int) ^ n) = ((2 ^ n : Nat) : Int) by simp, Int.fdiv_eq_ediv_of_nonneg _ (Int.natCast_nonneg _)]
  rfl
theorem Oe {a n : Nat} (h : n ≤ 64) (h2 : a * 2 ^ n < 18446744073709551616) : o9 .u64 (a : Int) (n : Int) = ((a * 2 ^ n : Nat) : Int) := by
  show IntKind.u64.wrap ((a : Int) * 2 ^ (min ((n : Int).toNat) 64)) = _
  rw [show min ((n : Int).toNat) 64 = n by omega, show ((a : Int) * (2 : Int) ^ n) = ((a * 2 ^ n : Nat) : Int) by simp]
  exact Sj h2
theorem field_n {w a l : Nat} (hw : w < 18446744073709551616) (h : a ≤ 64) (hm : (2 ^ l - 1) * 2 ^ a < 18446744073709551616) : kS .u64 (uf .u64 (w : Int) (((2 ^ l - 1) * 2 ^ a : Nat) : Int)) (a : Int) = ((w / 2 ^ a % 2 ^ l : Nat) : Int) := by
  rw [ZO hw hm, ZP h]
  congr 1
  rw [← Nat.shiftRight_eq_div_pow, Nat.shiftRight_and_distrib, ← Nat.shiftLeft_eq, Nat.shiftLeft_shiftRight, Nat.and_two_pow_sub_one_eq_mod, Nat.shiftRight_eq_div_pow]
theorem Sl {x y a : Nat} (h : x < 2 ^ a) : x ||| (y * 2 ^ a) = x + y * 2 ^ a := by
  rw [Nat.or_comm, ← Nat.shiftLeft_eq, ← Nat.shiftLeft_add_eq_or_of_lt h, Nat.shiftLeft_eq, Nat.add_comm]
noncomputable def mk (f : aU) : Int := o9 .u64 (IntKind.u64.wrap ((o9 .u64 (1 : Int) f.Gw) - (1 : Int))) f.fE
theorem Og (F : Nat) {f : aU} (h1 : 0 ≤ f.Gw) (h2 : 0 ≤ f.fE) : iD F f = some (mk f) := by
  unfold iD
  rw [dD h1, dD h2]; rfl
def Ho (fs : List aU) : Prop := ∀ i : Nat, i < fs.length → 0 ≤ (nth fs (i : Int)).fE ∧ 0 ≤ (nth fs (i : Int)).Gw
theorem zI (F : Nat) {fs : List aU} (hg : fQ F fs = some true) (hf : Ho fs) (hF : fs.length < F) (hl : fs.length ≤ 100) (w : Int) :
    nR F w fs = some (tab fs.length fun i => kS .u64 (uf .u64 w (mk (nth fs (i : Int)))) (nth fs (i : Int)).fE) := by
  have : Tot (nR F w fs) fun r => r = tab fs.length fun i => kS .u64 (uf .u64 w (mk (nth fs (i : Int)))) (nth fs (i : Int)).fE := by
    unfold nR
    refine jr hg (iq (fun h => by cases h) fun _ => dG ⟨by omega, by omega, by omega, by omega⟩ (lC ?_))
    refine lD (fun n v l => ku F w fs _ n v l) fs.length (fun v l => l = tab v fun i => kS .u64 (uf .u64 w (mk (nth fs (i : Int)))) (nth fs (i : Int)).fE) (fun n v l hv hI hk => ?_) (fun n l hI => ?_) F 0 _ (by omega) (by omega) rfl
    · show Tot (ku F w fs _ (n + 1) v l) _
      unfold ku
      rw [dlt hv, ct]
      have hlen : l.length = v := by rw [hI, aW]
      refine dG ⟨by omega, by omega⟩ (jr (Og F (hf v hv).2 (hf v hv).1) (dG (hf v hv).1 (dG (by simp only [List.length_cons, List.length_nil]; omega) (dG ⟨by omega, by omega⟩ ?_))))
      rw [cs]
      exact hk _ (by rw [hI, pF])
    · show Tot (ku F w fs _ (n + 1) _ l) _
      unfold ku
      rw [dge, cf]
      exact dB (by rw [hI])
  obtain ⟨r, h1, h2⟩ := this
  rw [h1, h2]
theorem Hq (F : Nat) {fs : List aU} (hg : fQ F fs = some true) (hf : Ho fs) (hF : fs.length < F) (hl : fs.length ≤ 100) (vs : List Int) : Tot (jK F fs vs) fun _ => True := by
  unfold jK
  refine jr hg (iq (fun _ => dB trivial) fun h => lC ?_)
  have hlen : vs.length = fs.length := by
    simp only [Bool.or_eq_false_iff, bne_eq_false_iff_eq] at h; omega
  refine lD (fun n v l => gY F fs vs _ n l v) fs.length (fun _ _ => True) (fun n v l hv _ hk => ?_) (fun n l _ => ?_) F 0 _ (by omega) (by omega) trivial
  · show Tot (gY F fs vs _ (n + 1) l v) _
    unfold gY
    rw [dlt hv, ct]
    refine dG ⟨by omega, by omega⟩ (dG ⟨by omega, by omega⟩ (jr (Og F (hf v hv).2 (hf v hv).1) (dG (hf v hv).1 (iq (fun _ => dB trivial) fun _ => dG ⟨by omega, by omega⟩ (dG (hf v hv).1 (dG ⟨by omega, by omega⟩ ?_))))))
    rw [cs]
    exact hk _ trivial
  · show Tot (gY F fs vs _ (n + 1) l _) _
    unfold gY
    rw [dge, cf]
    exact dB trivial
theorem Oh {fs : List aU} (h : fs.all (fun f => decide (0 ≤ f.fE) && decide (0 ≤ f.Gw)) = true) : Ho fs := by
  intro i hi
  rw [nH fs hi]
  have := List.all_eq_true.1 h _ (List.getElem_mem hi)
  simpa using this
def oF : List aU := [⟨0, 8⟩, ⟨8, 8⟩, ⟨16, 16⟩, ⟨32, 32⟩]
def cF : List aU := [⟨0, 8⟩, ⟨8, 8⟩, ⟨16, 16⟩, ⟨32, 16⟩]
def bF : List aU := [⟨0, 8⟩, ⟨8, 8⟩, ⟨16, 8⟩, ⟨24, 8⟩, ⟨32, 8⟩]
theorem Zh : Ho oF := Oh rfl
theorem Zi : Ho cF := Oh rfl
theorem Xn : Ho bF := Oh rfl
theorem Sm : Ho prs := Oh rfl
theorem Oi (G : Nat) : fQ (G + 6) oF = some true := by kernel_rfl
theorem Us (G : Nat) : fQ (G + 6) cF = some true := by kernel_rfl
theorem Oj (G : Nat) : fQ (G + 6) bF = some true := by kernel_rfl
theorem Xo (F : Nat) : uj F = some oF := rfl
theorem Xp (F : Nat) : rD F = some cF := rfl
theorem up6 {P : Nat → Prop} (h : ∀ G, P (G + 6)) {F : Nat} (hF : 6 ≤ F) : P F := by
  obtain ⟨G, rfl⟩ : ∃ G, F = G + 6 := ⟨F - 6, by omega⟩
  exact h G
theorem Xq {F : Nat} (hF : 6 ≤ F) : l9 F = some bF := up6 (P := fun F => l9 F = some bF) byt hF
theorem Xr (F : Nat) {fs : List aU} (hg : fQ F fs = some true) (w : Int) : Tot (xJ F w fs) fun _ => True := by
  unfold fQ at hg
  obtain ⟨x, hx, _⟩ := aN hg
  unfold xJ
  exact jr hx (dB trivial)
theorem Qe (F : Nat) (hF : 10 ≤ F) (w : Int) : Tot (ru F w) fun _ => True := by
  unfold ru
  have hg : fQ F cF = some true := up6 (P := fun F => fQ F cF = some true) Us (by omega)
  refine jr (Xp F) (jr (zI F hg Zi (by show 4 < F; omega) (by decide) w) ?_)
  have hl : (tab cF.length fun i => kS .u64 (uf .u64 w (mk (nth cF (i : Int)))) (nth cF (i : Int)).fE).length = 4 := aW _ _
  refine dG ⟨by omega, by omega⟩ (dG ⟨by omega, by omega⟩ (dG ⟨by omega, by omega⟩ (dG ⟨by omega, by omega⟩ (jr (Xp F) (jm (Xr F hg w) fun x8 _ => sS (P := fun _ => True) (fun _ => JF F _) fun x9 _ => iq (fun _ => dB trivial) fun _ => dB trivial)))))
theorem LP (F : Nat) (hF : 10 ≤ F) (t : aJ) : Tot (jG F t) fun r => r.length ≤ 8 := by
  unfold jG
  have hb : fQ F bF = some true := up6 (P := fun F => fQ F bF = some true) Oj (by omega)
  have hp : fQ F prs = some true := up6 (P := fun F => fQ F prs = some true) Ba (by omega)
  refine jm (DZ F t) fun b _ => iq (fun _ => dB (by simp)) fun _ => lC ?_
  have rest : ∀ x : Int, Tot (jn (fun (v5 : Int) => (jn (fun (v7 : Int) => (jn (fun (_ : Unit) => some ((([v5, v7, t.lH] : List Int) ++ ([t.dH.c0, t.dH.c1, t.dH.c2, t.dH.c3] : List Int)) ++ ([(0 : Int)] : List Int))) fun k9 => gd ((([v5, v7, t.lH] : List Int).length + ([t.dH.c0, t.dH.c1, t.dH.c2, t.dH.c3] : List Int).length) * 8 ≤ 140737488355328) (gd (((([v5, v7, t.lH] : List Int) ++ ([t.dH.c0, t.dH.c1, t.dH.c2, t.dH.c3] : List Int)).length + ([(0 : Int)] : List Int).length) * 8 ≤ 140737488355328) (k9 ())))) fun k8 => (oP F ).bind fun x12 => (jK F x12 ([(IntKind.u64.wrap t.mQ), (IntKind.u64.wrap t.nT), (IntKind.u64.wrap t.gX)] : List Int)).bind fun x13 => k8 x13.1)) fun k6 => (l9 F ).bind fun x14 => (jK F x14 ([(IntKind.u64.wrap t.xType), (IntKind.u64.wrap t.jw), (IntKind.u64.wrap t.jJ), x, (IntKind.u64.wrap t.fE)] : List Int)).bind fun x15 => k6 x15.1) fun r => r.length ≤ 8 := by
    intro x
    refine lC (jr (Xq (by omega)) (jm (Hq F hb Xn (by show 5 < F; omega) (by decide) _) fun x15 _ => lC (jr (Bc F) (jm (Hq F hp Sm (by show 3 < F; omega) (by decide) _) fun x13 _ => lC (dG (by simp only [List.length_append, List.length_cons, List.length_nil]; omega) (dG (by simp only [List.length_append, List.length_cons, List.length_nil]; omega) (dB (by simp))))))))
  exact iq (fun _ => rest 1) fun _ => rest 0
theorem Sr (F : Nat) (a b : List Int) (hF : a.length < F) (hl : a.length ≤ 1000000) : Tot (jC F a b) fun r => r = true → a = b := by
  unfold jC
  refine iq (fun _ => dB fun h => by cases h) fun hne => lC ?_
  have hlen : a.length = b.length := by simp only [bne_eq_false_iff_eq] at hne; omega
  refine wo (fun n v => fF F a b _ n v) a.length (fun v => ∀ i : Nat, i < v → nth a (i : Int) = nth b (i : Int)) (fun n v hv hI hk => ?_) (fun n hI => ?_) F 0 (by omega) (by omega) (fun i h => by omega)
  · show Tot (fF F a b _ (n + 1) v) _
    unfold fF
    rw [dlt hv, ct]
    refine dG ⟨by omega, by omega⟩ (dG ⟨by omega, by omega⟩ (iq (fun _ => dB fun h => by cases h) fun h => dG ⟨by omega, by omega⟩ ?_))
    rw [cs]
    refine hk fun i hi => ?_
    by_cases hiv : i < v
    · exact hI i hiv
    · obtain rfl : i = v := by omega
      simpa using h
  · show Tot (fF F a b _ (n + 1) _) _
    unfold fF
    rw [dge, cf]
    refine dB fun _ => List.ext_getElem hlen fun i h1 h2 => ?_
    have := hI i h1
    rw [nH a h1, nH b h2] at this
    exact this
theorem LQ (F : Nat) (hF : 20 ≤ F) (l : List Int) : Tot (kM F l) fun _ => True := by
  unfold kM
  have hb : fQ F bF = some true := up6 (P := fun F => fQ F bF = some true) Oj (by omega)
  have hp : fQ F prs = some true := up6 (P := fun F => fQ F prs = some true) Ba (by omega)
  refine iq (fun _ => dB trivial) fun hne => ?_
  have hlen : l.length = 8 := by simp only [bne_eq_false_iff_eq] at hne; omega
  refine dG ⟨by omega, by omega⟩ (jr (Xq (by omega)) (jr (zI F hb Xn (by show 5 < F; omega) (by decide) _) (dG ⟨by omega, by omega⟩ (jr (Bc F) (jr (zI F hp Sm (by show 3 < F; omega) (by decide) _) ?_)))))
  have h5 : ∀ w : Int, (tab bF.length fun i => kS .u64 (uf .u64 w (mk (nth bF (i : Int)))) (nth bF (i : Int)).fE).length = 5 := fun w => aW _ _
  have h3 : ∀ w : Int, (tab prs.length fun i => kS .u64 (uf .u64 w (mk (nth prs (i : Int)))) (nth prs (i : Int)).fE).length = 3 := fun w => aW _ _
  have hc : (cut l (3 : Int) ((l.length : Nat) : Int)).length = 5 := by
    unfold cut; simp [hlen]
  refine dG ⟨by omega, by rw [h5]; omega⟩ (dG ⟨by omega, by rw [h5]; omega⟩ (dG ⟨by omega, by rw [h5]; omega⟩ (dG ⟨by omega, by rw [h5]; omega⟩ (dG ⟨by omega, by rw [h5]; omega⟩ (dG ⟨by omega, by rw [h3]; omega⟩ (dG ⟨by omega, by rw [h3]; omega⟩ (dG ⟨by omega, by rw [h3]; omega⟩ (dG ⟨by omega, by omega⟩ (dG ⟨by omega, by omega, by omega⟩ (dG (by omega) ?_))))))))))
  exact jm (LP F (by omega) _) fun x19 h19 => jm (Sr F x19 l (by omega) (by omega)) fun x20 _ => iq (fun _ => dB trivial) fun _ => dB trivial
end Go.V.P
set_option linter.unusedVariables false
set_option linter.unusedSimpArgs false
namespace Go.V.P
open Go.V Go.Proofs
theorem acB (F : Nat) (hF : 10 ≤ F) {w : Nat} (hw : w < 18446744073709551616) : nR F (w : Int) oF = some [((w % 256 : Nat) : Int), ((w / 256 % 256 : Nat) : Int), ((w / 65536 % 65536 : Nat) : Int), ((w / 4294967296 : Nat) : Int)] := by
  have hg : fQ F oF = some true := up6 (P := fun F => fQ F oF = some true) Oi (by omega)
  rw [zI F hg Zh (by show 4 < F; omega) (by decide)]
  show some [kS .u64 (uf .u64 (w : Int) (mk ⟨0, 8⟩)) ((0 : Nat) : Int), kS .u64 (uf .u64 (w : Int) (mk ⟨8, 8⟩)) ((8 : Nat) : Int), kS .u64 (uf .u64 (w : Int) (mk ⟨16, 16⟩)) ((16 : Nat) : Int), kS .u64 (uf .u64 (w : Int) (mk ⟨32, 32⟩)) ((32 : Nat) : Int)] = _
  have m0 : mk ⟨0, 8⟩ = (((2 ^ 8 - 1) * 2 ^ 0 : Nat) : Int) := by kernel_rfl
  have m1 : mk ⟨8, 8⟩ = (((2 ^ 8 - 1) * 2 ^ 8 : Nat) : Int) := by kernel_rfl
  have m2 : mk ⟨16, 16⟩ = (((2 ^ 16 - 1) * 2 ^ 16 : Nat) : Int) := by kernel_rfl
  have m3 : mk ⟨32, 32⟩ = (((2 ^ 32 - 1) * 2 ^ 32 : Nat) : Int) := by kernel_rfl
  rw [m0, m1, m2, m3, field_n hw (by decide) (by decide), field_n hw (by decide) (by decide), field_n hw (by decide) (by decide), field_n hw (by decide) (by decide)]
  have e0 : w / 2 ^ 0 % 2 ^ 8 = w % 256 := by simp
  have e3 : w / 2 ^ 32 % 2 ^ 32 = w / 4294967296 := by omega
  rw [e0, e3]
theorem mkv (F : Nat) : iD F ⟨0, 8⟩ = some 255 ∧ iD F ⟨8, 8⟩ = some 65280 ∧ iD F ⟨16, 16⟩ = some 4294901760 ∧ iD F ⟨32, 32⟩ = some 18446744069414584320 := ⟨by kernel_rfl, by kernel_rfl, by kernel_rfl, by kernel_rfl⟩
theorem acC (G : Nat) {a b c d : Nat} (ha : a < 256) (hb : b < 256) (hc : c < 65536) (hd : d < 4294967296) : jK (G + 6) oF [(a : Int), (b : Int), (c : Int), (d : Int)] = some (((a + b * 256 + c * 65536 + d * 4294967296 : Nat) : Int), true) := by
  obtain ⟨k0, k1, k2, k3⟩ := mkv (G + 6)
  unfold jK
  rw [Oi, ob, show ((((oF.length : Nat) : Int)) != ((([(a : Int), (b : Int), (c : Int), (d : Int)] : List Int).length : Nat) : Int)) = false from rfl, show (!true || false) = false from rfl, cf, jn_]
  have e0 : ior .u64 0 (o9 .u64 (a : Int) 0) = ((a : Nat) : Int) := by
    rw [show o9 .u64 (a : Int) 0 = ((a * 2 ^ 0 : Nat) : Int) from Oe (a := a) (n := 0) (by decide) (by omega), show (0 : Int) = ((0 : Nat) : Int) from rfl, Ur (by omega) (by omega)]; simp
  have e1 : ior .u64 (a : Int) (o9 .u64 (b : Int) 8) = ((a + b * 256 : Nat) : Int) := by
    rw [show o9 .u64 (b : Int) 8 = ((b * 2 ^ 8 : Nat) : Int) from Oe (a := b) (n := 8) (by decide) (by omega), Ur (by omega) (by omega), Sl (by omega)]
  have e2 : ior .u64 ((a + b * 256 : Nat) : Int) (o9 .u64 (c : Int) 16) = ((a + b * 256 + c * 65536 : Nat) : Int) := by
    rw [show o9 .u64 (c : Int) 16 = ((c * 2 ^ 16 : Nat) : Int) from Oe (a := c) (n := 16) (by decide) (by omega), Ur (by omega) (by omega), Sl (by omega)]
  have e3 : ior .u64 ((a + b * 256 + c * 65536 : Nat) : Int) (o9 .u64 (d : Int) 32) = ((a + b * 256 + c * 65536 + d * 4294967296 : Nat) : Int) := by
    rw [show o9 .u64 (d : Int) 32 = ((d * 2 ^ 32 : Nat) : Int) from Oe (a := d) (n := 32) (by decide) (by omega), Ur (by omega) (by omega), Sl (by omega)]
  unfold gY
  rw [show decide ((0 : Int) < ((oF.length : Nat) : Int)) = true from rfl, ct, fV (by decide) (by decide), fV (by decide) (by show (0 : Int) < 4; decide), show nth oF 0 = ⟨0, 8⟩ from rfl, k0, ob, dD (by decide), show nth [(a : Int), (b : Int), (c : Int), (d : Int)] 0 = (a : Int) from rfl, show kS .u64 255 (⟨0, 8⟩ : aU).fE = 255 by kernel_rfl, decide_eq_false (show ¬ ((255 : Int) < (a : Int)) by omega), cf, fV (by decide) (by show (0 : Int) < 4; decide), dD (by decide), dI (by decide) (by decide), show (⟨0, 8⟩ : aU).fE = 0 from rfl, e0]
  unfold gY
  rw [show decide ((0 : Int) + 1 < ((oF.length : Nat) : Int)) = true from rfl, ct, fV (by decide) (by decide), fV (by decide) (by show (0 : Int) + 1 < 4; decide), show nth oF (0 + 1) = ⟨8, 8⟩ from rfl, k1, ob, dD (by decide), show nth [(a : Int), (b : Int), (c : Int), (d : Int)] (0 + 1) = (b : Int) from rfl, show kS .u64 65280 (⟨8, 8⟩ : aU).fE = 255 by kernel_rfl, decide_eq_false (show ¬ ((255 : Int) < (b : Int)) by omega), cf, fV (by decide) (by show (0 : Int) + 1 < 4; decide), dD (by decide), dI (by decide) (by decide), show (⟨8, 8⟩ : aU).fE = 8 from rfl, e1]
  unfold gY
  rw [show decide ((0 : Int) + 1 + 1 < ((oF.length : Nat) : Int)) = true from rfl, ct, fV (by decide) (by decide), fV (by decide) (by show (0 : Int) + 1 + 1 < 4; decide), show nth oF (0 + 1 + 1) = ⟨16, 16⟩ from rfl, k2, ob, dD (by decide), show nth [(a : Int), (b : Int), (c : Int), (d : Int)] (0 + 1 + 1) = (c : Int) from rfl, show kS .u64 4294901760 (⟨16, 16⟩ : aU).fE = 65535 by kernel_rfl, decide_eq_false (show ¬ ((65535 : Int) < (c : Int)) by omega), cf, fV (by decide) (by show (0 : Int) + 1 + 1 < 4; decide), dD (by decide), dI (by decide) (by decide), show (⟨16, 16⟩ : aU).fE = 16 from rfl, e2]
  unfold gY
  rw [show decide ((0 : Int) + 1 + 1 + 1 < ((oF.length : Nat) : Int)) = true from rfl, ct, fV (by decide) (by decide), fV (by decide) (by show (0 : Int) + 1 + 1 + 1 < 4; decide), show nth oF (0 + 1 + 1 + 1) = ⟨32, 32⟩ from rfl, k3, ob, dD (by decide), show nth [(a : Int), (b : Int), (c : Int), (d : Int)] (0 + 1 + 1 + 1) = (d : Int) from rfl, show kS .u64 18446744069414584320 (⟨32, 32⟩ : aU).fE = 4294967295 by kernel_rfl, decide_eq_false (show ¬ ((4294967295 : Int) < (d : Int)) by omega), cf, fV (by decide) (by show (0 : Int) + 1 + 1 + 1 < 4; decide), dD (by decide), dI (by decide) (by decide), show (⟨32, 32⟩ : aU).fE = 32 from rfl, e3]
  unfold gY
  rw [show decide ((0 : Int) + 1 + 1 + 1 + 1 < ((oF.length : Nat) : Int)) = false from rfl, cf]
theorem max2 (F : Nat) (hF : 5 ≤ F) (a b : Int) : ni F [a, b] = some (mx a b) := by
  obtain ⟨G, rfl⟩ : ∃ G, F = G + 5 := ⟨F - 5, by omega⟩
  unfold ni
  rw [jn_, show decide (((([a, b] : List Int).length : Nat) : Int) < 1) = false from rfl, cf]
  dsimp only
  rw [fV (by decide) (by show (0 : Int) < 2; decide), jn_]
  unfold kD
  rw [show decide ((1 : Int) < ((([a, b] : List Int).length : Nat) : Int)) = true from rfl, ct, fV (by decide) (by show (1 : Int) < 2; decide), Jp, ob, CQ, ob, dI (by decide) (by decide)]
  unfold kD
  rw [show decide ((1 : Int) + 1 < ((([a, b] : List Int).length : Nat) : Int)) = false from rfl, cf]
  rfl
structure DG (g : bg) (d : bC) : Prop where
  w : ∀ x ∈ d.xW, (A1 g : Int) ≤ x.xAt ∧ x.xAt < (C1 g : Int)
  len : d.xW.length ≤ 600
  err : 0 ≤ d.dh.lW ∧ d.dh.lW ≤ 255
  n : 0 ≤ d.dh.xN ∧ d.dh.xN ≤ 2147483647
  st : (d.bY = 0 ∧ d.dh = ⟨0, 0, 0⟩ ∧ d.xW = [] ∧ d.lF = 0 ∧ d.xL = ⟨0, 0, 0, 0⟩) ∨ ((d.bY = 1 ∨ d.bY = 4) ∧ d.dh = ⟨0, 0, 0⟩ ∧ d.xW = [] ∧ 1 ≤ d.lF ∧ d.lF ≤ 4294967295) ∨ ((d.bY = 2 ∨ d.bY = 3) ∧ 1 ≤ d.lF ∧ d.lF ≤ 4294967295)
theorem LU (F : Nat) (hF : 1000 ≤ F) {g : bg} (hg : GG g) (ws : List aA) : Tot (mJ F g ws) fun b => b = true → ws.length ≤ 600 ∧ ∀ x ∈ ws, (A1 g : Int) ≤ x.xAt ∧ x.xAt < (C1 g : Int) := by
  unfold mJ
  have hsl : 0 < g.au.toNat := by have := hg.t1; have := hg.s1; omega
  have hA : A1 g ≤ 5424 := by have hC := C8 hg; unfold C1 B1 at hC; omega
  refine jr (mD F hg) (iq (fun _ => dB fun h => by cases h) fun hlen => jr (x := (A1 g : Int)) (by have := y9 F hg hsl; simpa using this) (dG ⟨by omega, by omega⟩ (lC ?_)))
  have hl : ws.length ≤ 600 := by simp only [Bool.or_eq_false_iff, decide_eq_false_iff_not] at hlen; omega
  refine lD (fun n v p => lI F g ws _ n p v) ws.length (fun v p => (A1 g : Int) - 1 ≤ p ∧ ∀ i : Nat, i < v → (A1 g : Int) ≤ (nth ws (i : Int)).xAt ∧ (nth ws (i : Int)).xAt < (C1 g : Int)) (fun n v p hv hI hk => ?_) (fun n p hI => ?_) F 0 _ (by omega) (by omega) ⟨by omega, fun i h => by omega⟩
  · show Tot (lI F g ws _ (n + 1) p v) _
    unfold lI
    rw [dlt hv, ct]
    refine dG ⟨by omega, by omega⟩ (sS (P := fun x => x = (C1 g : Int)) (fun _ => T_eq (xC F hg) rfl) fun x23 hx => iq (fun _ => dB fun h => by cases h) fun h => dG ⟨by omega, by omega⟩ ?_)
    rw [cs]
    simp only [Bool.or_eq_false_iff, decide_eq_false_iff_not] at h
    have hx := hx (by rw [decide_eq_false h.1]; rfl)
    refine hk _ ⟨by omega, fun i hi => ?_⟩
    by_cases hiv : i < v
    · exact hI.2 i hiv
    · obtain rfl : i = v := by omega
      omega
  · show Tot (lI F g ws _ (n + 1) p _) _
    unfold lI
    rw [dge, cf]
    refine dB fun _ => ⟨hl, fun x hx => ?_⟩
    obtain ⟨i, hi, rfl⟩ := List.getElem_of_mem hx
    have := hI.2 i hi
    rw [nH ws hi] at this
    exact this
theorem wP (F : Nat) (hF : 1000 ≤ F) {g : bg} (hg : GG g) (d : bC) : Tot (mY F g d) fun b => b = true → DG g d ∧ mJ F g d.xW = some true := by
  unfold mY
  obtain ⟨b, hb, hb2⟩ := LU F hF hg d.xW
  refine jr hb (iq (fun _ => dB fun h => by cases h) fun h1 => ?_)
  simp only [Bool.or_eq_false_iff, decide_eq_false_iff_not] at h1
  obtain ⟨⟨⟨⟨h1, h2⟩, h3⟩, h4⟩, h5⟩ := h1
  obtain rfl : b = true := by simpa using h1
  obtain ⟨h6, h7⟩ := hb2 rfl
  have ZQ : ∀ st, DG g d := fun st => ⟨h7, h6, ⟨by omega, by omega⟩, ⟨by omega, by omega⟩, st⟩
  have hrep : ((d.dh.lW == (0 : Int)) && ((d.dh.xW == (0 : Int)) && ((d.dh.xN == (0 : Int)) && true))) = true → d.dh = ⟨0, 0, 0⟩ := by
    obtain ⟨_, _, _, ⟨a, b, c⟩, _⟩ := d
    intro h; simpa using h
  have hW : (((d.xW.length : Nat) : Int) == (0 : Int)) = true → d.xW = [] := by
    intro h; simpa using h
  refine iq (fun hs => dB fun h => ⟨?_, hb⟩) fun h0 => lC ?_
  · simp only [Bool.and_eq_true] at h
    refine ZQ (.inl ⟨by simpa using hs, hrep (by simp [h.1.1.1]), hW h.1.1.2, by simpa using h.1.2, ?_⟩)
    obtain ⟨_, _, ⟨a, b, c, e⟩, _, _⟩ := d
    simpa using h.2
  · have k5 : ∀ v4 : Bool, (v4 = true → d.bY = 1 ∨ d.bY = 4) → Tot (bif v4 then some (((((d.dh.lW == (0 : Int)) && ((d.dh.xW == (0 : Int)) && ((d.dh.xN == (0 : Int)) && true))) && (((d.xW.length : Nat) : Int) == (0 : Int))) && (decide ((1 : Int) ≤ d.lF))) && (decide (d.lF ≤ (4294967295 : Int)))) else (jn (fun (v7 : Bool) => (bif v7 then some ((decide ((1 : Int) ≤ d.lF)) && (decide (d.lF ≤ (4294967295 : Int)))) else some false)) fun k8 => (bif (d.bY == (2 : Int)) then k8 (d.bY == (2 : Int)) else k8 (d.bY == (3 : Int))))) fun b => b = true → DG g d ∧ mJ F g d.xW = some true := by
      intro v hv
      refine iq (fun h => dB fun hr => ⟨?_, hb⟩) fun _ => lC ?_
      · simp only [Bool.and_eq_true, decide_eq_true_eq] at hr
        exact ZQ (.inr (.inl ⟨hv h, hrep (by simp [hr.1.1.1]), hW hr.1.1.2, hr.1.2, hr.2⟩))
      · have k8 : ∀ v7 : Bool, (v7 = true → d.bY = 2 ∨ d.bY = 3) → Tot (bif v7 then some ((decide ((1 : Int) ≤ d.lF)) && (decide (d.lF ≤ (4294967295 : Int)))) else some false) fun b => b = true → DG g d ∧ mJ F g d.xW = some true := by
          intro v hv
          refine iq (fun h => dB fun hr => ⟨?_, hb⟩) fun _ => dB fun h => by cases h
          simp only [Bool.and_eq_true, decide_eq_true_eq] at hr
          exact ZQ (.inr (.inr ⟨hv h, hr.1, hr.2⟩))
        exact iq (fun h => k8 _ fun _ => .inl (by simpa using h)) fun _ => k8 _ fun h => .inr (by simpa using h)
    exact iq (fun h => k5 _ fun _ => .inl (by simpa using h)) fun _ => k5 _ fun h => .inr (by simpa using h)
theorem Qg (F : Nat) {g : bg} {d : bC} (hw : mJ F g d.xW = some true) (h : DG g d) : mY F g d = some true := by
  obtain ⟨h1, h2, h3, h4, h5⟩ := h
  unfold mY
  rw [hw, ob, decide_eq_false (by omega : ¬ d.dh.lW < 0), decide_eq_false (by omega : ¬ 255 < d.dh.lW), decide_eq_false (by omega : ¬ d.dh.xN < 0), decide_eq_false (by omega : ¬ 2147483647 < d.dh.xN), show (!true || false || false || false || false) = false from rfl, cf]
  rcases h5 with ⟨e1, e2, e3, e4, e5⟩ | ⟨e1, e2, e3, e4, e5⟩ | ⟨e1, e4, e5⟩
  · rw [e1, e2, e3, e4, e5]; rfl
  · rw [e2, e3, decide_eq_true e4, decide_eq_true e5]
    rcases e1 with e1 | e1 <;> rw [e1] <;> rfl
  · rw [decide_eq_true e4, decide_eq_true e5]
    rcases e1 with e1 | e1 <;> rw [e1] <;> rfl
def um (d : bC) : bC := ⟨if d.bY = 2 then 3 else if d.bY = 1 then 4 else d.bY, d.lF, d.xL, d.dh, d.xW⟩
theorem then_eq (F : Nat) (d : bC) : pY F d = some (um d) := by
  unfold pY um
  rw [jn_]
  by_cases h2 : d.bY = 2
  · rw [h2]; rfl
  · rw [show (d.bY == 2) = false by simpa using h2, cf, if_neg h2]
    by_cases h1 : d.bY = 1
    · rw [h1]; rfl
    · rw [show (d.bY == 1) = false by simpa using h1, cf, if_neg h1]
theorem Ol {g : bg} {d : bC} (h : DG g d) : DG g (um d) := by
  obtain ⟨h1, h2, h3, h4, h5⟩ := h
  refine ⟨h1, h2, h3, h4, ?_⟩
  unfold um
  rcases h5 with ⟨e1, e2, e3, e4, e5⟩ | ⟨e1, e2, e3, e4, e5⟩ | ⟨e1, e4, e5⟩
  · exact .inl ⟨by simp [e1], e2, e3, e4, e5⟩
  · refine .inr (.inl ⟨?_, e2, e3, e4, e5⟩)
    rcases e1 with e1 | e1 <;> simp [e1]
  · refine .inr (.inr ⟨?_, e4, e5⟩)
    rcases e1 with e1 | e1 <;> simp [e1]
theorem Vf (F : Nat) (hF : 10 ≤ F) {g : bg} {d : bC} (h : DG g d) : lN F d = some ((d.bY.toNat + d.dh.lW.toNat * 256 + d.xW.length * 65536 + d.lF.toNat * 4294967296 : Nat) : Int) := by
  obtain ⟨h1, h2, h3, h4, h5⟩ := h
  have hst : 0 ≤ d.bY ∧ d.bY ≤ 4 ∧ 0 ≤ d.lF ∧ d.lF ≤ 4294967295 := by
    rcases h5 with ⟨e1, e2, e3, e4, e5⟩ | ⟨e1, e2, e3, e4, e5⟩ | ⟨e1, e4, e5⟩ <;> omega
  unfold lN
  have hput : jK F oF [IntKind.u64.wrap d.bY, IntKind.u64.wrap d.dh.lW, IntKind.u64.wrap ((d.xW.length : Nat) : Int), d.lF] = some (((d.bY.toNat + d.dh.lW.toNat * 256 + d.xW.length * 65536 + d.lF.toNat * 4294967296 : Nat) : Int), true) := by
    have := up6 (P := fun F => jK F oF [(d.bY.toNat : Int), (d.dh.lW.toNat : Int), (d.xW.length : Int), (d.lF.toNat : Int)] = some (((d.bY.toNat + d.dh.lW.toNat * 256 + d.xW.length * 65536 + d.lF.toNat * 4294967296 : Nat) : Int), true)) (fun G => acC G (by omega) (by omega) (by omega) (by omega)) (F := F) (by omega)
    rw [show IntKind.u64.wrap d.bY = (d.bY.toNat : Int) by rw [IntKind.wrap_u64]; omega, show IntKind.u64.wrap d.dh.lW = (d.dh.lW.toNat : Int) by rw [IntKind.wrap_u64]; omega, show IntKind.u64.wrap ((d.xW.length : Nat) : Int) = (d.xW.length : Int) by rw [IntKind.wrap_u64]; omega, show d.lF = (d.lF.toNat : Int) by omega]
    exact this
  rw [Xo, ob, hput, ob, decide_eq_false (by omega : ¬ 600 < ((d.xW.length : Nat) : Int)), dD (fun _ => by decide), show ((!true || false) == false) = true from rfl, lzt, max2 F (by omega), ob]
  rw [show decide ((255 : Int) < mx (IntKind.u64.wrap d.bY) (IntKind.u64.wrap d.dh.lW)) = false by
    refine decide_eq_false ?_
    rw [show IntKind.u64.wrap d.bY = d.bY by rw [IntKind.wrap_u64]; omega, show IntKind.u64.wrap d.dh.lW = d.dh.lW by rw [IntKind.wrap_u64]; omega]
    unfold mx; split <;> omega]
  rfl
end Go.V.P
set_option linter.unusedVariables false
set_option linter.unusedSimpArgs false
namespace Go.V.P
open Go.V Go.Proofs
def u64 (x : Int) : Prop := 0 ≤ x ∧ x < 18446744073709551616
def dW (f : Nat → Int) (i : Nat) : aA := ⟨f (8 + 2 * i), f (9 + 2 * i)⟩
def dsc (f : Nat → Int) (a b : Int) : bC := ⟨(((f 0).toNat % 256 : Nat) : Int), (((f 0).toNat / 4294967296 : Nat) : Int), ⟨f 1, f 2, f 3, f 4⟩, ⟨(((f 0).toNat / 256 % 256 : Nat) : Int), a, b⟩, tab ((f 0).toNat / 65536 % 65536) (dW f)⟩
def qM (F : Nat) (g : bg) (f : Nat → Int) (d : bC) : Prop :=
  (f 0 = 0 ∧ f 7 = 0 ∧ d = D0) ∨
  (f 0 ≠ 0 ∧ (f 0).toNat / 65536 % 65536 ≤ 600 ∧ (∀ i, i < (f 0).toNat / 65536 % 65536 → f (8 + 2 * i) ≤ 2147483647) ∧ f 7 = 0 ∧
    ∃ a b, d = dsc f a b ∧ ((f 0).toNat % 256 ≠ 1 → a = f 5 ∧ b = f 6 ∧ f 6 ≤ 2147483647) ∧ ((f 0).toNat % 256 = 1 → a = 0 ∧ b = 0) ∧ mY F g d = some true)
section
variable {f : Nat → Int}
theorem Ut (F : Nat) {x9 : List Int} {k : List aA → Option (bC × Bool)} {n v : Nat} {N : Nat} (hN : N ≤ 600) (h9 : nth x9 2 = (N : Int)) (hv : v < N) (hf : u64 (f (8 + 2 * v))) (h : f (8 + 2 * v) ≤ 2147483647) :
    jd F (tab 1208 f) x9 k (n + 1) (v : Int) (tab v (dW f)) = jd F (tab 1208 f) x9 k n ((v + 1 : Nat) : Int) (tab (v + 1) (dW f)) := by
  have hl : (tab 1208 f).length = 1208 := aW _ _
  have hl2 : (tab v (dW f)).length = v := aW _ _
  have e8 : ((8 : Int) + (2 : Int) * (v : Int)) = ((8 + 2 * v : Nat) : Int) := by omega
  have e9 : (((8 + 2 * v : Nat) : Int) + (1 : Int)) = ((9 + 2 * v : Nat) : Int) := by omega
  conv => lhs; unfold jd
  rw [h9, show IntKind.i64.wrap (N : Int) = N by rw [IntKind.wrap_i64]; omega, decide_eq_true (by omega : (v : Int) < (N : Int)), ct, dI (by omega) (by omega), dI (by omega) (by omega), e8, fV (by omega) (by omega), eX (by omega), decide_eq_false (by omega : ¬ 2147483647 < f (8 + 2 * v)), cf, dI (by omega) (by omega), dI (by omega) (by omega), dI (by omega) (by omega), e9, fV (by omega) (by omega), eX (by omega), dD (by simp only [List.length_cons, List.length_nil]; omega), dI (by omega) (by omega), cs, pF v (dW f)]
  have := hf.1
  rw [show IntKind.i64.wrap (f (8 + 2 * v)) = f (8 + 2 * v) by rw [IntKind.wrap_i64]; omega]
  rfl
theorem Xt (F : Nat) {x9 : List Int} {k : List aA → Option (bC × Bool)} {n N : Nat} (hN : N ≤ 600) (h9 : nth x9 2 = (N : Int)) (l : List aA) : jd F (tab 1208 f) x9 k (n + 1) (N : Int) l = k l := by
  conv => lhs; unfold jd
  rw [h9, show IntKind.i64.wrap (N : Int) = N by rw [IntKind.wrap_i64]; omega, decide_eq_false (by omega : ¬ (N : Int) < (N : Int)), cf]
theorem ZR (F : Nat) {x9 : List Int} {k : List aA → Option (bC × Bool)} {n v : Nat} {N : Nat} (hN : N ≤ 600) (h9 : nth x9 2 = (N : Int)) (hv : v < N) (l : List aA) (h : ¬ f (8 + 2 * v) ≤ 2147483647) :
    jd F (tab 1208 f) x9 k (n + 1) (v : Int) l = some (D0, false) := by
  have hl : (tab 1208 f).length = 1208 := aW _ _
  have e8 : ((8 : Int) + (2 : Int) * (v : Int)) = ((8 + 2 * v : Nat) : Int) := by omega
  conv => lhs; unfold jd
  rw [h9, show IntKind.i64.wrap (N : Int) = N by rw [IntKind.wrap_i64]; omega, decide_eq_true (by omega : (v : Int) < (N : Int)), ct, dI (by omega) (by omega), dI (by omega) (by omega), e8, fV (by omega) (by omega), eX (by omega), decide_eq_true (by omega : 2147483647 < f (8 + 2 * v)), ct]
  rfl
theorem Nj (F : Nat) (hF : 2000 ≤ F) {g : bg} (hg : GG g) (hr : ∀ j, j < 1208 → u64 (f j)) (h0 : f 0 ≠ 0) (Q : bC × Bool → Prop) (hno : 600 < (f 0).toNat / 65536 % 65536 ∨ ((f 0).toNat % 256 ≠ 1 ∧ 2147483647 < f 6) → Q (D0, false))
    (hk : ∀ a b x9, nth x9 2 = (((f 0).toNat / 65536 % 65536 : Nat) : Int) → (f 0).toNat / 65536 % 65536 ≤ 600 → ((f 0).toNat % 256 ≠ 1 → a = f 5 ∧ b = f 6 ∧ f 6 ≤ 2147483647) → ((f 0).toNat % 256 = 1 → a = 0 ∧ b = 0) →
      Tot (jd F (tab 1208 f) x9 (fun v20 => (mY F g ⟨(dsc f a b).bY, (dsc f a b).lF, (dsc f a b).xL, (dsc f a b).dh, v20⟩).bind fun x22 => gd ((!x22) = false → ix (tab 1208 f) (7 : Int)) (bif ((!x22) || (f 7 != (0 : Int))) then some (D0, false) else some (⟨(dsc f a b).bY, (dsc f a b).lF, (dsc f a b).xL, (dsc f a b).dh, v20⟩, true))) F (0 : Int) []) Q) :
    Tot (lu F g (tab 1208 f)) Q := by
  have hl : (tab 1208 f).length = 1208 := aW _ _
  have u0 := hr 0 (by omega)
  have hw : (f 0).toNat < 18446744073709551616 := by have := u0.1; have := u0.2; omega
  have hw0 : (((f 0).toNat : Nat) : Int) = f 0 := by have := u0.1; omega
  have n0 : nth (tab 1208 f) (0 : Int) = f 0 := eX (v := 0) (by omega)
  have n7 : nth (tab 1208 f) (7 : Int) = f 7 := eX (v := 7) (by omega)
  have n6 : nth (tab 1208 f) (6 : Int) = f 6 := eX (v := 6) (by omega)
  have n5 : nth (tab 1208 f) (5 : Int) = f 5 := eX (v := 5) (by omega)
  have hcut : cut (tab 1208 f) (1 : Int) (((tab 1208 f).length : Nat) : Int) = tab 1207 (fun i => f (1 + i)) := by
    rw [hl]; exact yG (a := 1) (b := 1208) (by omega) (by omega)
  unfold lu
  refine jr (by have := qE F hg (v := 0) (by have := hg.t1; omega); simpa using this) ?_
  refine iq (fun h => ?_) fun _ => dG ⟨by omega, by omega⟩ (iq (fun h => ?_) fun _ => dG ⟨by omega, by omega⟩ (jr (Xo F) (jr (by rw [n0, ← hw0]; exact acB F (by omega) hw) ?_)))
  · rw [hl] at h; exact absurd h (by decide)
  · rw [n0] at h; exact absurd (by simpa using h) h0
  refine dG ⟨by decide, by show (0 : Int) < 4; decide⟩ (dG ⟨by decide, by show (3 : Int) < 4; decide⟩ (dG ⟨by omega, by omega, by omega⟩ (dG (by rw [hcut, aW]; omega) (dG ⟨by decide, by show (1 : Int) < 4; decide⟩ (dG ⟨by decide, by show (2 : Int) < 4; decide⟩ ?_)))))
  simp only [hcut]
  have w0 : ∀ m : Nat, m < 4294967296 → IntKind.i64.wrap (m : Int) = (m : Int) := fun m hm => by rw [IntKind.wrap_i64]; omega
  show Tot (bif (decide ((600 : Int) < IntKind.i64.wrap (((f 0).toNat / 65536 % 65536 : Nat) : Int))) then _ else _) Q
  rw [w0 _ (by omega)]
  refine iq (fun h => dB (hno (.inl (by simp only [decide_eq_true_eq] at h; omega)))) fun acD => lC ?_
  simp only [decide_eq_false_iff_not] at acD
  have hN : (f 0).toNat / 65536 % 65536 ≤ 600 := by omega
  have go : ∀ a b, ((f 0).toNat % 256 ≠ 1 → a = f 5 ∧ b = f 6 ∧ f 6 ≤ 2147483647) → ((f 0).toNat % 256 = 1 → a = 0 ∧ b = 0) → Tot (jn (fun (v20 : List aA) => (mY F g (⟨IntKind.i64.wrap (((f 0).toNat % 256 : Nat) : Int), (((f 0).toNat / 4294967296 : Nat) : Int), ⟨nth (tab 1207 (fun i => f (1 + i))) 0, nth (tab 1207 (fun i => f (1 + i))) 1, nth (tab 1207 (fun i => f (1 + i))) 2, nth (tab 1207 (fun i => f (1 + i))) 3⟩, ⟨IntKind.i64.wrap (((f 0).toNat / 256 % 256 : Nat) : Int), a, b⟩, v20⟩ : bC)).bind fun x22 => gd ((!x22) = false → ix (tab 1208 f) (7 : Int)) (bif ((!x22) || ((nth (tab 1208 f) (7 : Int)) != (0 : Int))) then some (D0, false) else some ((⟨IntKind.i64.wrap (((f 0).toNat % 256 : Nat) : Int), (((f 0).toNat / 4294967296 : Nat) : Int), ⟨nth (tab 1207 (fun i => f (1 + i))) 0, nth (tab 1207 (fun i => f (1 + i))) 1, nth (tab 1207 (fun i => f (1 + i))) 2, nth (tab 1207 (fun i => f (1 + i))) 3⟩, ⟨IntKind.i64.wrap (((f 0).toNat / 256 % 256 : Nat) : Int), a, b⟩, v20⟩ : bC), true)))
      fun k21 => jd F (tab 1208 f) [(((f 0).toNat % 256 : Nat) : Int), (((f 0).toNat / 256 % 256 : Nat) : Int), (((f 0).toNat / 65536 % 65536 : Nat) : Int), (((f 0).toNat / 4294967296 : Nat) : Int)] k21 F (0 : Int) []) Q := by
    intro a b h1 h2
    refine lC ?_
    have t0 : nth (tab 1207 (fun i => f (1 + i))) 0 = f 1 := eX (v := 0) (by omega)
    have t1 : nth (tab 1207 (fun i => f (1 + i))) 1 = f 2 := eX (v := 1) (by omega)
    have t2 : nth (tab 1207 (fun i => f (1 + i))) 2 = f 3 := eX (v := 2) (by omega)
    have t3 : nth (tab 1207 (fun i => f (1 + i))) 3 = f 4 := eX (v := 3) (by omega)
    rw [t0, t1, t2, t3, n7, w0 _ (by omega), w0 _ (by omega)]
    exact hk a b _ rfl hN h1 h2
  show Tot (bif (IntKind.i64.wrap (((f 0).toNat % 256 : Nat) : Int) != (1 : Int)) then _ else _) Q
  rw [w0 ((f 0).toNat % 256) (by omega)]
  refine iq (fun h => dG ⟨by omega, by omega⟩ (iq (fun h6 => dB (hno (.inr ⟨fun e => by rw [e] at h; simp at h, by rw [n6] at h6; simpa using h6⟩))) fun h6 => dG ⟨by omega, by omega⟩ (dG ⟨by omega, by omega⟩ ?_))) fun h => ?_
  · rw [n6] at h6
    simp only [decide_eq_false_iff_not] at h6
    have u6 := hr 6 (by omega)
    rw [n5, n6, show IntKind.i64.wrap (f 6) = f 6 by have := u6.1; rw [IntKind.wrap_i64]; omega]
    exact go _ _ (fun _ => ⟨rfl, rfl, by omega⟩) fun h1 => by rw [h1] at h; simp at h
  · exact go _ _ (fun h1 => by simp only [bne_eq_false_iff_eq] at h; omega) fun _ => ⟨rfl, rfl⟩
theorem Qh (F : Nat) (hF : 2000 ≤ F) {g : bg} (hg : GG g) (hr : ∀ j, j < 1208 → u64 (f j)) : Tot (lu F g (tab 1208 f)) fun r => r.2 = true → qM F g f r.1 := by
  have hl : (tab 1208 f).length = 1208 := aW _ _
  by_cases h0 : f 0 = 0
  · have n0 : nth (tab 1208 f) (0 : Int) = f 0 := eX (v := 0) (by omega)
    have n7 : nth (tab 1208 f) (7 : Int) = f 7 := eX (v := 7) (by omega)
    unfold lu
    refine jr (by have := qE F hg (v := 0) (by have := hg.t1; omega); simpa using this) ?_
    refine iq (fun h => ?_) fun _ => dG ⟨by omega, by omega⟩ (iq (fun h => lC (dG ⟨by omega, by omega⟩ (dB fun h => ?_))) fun h => ?_)
    · rw [hl] at h; exact absurd h (by decide)
    · rw [n7] at h
      exact .inl ⟨h0, by simpa using h, rfl⟩
    · rw [n0, h0] at h; cases h
  · refine Nj F hF hg hr h0 _ (fun _ h => by cases h) fun a b x9 h9 hN h1 h2 => ?_
    refine lD (fun n v l => jd F (tab 1208 f) x9 _ n v l) ((f 0).toNat / 65536 % 65536) (fun v l => l = tab v (dW f) ∧ ∀ i, i < v → f (8 + 2 * i) ≤ 2147483647) (fun n v l hv hI hk => ?_) (fun n l hI => ?_) F 0 _ (by omega) (by omega) ⟨rfl, fun i h => by omega⟩
    · obtain ⟨rfl, hI⟩ := hI
      show Tot (jd F (tab 1208 f) x9 _ (n + 1) v (tab v (dW f))) _
      by_cases hb : f (8 + 2 * v) ≤ 2147483647
      · rw [Ut F hN h9 hv (hr _ (by omega)) hb]
        refine hk _ ⟨rfl, fun i hi => ?_⟩
        by_cases h : i < v
        · exact hI i h
        · obtain rfl : i = v := by omega
          exact hb
      · rw [ZR F hN h9 hv _ hb]
        exact dB fun h => by cases h
    · obtain ⟨rfl, hI⟩ := hI
      show Tot (jd F (tab 1208 f) x9 _ (n + 1) _ _) _
      rw [Xt F hN h9]
      obtain ⟨x, hx, hx2⟩ := wP F (by omega) hg (dsc f a b)
      refine jr hx (dG (fun _ => ⟨by omega, by omega⟩) (iq (fun _ => dB fun h => by cases h) fun h => dB fun _ => ?_))
      simp only [Bool.or_eq_false_iff, bne_eq_false_iff_eq] at h
      have hxt : x = true := by simpa using h.1
      subst hxt
      exact .inr ⟨h0, hN, hI, h.2, a, b, rfl, h1, h2, hx⟩
theorem D5 (F : Nat) (hF : 2000 ≤ F) {g : bg} (hg : GG g) (hr : ∀ j, j < 1208 → u64 (f j)) {d : bC} (h : qM F g f d) : lu F g (tab 1208 f) = some (d, true) := by
  have hl : (tab 1208 f).length = 1208 := aW _ _
  have : Tot (lu F g (tab 1208 f)) fun r => r = (d, true) := by
    rcases h with ⟨h0, h7, rfl⟩ | ⟨h0, hN, hI, h7, a, b, rfl, h1, h2, hgd⟩
    · have n0 : nth (tab 1208 f) (0 : Int) = f 0 := eX (v := 0) (by omega)
      have n7 : nth (tab 1208 f) (7 : Int) = f 7 := eX (v := 7) (by omega)
      unfold lu
      refine jr (by have := qE F hg (v := 0) (by have := hg.t1; omega); simpa using this) ?_
      refine iq (fun h => ?_) fun _ => dG ⟨by omega, by omega⟩ (iq (fun h => lC (dG ⟨by omega, by omega⟩ (dB ?_))) fun h => ?_)
      · rw [hl] at h; exact absurd h (by decide)
      · rw [n7, h7]; rfl
      · rw [n0, h0] at h; cases h
    · refine Nj F hF hg hr h0 _ (fun h => ?_) fun a' b' x9 h9 _ h1' h2' => ?_
      · rcases h with h | ⟨h, h3⟩
        · omega
        · have := (h1 h).2.2; omega
      obtain ⟨rfl, rfl⟩ : a' = a ∧ b' = b := by
        by_cases h : (f 0).toNat % 256 = 1
        · have e1 := h2 h; have e2 := h2' h; exact ⟨by omega, by omega⟩
        · have e1 := h1 h; have e2 := h1' h; exact ⟨by omega, by omega⟩
      refine lD (fun n v l => jd F (tab 1208 f) x9 _ n v l) ((f 0).toNat / 65536 % 65536) (fun v l => l = tab v (dW f)) (fun n v l hv hI' hk => ?_) (fun n l hI' => ?_) F 0 _ (by omega) (by omega) rfl
      · subst hI'
        show Tot (jd F (tab 1208 f) x9 _ (n + 1) v (tab v (dW f))) _
        rw [Ut F hN h9 hv (hr _ (by omega)) (hI v hv)]
        exact hk _ rfl
      · subst hI'
        show Tot (jd F (tab 1208 f) x9 _ (n + 1) _ _) _
        rw [Xt F hN h9]
        refine jr hgd (dG (fun _ => ⟨by omega, by omega⟩) (iq (fun h => ?_) fun h => dB rfl))
        rw [h7] at h; cases h
  obtain ⟨r, h1, h2⟩ := this
  rw [h1, h2]
end
end Go.V.P
set_option linter.unusedVariables false
set_option linter.unusedSimpArgs false
namespace Go.V.P
open Go.V Go.Proofs
theorem Qi {α : Type} {l : List α} {v : Nat} {x : α} (h : l.length = v) : (l ++ [x]).length = v + 1 := by rw [List.length_append, h]; rfl
theorem ZT (g : bg) : GG g ∨ ¬ GG g := Classical.em _
theorem yN (F : Nat) (hF : 20 ≤ F) {l : List Int} (hl : l.length = 8) (hu : ∀ i : Nat, i < 8 → u64 (nth l (i : Int))) : Tot (oJ F l) fun r => r.2 = true → GG r.1.bH ∧ l = sup r.1 ∧ u64 r.1.tq := by
  have h8 : (((l.length : Nat) : Int) != (8 : Int)) = false := by rw [hl]; rfl
  unfold oJ
  refine dG (fun _ => ⟨by omega, by omega⟩) (dG (fun _ => ⟨by omega, by omega⟩) (dG (fun _ => ⟨by omega, by omega⟩) ?_))
  rw [h8, WV, ob, CQ, show (false == false) = true from rfl, lzt, ob, Bool.false_or]
  refine iq (fun _ => dB fun h => by cases h) fun hm => dG ⟨by omega, by omega⟩ (dG ⟨by omega, by omega⟩ (dG ⟨by omega, by omega⟩ (dG ⟨by omega, by omega⟩ ?_)))
  generalize hs : (⟨⟨IntKind.i64.wrap (nth l 1), IntKind.i64.wrap (nth l 2), IntKind.i64.wrap (nth l 3)⟩, nth l 4⟩ : dQ) = s
  have hb : s.tq = nth l 4 := by rw [← hs]
  rcases ZT s.bH with hg | hg
  · refine jr (y5 F (by omega) s (mD F hg)) (jm (Sr F (sup s) l (by rw [kH]; omega) (by rw [kH]; omega)) fun x hx => iq (fun _ => dB fun h => by cases h) fun h => dB fun _ => ⟨hg, (hx (by simpa using h)).symm, ?_⟩)
    rw [hb]; exact hu 4 (by omega)
  · refine jr (x := []) (by unfold pV; rw [Jm F hg]; rfl) (jm (Sr F [] l (by simp; omega) (by simp)) fun x hx => iq (fun _ => dB fun h => by cases h) fun h => ?_)
    have := hx (by simpa using h)
    rw [← this] at hl; cases hl
def ZU (w : Nat → Int) (N : Nat) (r : dQ × Bool × Bool) : Prop := (r.2.1 = true ∨ r.2.2 = true) → GG r.1.bH ∧ N = N1 r.1.bH ∧ u64 r.1.tq
theorem Gx {N a : Nat} (w : Nat → Int) (h : a + 8 ≤ N) : cut (tab N w) ((a : Nat) : Int) ((a + 8 : Nat) : Int) = tab 8 (fun i => w (a + i)) := by
  rw [yG (by omega) h]
  congr 1; omega
theorem JJ (F : Nat) (hF : 20 ≤ F) {N : Nat} {w : Nat → Int} (hN : 8 ≤ N) (hN2 : N ≤ 40000) (hN8 : N % 8 = 0) (hu : ∀ i, i < N → u64 (w i)) : Tot (jv F (tab N w)) (ZU w N) := by
  have hl : (tab N w).length = N := aW _ _
  unfold jv
  rw [hl]
  refine iq (fun h => ?_) fun _ => dG ⟨by omega, by omega, by omega⟩ ?_
  · simp only [Bool.or_eq_true, decide_eq_true_eq, bne_iff_ne, ne_eq] at h
    rcases h with h | h
    · omega
    · rw [Jv (by omega)] at h; omega
  have c1 : cut (tab N w) (0 : Int) (8 : Int) = tab 8 (fun i => w (0 + i)) := Gx (a := 0) w (by omega)
  have c2 : cut (tab N w) ((N : Int) - 8) (N : Int) = tab 8 (fun i => w (N - 8 + i)) := by
    have := Gx (a := N - 8) w (N := N) (by omega)
    rw [show ((N - 8 : Nat) : Int) = (N : Int) - 8 by omega, show ((N - 8 + 8 : Nat) : Int) = (N : Int) by omega] at this
    exact this
  have hr : ∀ g : bg, GG g → (((C1 g / 8 + 1 : Nat) : Int) == IntKind.i64.wrap (Int.tdiv (N : Int) 8)) = true → N = N1 g := by
    intro g hg h
    have hC := C8 hg
    rw [Hg (by omega), wrap_small (by omega) (by omega), beq_iff_eq] at h
    unfold N1; omega
  rw [c1]
  refine jm (yN F hF (aW _ _) (fun i hi => by rw [eX hi]; exact hu _ (by omega))) fun x3 h3 => ?_
  refine sS (P := fun r => ∀ _ : x3.2 = true, r = ((C1 x3.1.bH / 8 + 1 : Nat) : Int)) (fun h => T_eq (y8 F (h3 (by simpa using h)).1) fun _ => rfl) fun x4 h4 => ?_
  refine dG ⟨by omega, by omega⟩ (dG ⟨by omega, by omega, by omega⟩ ?_)
  rw [c2]
  refine jm (yN F hF (aW _ _) (fun i hi => by rw [eX hi]; exact hu _ (by omega))) fun x7 h7 => ?_
  refine sS (P := fun r => ∀ _ : x7.2 = true, r = ((C1 x7.1.bH / 8 + 1 : Nat) : Int)) (fun h => T_eq (y8 F (h7 (by simpa using h)).1) fun _ => rfl) fun x8 h8 => ?_
  refine iq (fun h => dB fun _ => ?_) fun _ => iq (fun h => dB fun _ => ?_) fun _ => dB fun h => ?_
  · simp only [Bool.and_eq_true] at h
    obtain ⟨a1, a2, a3⟩ := h3 h.1
    rw [h4 (by simp [h.1]) h.1] at h
    exact ⟨a1, hr _ a1 h.2, a3⟩
  · simp only [Bool.and_eq_true] at h
    obtain ⟨a1, a2, a3⟩ := h7 h.1
    rw [h8 (by simp [h.1]) h.1] at h
    exact ⟨a1, hr _ a1 h.2, a3⟩
  · rcases h with h | h <;> cases h
theorem Om (F : Nat) {g : bg} (hg : GG g) {l l' : List Int} (h1 : l.length = N1 g) (h2 : l'.length = N1 g) {x x' : dQ × Bool × Bool} (hx : x.1.bH = g) (hx' : x'.1.bH = g)
    (h : ∀ i, B1 g ≤ i → i < C1 g → nth l ((i : Nat) : Int) = nth l' ((i : Nat) : Int)) {k k' : List aJ → Option (aK × Int)} (hk : ∀ a, k a = k' a) : ∀ (n v : Nat) (acc : List aJ), iV F l x k n (v : Int) acc = iV F l' x' k' n (v : Int) acc := by
  intro n
  induction n with
  | zero => intro v acc; rfl
  | succ n ih =>
    intro v acc
    unfold iV
    rw [hx, hx', hk]
    by_cases hv : v < g.ay.toNat
    · rw [zf F hg hv, ob, ob, h1, h2]
      have hC : C1 g = B1 g + 8 * g.ay.toNat := rfl
      have hN : N1 g = C1 g + 8 := rfl
      have hcut : cut l ((B1 g + 8 * v : Nat) : Int) (((B1 g + 8 * v : Nat) : Int) + 8) = cut l' ((B1 g + 8 * v : Nat) : Int) (((B1 g + 8 * v : Nat) : Int) + 8) := by
        unfold cut
        rw [show (((B1 g + 8 * v : Nat) : Int) + 8).toNat - (((B1 g + 8 * v : Nat) : Int)).toNat = 8 by omega, show (((B1 g + 8 * v : Nat) : Int)).toNat = B1 g + 8 * v by omega]
        refine List.ext_getElem (by simp; omega) fun i a1 a2 => ?_
        have hi : i < 8 := by simp at a1; omega
        have := h (B1 g + 8 * v + i) (by omega) (by omega)
        rw [nH l (by omega), nH l' (by omega)] at this
        simpa using this
      rw [hcut]
      simp only [cs, ih]
    · rw [decide_eq_false (by omega : ¬ (v : Int) < g.ay), cf, cf]
theorem Oo (F : Nat) {g : bg} (hg : GG g) {l l' : List Int} (h1 : l.length = N1 g) (h2 : l'.length = N1 g) {x x' : dQ × Bool × Bool} (hx : x.1.bH = g) (hx' : x'.1.bH = g)
    (h : ∀ i, A1 g ≤ i → i < B1 g → nth l ((i : Nat) : Int) = nth l' ((i : Nat) : Int)) {k k' : List aY → Option (aK × Int)} (hk : ∀ a, k a = k' a) : ∀ (n v : Nat) (acc : List aY), iU F l x k n (v : Int) acc = iU F l' x' k' n (v : Int) acc := by
  intro n
  induction n with
  | zero => intro v acc; rfl
  | succ n ih =>
    intro v acc
    unfold iU
    rw [hx, hx', hk]
    by_cases hv : v < g.au.toNat
    · rw [decide_eq_true (by omega : (v : Int) < g.au), ct, ct, jn_, jn_, y9 F hg hv, ob, ob]
      have hB : B1 g = A1 g + 2 * g.au.toNat := rfl
      have e0 := h (A1 g + 2 * v) (by omega) (by omega)
      have e1 := h (A1 g + 2 * v + 1) (by omega) (by omega)
      have hc1 : (((A1 g + 2 * v : Nat) : Int) + 1) = ((A1 g + 2 * v + 1 : Nat) : Int) := by omega
      rw [hc1, e0, e1]
      have hix : ∀ a, ix l a = ix l' a := fun a => by unfold ix; rw [h1, h2]
      simp only [hix, cs, ih]
    · rw [decide_eq_false (by omega : ¬ (v : Int) < g.au), cf, cf]
theorem image_congr (F : Nat) {g : bg} (hg : GG g) {l l' : List Int} (h1 : l.length = N1 g) (h2 : l'.length = N1 g) {x x' : dQ × Bool × Bool} (hx : x.1.bH = g) (hx' : x'.1.bH = g) (hb : (!x.2.1 && !x.2.2) = false) (hb' : (!x'.2.1 && !x'.2.2) = false)
    (hf : jv F l = some x) (hf' : jv F l' = some x') (h : ∀ i, A1 g ≤ i → i < C1 g → nth l ((i : Nat) : Int) = nth l' ((i : Nat) : Int)) : jU F l = jU F l' := by
  unfold jU
  have hC : B1 g ≤ C1 g := by unfold C1; omega
  have hB : A1 g ≤ B1 g := by unfold B1; omega
  rw [hf, hf', ob, ob, hb, hb', cf, cf, jn_, jn_, hx, hx']
  refine Oo F hg h1 h2 hx hx' (fun i a b => h i a (by omega)) (fun acc => ?_) F 0 []
  rw [jn_, jn_]
  exact Om F hg h1 h2 hx hx' (fun i a b => h i (by omega) b) (fun ad8 => rfl) F 0 []
theorem LV (F : Nat) (hF : 1000 ≤ F) {g : bg} (hg : GG g) {w : Nat → Int} (hu : ∀ i, i < N1 g → u64 (w i)) {x : dQ × Bool × Bool} (hx : x.1.bH = g) (hb : (!x.2.1 && !x.2.2) = false) (hf : jv F (tab (N1 g) w) = some x) :
    Tot (jU F (tab (N1 g) w)) fun r => (r.2 = 0 ∨ r.2 = 2) ∧ (r.2 = 0 → r.1.bH = g) := by
  have hl : (tab (N1 g) w).length = N1 g := aW _ _
  have hC : C1 g = B1 g + 8 * g.ay.toNat := rfl
  have hN : N1 g = C1 g + 8 := rfl
  have hB : B1 g = A1 g + 2 * g.au.toNat := rfl
  have hbd := (C8 hg).2.2.1
  have s2 := hg.s2; have h2 := hg.h2
  have bad : (((2 : Int) = 0 ∨ (2 : Int) = 2) ∧ ((2 : Int) = 0 → (⟨0, 0, 0⟩ : bg) = g)) := ⟨.inr rfl, fun h => by cases h⟩
  unfold jU
  refine jr hf (iq (fun h => by rw [hb] at h; cases h) fun _ => lC ?_)
  refine lD (fun n v l => iU F (tab (N1 g) w) x _ n v l) g.au.toNat (fun v l => l.length = v) (fun n v l hv hI hk => ?_) (fun n l hI => ?_) F 0 _ (by omega) (by omega) rfl
  · show Tot (iU F (tab (N1 g) w) x _ (n + 1) v l) _
    unfold iU
    rw [hx] at hk
    rw [hx, decide_eq_true (by omega : (v : Int) < g.au), ct]
    have u1 := hu (A1 g + 2 * v + 1) (by omega)
    have e1 : (((A1 g + 2 * v : Nat) : Int) + 1) = ((A1 g + 2 * v + 1 : Nat) : Int) := by omega
    refine lC (jr (y9 F hg hv) (dG ⟨by omega, by omega⟩ (jm (Qe F (by omega) _) fun x77 _ => dG (fun _ => ⟨by omega, by omega⟩) (dG (fun _ => ⟨by omega, by omega⟩) (iq (fun _ => dB bad) fun h => dG ⟨by omega, by omega⟩ (dG ⟨by omega, by omega⟩ (dG ?_ (dG (by simp only [List.length_cons, List.length_nil]; omega) (dG ⟨by omega, by omega⟩ ?_)))))))))
    · rw [e1, eX (by omega)] at h ⊢
      simp only [Bool.or_eq_false_iff, decide_eq_false_iff_not] at h
      have := u1.1
      rw [IntKind.wrap_i64]
      exact ⟨by omega, by omega⟩
    · rw [cs]
      exact hk _ (Qi hI)
  · show Tot (iU F (tab (N1 g) w) x _ (n + 1) _ l) _
    unfold iU
    rw [hx, decide_eq_false (by have := hg.t1; have := hg.s1; omega : ¬ ((g.au.toNat : Nat) : Int) < g.au), cf]
    refine lC ?_
    refine lD (fun n v l => iV F (tab (N1 g) w) x _ n v l) g.ay.toNat (fun v l => l.length = v) (fun n v l hv hI hk => ?_) (fun n l hI => ?_) F 0 _ (by omega) (by omega) rfl
    · show Tot (iV F (tab (N1 g) w) x _ (n + 1) v l) _
      unfold iV
      rw [hx, decide_eq_true (by omega : (v : Int) < g.ay), ct]
      refine jr (zf F hg hv) (dG ⟨by omega, by omega⟩ (dG ⟨by omega, by omega, by omega⟩ (jm (LQ F (by omega) _) fun x34 _ => iq (fun _ => dB bad) fun _ => dG (by simp only [List.length_cons, List.length_nil]; omega) (dG ⟨by omega, by omega⟩ ?_))))
      rw [cs]
      exact hk _ (Qi hI)
    · show Tot (iV F (tab (N1 g) w) x _ (n + 1) _ l) _
      unfold iV
      rw [hx, decide_eq_false (by have := hg.t1; have := hg.h1; omega : ¬ ((g.ay.toNat : Nat) : Int) < g.ay), cf]
      exact jm (Bg F (by omega) _) fun b _ => iq (fun _ => dB bad) fun _ => dB ⟨.inl rfl, fun _ => rfl⟩
end Go.V.P
set_option linter.unusedVariables false
set_option linter.unusedSimpArgs false
namespace Go.V.P
open Go.V Go.Proofs
theorem Oq {ws : List aA} {w : Nat → Int} {i : Nat} (h : ∀ x ∈ ws, x.xAt.toNat ≠ i) : app ws w i = w i := by
  induction ws generalizing w with
  | nil => rfl
  | cons x ws ih =>
    show app ws _ i = w i
    rw [ih (fun y hy => h y (List.mem_cons_of_mem _ hy)), if_neg (fun e => h x List.mem_cons_self e.symm)]
theorem abm {ws : List aA} {w : Nat → Int} (hv : ∀ x ∈ ws, u64 x.xV) {i : Nat} (h : u64 (w i)) : u64 (app ws w i) := by
  induction ws generalizing w with
  | nil => exact h
  | cons x ws ih =>
    refine ih (fun y hy => hv y (List.mem_cons_of_mem _ hy)) ?_
    show u64 (if i = x.xAt.toNat then x.xV else w i)
    split
    · exact hv x List.mem_cons_self
    · exact h
theorem Xu {l : List (List aA)} {w : Nat → Int} {i : Nat} (h : ∀ ws ∈ l, ∀ x ∈ ws, x.xAt.toNat ≠ i) : oZ l w i = w i := by
  induction l generalizing w with
  | nil => rfl
  | cons x l ih =>
    show oZ l _ i = w i
    rw [ih (fun y hy => h y (List.mem_cons_of_mem _ hy)), Oq (h x List.mem_cons_self)]
theorem Qj (ws : List aA) (x : aA) (w : Nat → Int) : app (ws ++ [x]) w = fun i => if i = x.xAt.toNat then x.xV else app ws w i := by
  rw [xG]; rfl
theorem abn (F : Nat) {N : Nat} (hN : N ≤ 40000) {ws : List aA} (hl : ws.length ≤ 1000) (hF : ws.length < F) (h : ∀ x ∈ ws, 0 ≤ x.xAt ∧ x.xAt < (N : Int)) (w : Nat → Int) : uT F (tab N w) ws = some (tab N (app ws w)) := by
  have ht : (tab N w).length = N := aW _ _
  have : Tot (uT F (tab N w) ws) fun r => r = tab N (app ws w) := by
    unfold uT
    refine dG (by omega) (lC ?_)
    refine lD (fun n v l => nI F ws _ n v l) ws.length (fun v l => l = tab N (app (ws.take v) w)) (fun n v l hv hI hk => ?_) (fun n l hI => ?_) F 0 _ (by omega) (by omega) rfl
    · show Tot (nI F ws _ (n + 1) v l) _
      unfold nI
      have hlen : l.length = N := by rw [hI]; exact aW _ _
      have hm : nth ws (v : Int) ∈ ws := by rw [nH ws hv]; exact List.getElem_mem hv
      obtain ⟨a1, a2⟩ := h _ hm
      rw [dlt hv, ct, hlen]
      refine lC (dG ⟨by omega, by omega⟩ ?_)
      rw [decide_eq_true a1, decide_eq_true a2]
      refine iq (fun _ => dG ⟨a1, by omega⟩ (dG ⟨by omega, by omega⟩ ?_)) fun h => by cases h
      rw [cs]
      refine hk _ ?_
      show jl l _ _ = _
      rw [show l = tab N (app (ws.take v) w) from hI, qA, List.take_succ_eq_append_getElem hv, Qj, nH ws hv]
    · show Tot (nI F ws _ (n + 1) _ l) _
      unfold nI
      rw [dge, cf]
      exact dB (by rw [show l = tab N (app (ws.take ws.length) w) from hI, List.take_length])
  obtain ⟨r, h1, h2⟩ := this
  rw [h1, h2]
def o8 (D : Nat → bC) : Nat → List (List aA)
  | 0 => []
  | v + 1 => if (D v).bY = 2 then o8 D v ++ [(D v).xW] else o8 D v
theorem E8 {D : Nat → bC} : ∀ {v : Nat} {ws : List aA}, ws ∈ o8 D v → ∃ i, i < v ∧ ws = (D i).xW
  | 0, ws, h => by cases h
  | v + 1, ws, h => by
    unfold o8 at h
    split at h
    · rcases List.mem_append.1 h with h | h
      · obtain ⟨i, h1, h2⟩ := E8 h; exact ⟨i, by omega, h2⟩
      · rw [List.mem_singleton] at h; exact ⟨v, by omega, h⟩
    · obtain ⟨i, h1, h2⟩ := E8 h; exact ⟨i, by omega, h2⟩
theorem vO (D : Nat → bC) : ∀ v, (o8 D v).length ≤ v
  | 0 => Nat.le_refl _
  | v + 1 => by
    have := vO D v
    unfold o8
    split
    · rw [List.length_append]; simp only [List.length_cons, List.length_nil]; omega
    · omega
theorem Gy {D : Nat → bC} : ∀ {v : Nat}, (∀ i, i < v → (D i).bY ≠ 2) → o8 D v = []
  | 0, _ => rfl
  | v + 1, h => by
    unfold o8
    rw [if_neg (h v (by omega)), Gy fun i hi => h i (by omega)]
def seg (w : Nat → Int) (v : Nat) (j : Nat) : Int := w (16 + 1208 * v + j)
theorem qM.facts {F : Nat} (hF : 2000 ≤ F) {g : bg} (hg : GG g) {f : Nat → Int} {d : bC} (hr : ∀ j, j < 1208 → u64 (f j)) (h : qM F g f d) : DG g d ∧ ∀ x ∈ d.xW, u64 x.xV := by
  rcases h with ⟨_, _, rfl⟩ | ⟨h0, hN, hI, h7, a, b, rfl, h1, h2, hgd⟩
  · refine ⟨⟨fun x hx => (by cases hx), by decide, by decide, by decide, .inl ⟨rfl, rfl, rfl, rfl, rfl⟩⟩, fun x hx => (by cases hx)⟩
  · obtain ⟨x, hx, hx2⟩ := wP F (by omega) hg (dsc f a b)
    rw [hgd] at hx; injection hx with hx
    refine ⟨(hx2 hx.symm).1, fun y hy => ?_⟩
    unfold dsc tab at hy
    obtain ⟨i, hi, rfl⟩ := List.mem_map.1 hy
    have hi := List.mem_range.1 hi
    exact hr (9 + 2 * i) (by omega)
structure JK (F : Nat) (w : Nat → Int) (N : Nat) (p : iJ) (g : bg) (D : Nat → bC) : Prop where
  gg : GG g
  n : N = N1 g
  was : p.mO = tab g.ak.toNat D
  desc : ∀ v, v < g.ak.toNat → qM F g (seg w v) (D v)
  img : jU F (tab N (oZ (o8 D g.ak.toNat) w)) = some (p.xs, 0)
  geo : p.xs.bH = g
  D6 : 1 ≤ p.lQ ∧ p.lQ ≤ 4611686018427387904
  find : ∃ x, jv F (tab N (oZ (o8 D g.ak.toNat) w)) = some x ∧ x.1.bH = g ∧ (!x.2.1 && !x.2.2) = false
theorem LW (g : bg) {v : Nat} (hv : v < g.ak.toNat) : 16 + 1208 * v + 1208 ≤ A1 g := by unfold A1; omega
theorem AC (g : bg) : A1 g ≤ B1 g ∧ B1 g ≤ C1 g ∧ N1 g = C1 g + 8 := ⟨by unfold B1; omega, by unfold C1; omega, rfl⟩
theorem Ot {F : Nat} (hF : 2000 ≤ F) {g : bg} (hg : GG g) {w : Nat → Int} (hu : ∀ i, i < N1 g → u64 (w i)) {D : Nat → bC} {n : Nat} (hD : ∀ i, i < n → DG g (D i) ∧ ∀ x ∈ (D i).xW, u64 x.xV) :
    (∀ i, i < A1 g ∨ C1 g ≤ i → oZ (o8 D n) w i = w i) ∧ ∀ i, i < N1 g → u64 (oZ (o8 D n) w i) := by
  have key : ∀ ws ∈ o8 D n, ∀ x ∈ ws, (A1 g : Int) ≤ x.xAt ∧ x.xAt < (C1 g : Int) ∧ u64 x.xV := by
    intro ws hws x hx
    obtain ⟨i, hi, rfl⟩ := E8 hws
    obtain ⟨h1, h2⟩ := hD i hi
    exact ⟨(h1.w x hx).1, (h1.w x hx).2, h2 x hx⟩
  refine ⟨fun i hi => Xu fun ws hws x hx => ?_, fun i hi => ?_⟩
  · have := key ws hws x hx
    omega
  · have := hu i hi
    revert key this
    generalize o8 D n = l
    clear hu hD
    induction l generalizing w with
    | nil => intro _ h; exact h
    | cons ws l ih => intro key h; exact ih (fun ws' h' => key ws' (List.mem_cons_of_mem _ h')) (abm (fun x hx => (key ws List.mem_cons_self x hx).2.2) h)
theorem find_congr (F : Nat) {N : Nat} {w w' : Nat → Int} (hN : 8 ≤ N) (h : ∀ i, i < 8 ∨ (N - 8 ≤ i ∧ i < N) → w i = w' i) : jv F (tab N w) = jv F (tab N w') := by
  have hl : (tab N w).length = N := aW _ _
  have hl' : (tab N w').length = N := aW _ _
  unfold jv
  rw [hl, hl']
  have c1 : ∀ w : Nat → Int, cut (tab N w) (0 : Int) (8 : Int) = tab 8 (fun i => w (0 + i)) := fun w => Gx (a := 0) w (by omega)
  have c2 : ∀ w : Nat → Int, cut (tab N w) ((N : Int) - 8) (N : Int) = tab 8 (fun i => w (N - 8 + i)) := fun w => by
    have := Gx (a := N - 8) w (N := N) (by omega)
    rw [show ((N - 8 : Nat) : Int) = (N : Int) - 8 by omega, show ((N - 8 + 8 : Nat) : Int) = (N : Int) by omega] at this
    exact this
  rw [c1, c1, c2, c2, gU (fun i hi => h (0 + i) (.inl (by omega))), gU (fun i hi => h (N - 8 + i) (.inr (by omega)))]
end Go.V.P
set_option linter.unusedVariables false
set_option linter.unusedSimpArgs false
namespace Go.V.P
open Go.V Go.Proofs
def ZV : iJ := ⟨⟨⟨0, 0, 0⟩, [], []⟩, [], 0, false⟩
noncomputable def dAt (F : Nat) (g : bg) (w : Nat → Int) (v : Nat) : bC := match lu F g (tab 1208 (seg w v)) with
  | some (d, _) => d
  | none => D0
theorem Xv {F : Nat} {g : bg} {w : Nat → Int} {v : Nat} {d : bC} {b : Bool} (h : lu F g (tab 1208 (seg w v)) = some (d, b)) : dAt F g w v = d := by
  unfold dAt; rw [h]
theorem Nk (F : Nat) (hF : 2000 ≤ F) {g : bg} (hg : GG g) {w : Nat → Int} (hu : ∀ i, i < N1 g → u64 (w i)) {x : dQ × Bool × Bool} (hx : x.1.bH = g) (Q : iJ × Bool → Prop) (k : List Int → Int → List bC → Option (iJ × Bool))
    (hbad : ∀ v d, v < g.ak.toNat → lu F g (tab 1208 (seg w v)) = some (d, false) → Q (ZV, false))
    (hk : (∀ v, v < g.ak.toNat → qM F g (seg w v) (dAt F g w v)) → Tot (k (tab (N1 g) (oZ (o8 (dAt F g w) g.ak.toNat) w)) ((o8 (dAt F g w) g.ak.toNat).length : Nat) (tab g.ak.toNat (dAt F g w))) Q) :
    Tot (jh F x k F (tab (N1 g) w) (0 : Int) (0 : Int) []) Q := by
  have t1 := hg.t1; have t2 := hg.t2; have c8 := C8 hg
  obtain ⟨hAB, hBC, hN⟩ := AC g
  refine lD (σ := List Int × Int × List bC) (fun n v s => jh F x k n s.1 s.2.1 v s.2.2) g.ak.toNat (fun v s => s = (tab (N1 g) (oZ (o8 (dAt F g w) v) w), (((o8 (dAt F g w) v).length : Nat) : Int), tab v (dAt F g w)) ∧ ∀ i, i < v → qM F g (seg w i) (dAt F g w i)) (fun n v s hv hI hk2 => ?_) (fun n s hI => ?_) F 0 (tab (N1 g) w, (0 : Int), []) (by omega) (by omega) ⟨rfl, fun i h => by omega⟩
  · obtain ⟨rfl, hI⟩ := hI
    have zJ : ∀ i, i < v → DG g (dAt F g w i) ∧ ∀ y ∈ (dAt F g w i).xW, u64 y.xV := fun i hi => qM.facts hF hg (fun j hj => hu _ (by have := LW g (v := i) (by omega); omega)) (hI i hi)
    obtain ⟨ho, hu'⟩ := Ot hF hg hu zJ
    show Tot (jh F x k (n + 1) (tab (N1 g) (oZ (o8 (dAt F g w) v) w)) (((o8 (dAt F g w) v).length : Nat) : Int) (v : Int) (tab v (dAt F g w))) Q
    have hA := LW g hv
    have hl : (tab (N1 g) (oZ (o8 (dAt F g w) v) w)).length = N1 g := aW _ _
    have hlv : (tab v (dAt F g w)).length = v := aW _ _
    have hcl := vO (dAt F g w) v
    unfold jh
    rw [hx, decide_eq_true (by omega : (v : Int) < g.ak), ct]
    refine jr (qE F hg hv) (lC (dG ⟨by omega, by omega⟩ (dG ⟨by omega, by omega, by omega⟩ ?_)))
    have hcut : cut (tab (N1 g) (oZ (o8 (dAt F g w) v) w)) ((16 + 1208 * v : Nat) : Int) (((16 + 1208 * v : Nat) : Int) + 1208) = tab 1208 (seg w v) := by
      rw [show (((16 + 1208 * v : Nat) : Int) + 1208) = ((16 + 1208 * v + 1208 : Nat) : Int) by omega, yG (by omega) (by omega), show 16 + 1208 * v + 1208 - (16 + 1208 * v) = 1208 by omega]
      exact gU fun j hj => ho _ (.inl (by omega))
    dsimp only
    rw [hcut]
    obtain ⟨⟨d, b⟩, hd, hdk⟩ := Qh (f := seg w v) F hF hg (fun j hj => hu _ (by omega))
    refine jr hd ?_
    dsimp only
    refine iq (fun h => dB ?_) fun h => lC ?_
    · have hb : b = false := by simpa using h
      exact hbad v d hv (by rw [hd, hb])
    · have hb : b = true := by simpa using h
      subst hb
      have e := Xv hd
      have abo : qM F g (seg w v) (dAt F g w v) := by rw [e]; exact hdk rfl
      have hI' : ∀ i, i < v + 1 → qM F g (seg w i) (dAt F g w i) := fun i hi => by
        by_cases h : i < v
        · exact hI i h
        · obtain rfl : i = v := by omega
          exact abo
      obtain ⟨hDG, hV⟩ := qM.facts hF hg (fun j hj => hu _ (by omega)) abo
      have hs : o8 (dAt F g w) (v + 1) = if (dAt F g w v).bY = 2 then o8 (dAt F g w) v ++ [(dAt F g w v).xW] else o8 (dAt F g w) v := rfl
      show Tot (bif (d.bY == 2) then _ else _) Q
      rw [← e]
      refine iq (fun h2 => dG ⟨by omega, by omega⟩ ?_) fun h2 => ?_
      · have h2 : (dAt F g w v).bY = 2 := by simpa using h2
        rw [if_pos h2] at hs
        refine jr (abn F (by omega) (by have := hDG.len; omega) (by have := hDG.len; omega) (fun y hy => by have := hDG.w y hy; omega) _) (dG (by simp only [List.length_cons, List.length_nil]; omega) (dG ⟨by omega, by omega⟩ ?_))
        rw [cs]
        refine hk2 (_, _, _) ⟨?_, hI'⟩
        rw [hs, pF, yH, List.length_append]
        rfl
      · have h2 : (dAt F g w v).bY ≠ 2 := by simpa using h2
        rw [if_neg h2] at hs
        refine dG (by simp only [List.length_cons, List.length_nil]; omega) (dG ⟨by omega, by omega⟩ ?_)
        rw [cs]
        refine hk2 (_, _, _) ⟨?_, hI'⟩
        rw [hs, pF]
        rfl
  · obtain ⟨rfl, hI⟩ := hI
    show Tot (jh F x k (n + 1) _ _ ((g.ak.toNat : Nat) : Int) _) Q
    unfold jh
    rw [hx, decide_eq_false (by omega : ¬ ((g.ak.toNat : Nat) : Int) < g.ak), cf]
    exact hk hI
theorem Xw (F : Nat) (hF : 2000 ≤ F) {N : Nat} {w : Nat → Int} (hN : 8 ≤ N) (hN2 : N ≤ 40000) (hN8 : N % 8 = 0) (hu : ∀ i, i < N → u64 (w i)) : Tot (lM F (tab N w)) fun r => r.2 = true → ∃ g D, JK F w N r.1 g D := by
  have hl : (tab N w).length = N := aW _ _
  obtain ⟨x, hx, hok⟩ := JJ F (by omega) hN hN2 hN8 hu
  unfold lM
  refine jr hx (iq (fun _ => dB fun h => by cases h) fun hb => lC (dG ⟨by omega, by omega⟩ (dG ⟨by omega, by omega, by omega⟩ ?_)))
  obtain ⟨hg, hNg, hbt⟩ := hok (by cases h1 : x.2.1 <;> cases h2 : x.2.2 <;> simp_all)
  have c2 : cut (tab N w) (((tab N w).length : Nat) - 8 : Int) (((tab N w).length : Nat) : Int) = tab 8 (fun i => w (N - 8 + i)) := by
    have := Gx (a := N - 8) w (N := N) (by omega)
    rw [show ((N - 8 : Nat) : Int) = (N : Int) - 8 by omega, show ((N - 8 + 8 : Nat) : Int) = (N : Int) by omega] at this
    rw [hl]
    exact this
  rw [c2]
  refine jm (yN F (by omega) (aW _ _) (fun i hi => by rw [eX hi]; exact hu _ (by omega))) fun x100 YN => ?_
  have rest : ∀ v3 : Int, u64 v3 → Tot (bif (decide ((4611686018427387904 : Int) ≤ v3)) then some ((⟨(⟨(⟨(0 : Int), (0 : Int), (0 : Int)⟩ : bg), ([] : (List aY)), ([] : (List aJ))⟩ : aK), ([] : (List bC)), (0 : Int), false⟩ : iJ), false) else (jn (fun (v6 : (List Int)) (v7 : Int) (v8 : (List bC)) => (jU F v6).bind fun x10 => some ((⟨x10.1, v8, (IntKind.u64.wrap (v3 + (1 : Int))), x.2.1⟩ : iJ), ((decide (v7 ≤ (1 : Int))) && (x10.2 == (0 : Int))))) fun k9 => jh F x k9 F (tab N w) (0 : Int) (0 : Int) ([] : List bC)))
      fun r => r.2 = true → ∃ g D, JK F w N r.1 g D := by
    intro v3 hv3
    refine iq (fun _ => dB fun h => by cases h) fun hlt => lC ?_
    simp only [decide_eq_false_iff_not] at hlt
    have h3 := hv3.1
    subst hNg
    refine Nk F hF hg hu rfl _ _ (fun _ _ _ _ h => by cases h) fun hD => ?_
    have zJ : ∀ i, i < x.1.bH.ak.toNat → DG x.1.bH (dAt F x.1.bH w i) ∧ ∀ y ∈ (dAt F x.1.bH w i).xW, u64 y.xV := fun i hi => qM.facts hF hg (fun j hj => hu _ (by have := LW x.1.bH hi; obtain ⟨a1, a2, a3⟩ := AC x.1.bH; omega)) (hD i hi)
    obtain ⟨ho, hu'⟩ := Ot hF hg hu zJ
    obtain ⟨a1, a2, a3⟩ := AC x.1.bH
    have hfind : jv F (tab (N1 x.1.bH) (oZ (o8 (dAt F x.1.bH w) x.1.bH.ak.toNat) w)) = some x := by
      rw [← hx]
      exact find_congr F hN fun i hi => ho i (by have : 16 ≤ A1 x.1.bH := by (unfold A1; omega)
                                                 omega)
    obtain ⟨x10, e10, h10⟩ := LV F (by omega) hg hu' rfl hb hfind
    refine jr e10 (dB fun h => ?_)
    simp only [Bool.and_eq_true, decide_eq_true_eq, beq_iff_eq] at h
    refine ⟨x.1.bH, dAt F x.1.bH w, hg, rfl, rfl, hD, ?_, h10.2 h.2, ⟨?_, ?_⟩, x, hfind, rfl, hb⟩
    · rw [e10]; obtain ⟨y1, y2⟩ := x10; rw [show y2 = 0 from h.2]
    · show 1 ≤ IntKind.u64.wrap (v3 + 1)
      rw [IntKind.wrap_u64]; omega
    · show IntKind.u64.wrap (v3 + 1) ≤ _
      rw [IntKind.wrap_u64]; omega
  refine iq (fun h => ?_) fun _ => rest _ hbt
  rw [Jp, ob, CQ, ob]
  simp only [Bool.and_eq_true] at h
  refine rest _ ?_
  have := (YN h.1).2.2
  unfold mx
  split
  · exact this
  · exact hbt
end Go.V.P
set_option linter.unusedVariables false
set_option linter.unusedSimpArgs false
namespace Go.V.P
open Go.V Go.Proofs
def fw (d : bC) : Int := ((d.bY.toNat + d.dh.lW.toNat * 256 + d.xW.length * 65536 + d.lF.toNat * 4294967296 : Nat) : Int)
def mkL (D : Nat → bC) : Nat → List aA
  | 0 => []
  | v + 1 => (if (D v).bY = 1 then mkL D v ++ [⟨((16 + 1208 * v : Nat) : Int) + 5, 0⟩, ⟨((16 + 1208 * v : Nat) : Int) + 6, 0⟩] else mkL D v) ++ [⟨((16 + 1208 * v : Nat) : Int), fw (um (D v))⟩]
theorem D7 (D : Nat → bC) : ∀ v, (mkL D v).length ≤ 3 * v
  | 0 => Nat.le_refl _
  | v + 1 => by
    have := D7 D v
    unfold mkL
    split <;> simp only [List.length_append, List.length_cons, List.length_nil] <;> omega
theorem JL (D : Nat → bC) : ∀ {v : Nat} {x : aA}, x ∈ mkL D v → ∃ i j, i < v ∧ j < 7 ∧ x.xAt = ((16 + 1208 * i + j : Nat) : Int)
  | 0, x, h => by cases h
  | v + 1, x, h => by
    unfold mkL at h
    rcases List.mem_append.1 h with h | h
    · split at h
      · rcases List.mem_append.1 h with h | h
        · obtain ⟨i, j, h1, h2, h3⟩ := JL D h; exact ⟨i, j, by omega, h2, h3⟩
        · simp only [List.mem_cons, List.not_mem_nil, or_false] at h
          rcases h with rfl | rfl
          · exact ⟨v, 5, by omega, by omega, by show ((16 + 1208 * v : Nat) : Int) + 5 = _; omega⟩
          · exact ⟨v, 6, by omega, by omega, by show ((16 + 1208 * v : Nat) : Int) + 6 = _; omega⟩
      · obtain ⟨i, j, h1, h2, h3⟩ := JL D h; exact ⟨i, j, by omega, h2, h3⟩
    · rw [List.mem_singleton] at h
      subst h
      exact ⟨v, 0, by omega, by omega, rfl⟩
def mkW (d : bC) (j : Nat) (x : Int) : Int := if j = 0 then fw (um d) else if d.bY = 1 ∧ (j = 5 ∨ j = 6) then 0 else x
theorem Ou (D : Nat → bC) (w : Nat → Int) : ∀ (n v j : Nat), j < 1208 → app (mkL D n) w (16 + 1208 * v + j) = if v < n then mkW (D v) j (w (16 + 1208 * v + j)) else w (16 + 1208 * v + j)
  | 0, v, j, hj => by rw [if_neg (by omega)]; rfl
  | n + 1, v, j, hj => by
    unfold mkL
    rw [Qj]
    show (if 16 + 1208 * v + j = (((16 + 1208 * n : Nat) : Int)).toNat then _ else _) = _
    have e5 : (((16 + 1208 * n : Nat) : Int) + 5).toNat = 16 + 1208 * n + 5 := by omega
    have e6 : (((16 + 1208 * n : Nat) : Int) + 6).toNat = 16 + 1208 * n + 6 := by omega
    have ih := Ou D w n v j hj
    rw [Int.toNat_natCast]
    by_cases hv : v = n
    · subst hv
      rw [if_neg (by omega)] at ih
      rw [if_pos (show v < v + 1 by omega)]
      unfold mkW
      by_cases h0 : j = 0
      · rw [if_pos (by omega), if_pos h0]
      · rw [if_neg (by omega), if_neg h0]
        by_cases h1 : (D v).bY = 1
        · rw [if_pos h1, xG]
          show (if 16 + 1208 * v + j = (((16 + 1208 * v : Nat) : Int) + 6).toNat then (0 : Int) else if 16 + 1208 * v + j = (((16 + 1208 * v : Nat) : Int) + 5).toNat then (0 : Int) else app (mkL D v) w (16 + 1208 * v + j)) = _
          rw [e5, e6]
          by_cases h6 : j = 6
          · rw [if_pos (by omega), if_pos ⟨h1, .inr h6⟩]
          · rw [if_neg (by omega)]
            by_cases h5 : j = 5
            · rw [if_pos (by omega), if_pos ⟨h1, .inl h5⟩]
            · rw [if_neg (by omega), if_neg (by omega), ih]
        · rw [if_neg h1, if_neg (by omega), ih]
    · rw [if_neg (by omega)]
      have e : app (if (D n).bY = 1 then mkL D n ++ [⟨((16 + 1208 * n : Nat) : Int) + 5, 0⟩, ⟨((16 + 1208 * n : Nat) : Int) + 6, 0⟩] else mkL D n) w (16 + 1208 * v + j) = app (mkL D n) w (16 + 1208 * v + j) := by
        split
        · rw [xG]
          show (if 16 + 1208 * v + j = (((16 + 1208 * n : Nat) : Int) + 6).toNat then (0 : Int) else if 16 + 1208 * v + j = (((16 + 1208 * n : Nat) : Int) + 5).toNat then (0 : Int) else app (mkL D n) w (16 + 1208 * v + j)) = _
          rw [e5, e6, if_neg (by omega), if_neg (by omega)]
        · rfl
      rw [e, ih]
      by_cases h : v < n
      · rw [if_pos h, if_pos (by omega)]
      · rw [if_neg h, if_neg (by omega)]
noncomputable def stp (g : bg) (D : Nat → bC) (b : Int) (first : Bool) : List (List aA) :=
  o8 D g.ak.toNat ++ [mkL D g.ak.toNat, [⟨8, 0⟩]] ++ bif first then [blk g b (C1 g), blk g b 0] else [blk g b 0, blk g b (C1 g)]
theorem Xx (F : Nat) (hF : 100 ≤ F) {g : bg} (hg : GG g) {p : iJ} {D : Nat → bC} (hp : p.xs.bH = g) (hw : p.mO = tab g.ak.toNat D) (hD : ∀ v, v < g.ak.toNat → DG g (D v)) (k : List aA → List (List aA) → Option (List (List aA))) (Q : List (List aA) → Prop) (n v : Nat) (hv : v < g.ak.toNat)
    (hk : Tot (iE F p k n ((v + 1 : Nat) : Int) (mkL D (v + 1)) (o8 D (v + 1))) Q) : Tot (iE F p k (n + 1) (v : Int) (mkL D v) (o8 D v)) Q := by
  have t1 := hg.t1; have t2 := hg.t2; have c8 := C8 hg
  have hwl : p.mO.length = g.ak.toNat := by rw [hw]; exact aW _ _
  have hcv := vO D v
  have hmv := D7 D v
  have hn : nth p.mO (v : Int) = D v := by rw [hw, eX hv]
  have hcs : o8 D (v + 1) = if (D v).bY = 2 then o8 D v ++ [(D v).xW] else o8 D v := rfl
  have hms : mkL D (v + 1) = (if (D v).bY = 1 then mkL D v ++ [⟨((16 + 1208 * v : Nat) : Int) + 5, 0⟩, ⟨((16 + 1208 * v : Nat) : Int) + 6, 0⟩] else mkL D v) ++ [⟨((16 + 1208 * v : Nat) : Int), fw (um (D v))⟩] := rfl
  unfold iE
  rw [hwl, dlt hv, ct, hp, hn]
  refine dG ⟨by omega, by omega⟩ (jr (qE F hg hv) (lC ?_))
  have k62 : ∀ out, out = o8 D (v + 1) → Tot (jn (fun (v63 : List aA) => (pY F (D v)).bind fun x65 => (lN F x65).bind fun x66 => gd ((v63.length + ([(⟨((16 + 1208 * v : Nat) : Int), x66⟩ : aA)] : List aA).length) * 16 ≤ 140737488355328) (gd (inI ((v : Int) + (1 : Int))) (iE F p k n ((v : Int) + (1 : Int)) (v63 ++ ([(⟨((16 + 1208 * v : Nat) : Int), x66⟩ : aA)] : List aA)) out)))
      fun k64 => (bif ((D v).bY == (1 : Int)) then gd (inI (((16 + 1208 * v : Nat) : Int) + (5 : Int))) (gd (inI (((16 + 1208 * v : Nat) : Int) + (6 : Int))) (gd (((mkL D v).length + ([(⟨(((16 + 1208 * v : Nat) : Int) + (5 : Int)), (0 : Int)⟩ : aA), (⟨(((16 + 1208 * v : Nat) : Int) + (6 : Int)), (0 : Int)⟩ : aA)] : List aA).length) * 16 ≤ 140737488355328) (k64 (mkL D v ++ ([(⟨(((16 + 1208 * v : Nat) : Int) + (5 : Int)), (0 : Int)⟩ : aA), (⟨(((16 + 1208 * v : Nat) : Int) + (6 : Int)), (0 : Int)⟩ : aA)] : List aA))))) else k64 (mkL D v))) Q := by
    intro out ho
    refine lC ?_
    have k64 : ∀ m : List aA, m.length ≤ 100 → m ++ [⟨((16 + 1208 * v : Nat) : Int), fw (um (D v))⟩] = mkL D (v + 1) → Tot ((pY F (D v)).bind fun x65 => (lN F x65).bind fun x66 => gd ((m.length + ([(⟨((16 + 1208 * v : Nat) : Int), x66⟩ : aA)] : List aA).length) * 16 ≤ 140737488355328) (gd (inI ((v : Int) + (1 : Int))) (iE F p k n ((v : Int) + (1 : Int)) (m ++ ([(⟨((16 + 1208 * v : Nat) : Int), x66⟩ : aA)] : List aA)) out))) Q := by
      intro m hm1 hm2
      refine jr (then_eq F _) (jr (Vf F (by omega) (Ol (hD v hv))) (dG (by simp only [List.length_cons, List.length_nil]; omega) (dG ⟨by omega, by omega⟩ ?_)))
      rw [cs]
      rw [← hm2, ← ho] at hk
      exact hk
    refine iq (fun h => dG ⟨by omega, by omega⟩ (dG ⟨by omega, by omega⟩ (dG (by simp only [List.length_cons, List.length_nil]; omega) ?_))) fun h => ?_
    · have h1 : (D v).bY = 1 := by simpa using h
      exact k64 _ (by simp only [List.length_append, List.length_cons, List.length_nil]; omega) (by rw [hms, if_pos h1])
    · have h1 : (D v).bY ≠ 1 := by simpa using h
      exact k64 _ (by omega) (by rw [hms, if_neg h1])
  refine iq (fun h => dG (by simp only [List.length_cons, List.length_nil]; omega) ?_) fun h => ?_
  · have h2 : (D v).bY = 2 := by simpa using h
    exact k62 _ (by rw [hcs, if_pos h2])
  · have h2 : (D v).bY ≠ 2 := by simpa using h
    exact k62 _ (by rw [hcs, if_neg h2])
theorem ZW (F : Nat) (hF : 100 ≤ F) {g : bg} (hg : GG g) {p : iJ} {D : Nat → bC} (hp : p.xs.bH = g) (hw : p.mO = tab g.ak.toNat D) (hD : ∀ v, v < g.ak.toNat → DG g (D v)) : oK F p = some (stp g D p.lQ p.mZ) := by
  have t1 := hg.t1; have t2 := hg.t2; have c8 := C8 hg
  have hcl := vO D g.ak.toNat
  have hwl : p.mO.length = g.ak.toNat := by rw [hw]; exact aW _ _
  have : Tot (oK F p) fun r => r = stp g D p.lQ p.mZ := by
    unfold oK
    refine lC ?_
    refine lD (σ := List aA × List (List aA)) (fun n v s => iE F p _ n v s.1 s.2) g.ak.toNat (fun v s => s = (mkL D v, o8 D v)) (fun n v s hv hI hk => ?_) (fun n s hI => ?_) F 0 ([], []) (by omega) (by omega) rfl
    · obtain rfl := hI
      exact Xx F hF hg hp hw hD _ _ n v hv (hk _ rfl)
    · obtain rfl := hI
      show Tot (iE F p _ (n + 1) _ (mkL D g.ak.toNat) (o8 D g.ak.toNat)) _
      unfold iE
      rw [hwl, dge, cf, hp]
      have hp' : p = ⟨p.xs, p.mO, p.lQ, p.mZ⟩ := rfl
      have hb0 : kW F p 0 = some (blk g p.lQ 0) := by rw [hp']; exact EZ F (by omega) hg _ hp _ _ _ 0 (by omega)
      have hbC : kW F p ((C1 g : Nat) : Int) = some (blk g p.lQ (C1 g)) := by rw [hp']; exact EZ F (by omega) hg _ hp _ _ _ _ (by omega)
      refine jr (EU F hg) (dG (by decide) (dG (by decide) (dG (by simp only [List.length_cons, List.length_nil]; omega) ?_)))
      refine iq (fun h => jr (xC F hg) (jr hbC (jr hb0 (dG (by simp only [List.length_append, List.length_cons, List.length_nil]; omega) (dB ?_))))) fun h => jr hb0 (jr (xC F hg) (jr hbC (dG (by simp only [List.length_append, List.length_cons, List.length_nil]; omega) (dB ?_))))
      · unfold stp; rw [h]; rfl
      · unfold stp; rw [h]; rfl
  obtain ⟨r, h1, h2⟩ := this
  rw [h1, h2]
end Go.V.P
set_option linter.unusedVariables false
set_option linter.unusedSimpArgs false
namespace Go.V.P
open Go.V Go.Proofs
noncomputable def D8 (g : bg) (b : Int) (i : Nat) : Int := (sup ⟨g, b⟩).getD i 0
theorem vP (x : Int) : u64 (IntKind.u64.wrap x) := by rw [IntKind.wrap_u64]; exact ⟨by omega, by omega⟩
theorem Sv (g : bg) {b : Int} (hb : u64 b) (i : Nat) : u64 (D8 g b i) := by
  unfold D8 sup
  have hw : ∀ z, u64 (word2 z) := fun z => vP _
  have h0 : u64 0 := ⟨by omega, by omega⟩
  match i with
  | 0 => exact (⟨by decide, by decide⟩ : u64 8243106252149764145)
  | 1 => exact vP _
  | 2 => exact vP _
  | 3 => exact vP _
  | 4 => exact hb
  | 5 => exact h0
  | 6 => exact h0
  | 7 => exact hw _
  | i + 8 => exact h0
section
variable {g : bg} {D : Nat → bC} {b : Int} {first : Bool} {w : Nat → Int}
theorem Gz (hg : GG g) (i : Nat) : oZ (stp g D b first) w i = if i < 8 then D8 g b i else if i < C1 g then (if i = 8 then 0 else app (mkL D g.ak.toNat) (oZ (o8 D g.ak.toNat) w) i) else if i < C1 g + 8 then D8 g b (i - C1 g) else app (mkL D g.ak.toNat) (oZ (o8 D g.ak.toNat) w) i := by
  have c8 := C8 hg
  have hb : ∀ (a : Nat) (u : Nat → Int), app (blk g b a) u i = if a ≤ i ∧ i < a + 8 then D8 g b (i - a) else u i := fun a u => Jq a _ u i 8
  unfold stp
  rw [yH, yH]
  generalize hu : oZ [mkL D g.ak.toNat, [(⟨8, 0⟩ : aA)]] (oZ (o8 D g.ak.toNat) w) = u
  have hui : u i = if i = 8 then 0 else app (mkL D g.ak.toNat) (oZ (o8 D g.ak.toNat) w) i := by rw [← hu]; rfl
  have e : oZ (bif first then [blk g b (C1 g), blk g b 0] else [blk g b 0, blk g b (C1 g)]) u i = if i < 8 then D8 g b i else if i < C1 g then u i else if i < C1 g + 8 then D8 g b (i - C1 g) else u i := by
    cases first
    · show app (blk g b (C1 g)) (app (blk g b 0) u) i = _
      rw [hb, hb]
      by_cases h1 : i < 8
      · rw [if_neg (by omega), if_pos (by omega), if_pos h1]; rfl
      · rw [if_neg h1]
        by_cases h2 : i < C1 g
        · rw [if_neg (by omega), if_neg (by omega), if_pos h2]
        · rw [if_neg h2]
          by_cases h3 : i < C1 g + 8
          · rw [if_pos (by omega), if_pos h3]
          · rw [if_neg (by omega), if_neg (by omega), if_neg h3]
    · show app (blk g b 0) (app (blk g b (C1 g)) u) i = _
      rw [hb, hb]
      by_cases h1 : i < 8
      · rw [if_pos (by omega), if_pos h1]; rfl
      · rw [if_neg (by omega), if_neg h1]
        by_cases h2 : i < C1 g
        · rw [if_neg (by omega), if_pos h2]
        · rw [if_neg h2]
          by_cases h3 : i < C1 g + 8
          · rw [if_pos (by omega), if_pos h3]
          · rw [if_neg (by omega), if_neg h3]
  rw [e, hui]
  by_cases h1 : i < 8
  · rw [if_pos h1, if_pos h1]
  · rw [if_neg h1, if_neg h1]
    by_cases h2 : i < C1 g
    · rw [if_pos h2, if_pos h2]
    · rw [if_neg h2, if_neg h2, if_neg (by omega : ¬ i = 8)]
end
theorem acE {g : bg} {d : bC} (h : DG g d) : u64 (fw d) := by
  obtain ⟨h1, h2, h3, h4, h5⟩ := h
  unfold fw u64
  rcases h5 with ⟨e1, e2, e3, e4, e5⟩ | ⟨e1, e2, e3, e4, e5⟩ | ⟨e1, e4, e5⟩ <;> omega
theorem Vg {F : Nat} (hF : 2000 ≤ F) {g : bg} (hg : GG g) {f f' : Nat → Int} {d : bC} (hu : ∀ j, j < 1208 → u64 (f j)) (h : qM F g f d) (hm : ∀ j, j < 1208 → f' j = mkW d j (f j)) : qM F g f' (um d) := by
  obtain ⟨hDG, _⟩ := qM.facts hF hg hu h
  have f0 : f' 0 = fw (um d) := hm 0 (by omega)
  have hsame : ∀ j, j < 1208 → j ≠ 0 → (d.bY ≠ 1 ∨ (j ≠ 5 ∧ j ≠ 6)) → f' j = f j := by
    intro j hj h0 h1
    rw [hm j hj]
    unfold mkW
    rw [if_neg h0, if_neg (by omega)]
  have f7 : f' 7 = f 7 := hsame 7 (by omega) (by omega) (.inr (by omega))
  rcases h with ⟨h0, h7, rfl⟩ | ⟨h0, hN, hI, h7, a, b, rfl, h1, h2, hgd⟩
  · exact .inl ⟨f0, by rw [f7, h7], rfl⟩
  · have u0 := hu 0 (by omega)
    have hst := hDG.st
    obtain ⟨x, hx, hx2⟩ := wP F (by omega) hg (dsc f a b)
    rw [hgd] at hx; injection hx with hx
    obtain ⟨_, hws⟩ := hx2 hx.symm
    have hW : (dsc f a b).xW.length = (f 0).toNat / 65536 % 65536 := aW _ _
    have es : (dsc f a b).bY = (((f 0).toNat % 256 : Nat) : Int) := rfl
    have eq : (dsc f a b).lF = (((f 0).toNat / 4294967296 : Nat) : Int) := rfl
    have ee : (dsc f a b).dh.lW = (((f 0).toNat / 256 % 256 : Nat) : Int) := rfl
    have hs4 : (f 0).toNat % 256 = 1 ∨ (f 0).toNat % 256 = 2 ∨ (f 0).toNat % 256 = 3 ∨ (f 0).toNat % 256 = 4 := by
      rcases hst with ⟨e1, e2, e3, e4, e5⟩ | ⟨e1, e2, e3, e4, e5⟩ | ⟨e1, e4, e5⟩
      · exfalso
        rw [es] at e1; rw [eq] at e4
        have e6 : (((f 0).toNat / 256 % 256 : Nat) : Int) = 0 := by rw [← ee, e2]
        have e7 : (f 0).toNat / 65536 % 65536 = 0 := by rw [← hW, e3]; rfl
        have := u0.1; have := u0.2
        apply h0
        omega
      · rw [es] at e1; omega
      · rw [es] at e1; omega
    generalize hst' : (um (dsc f a b)).bY.toNat = st'
    have hst2 : (um (dsc f a b)).bY = (st' : Int) ∧ (st' = 3 ∨ st' = 4) := by
      unfold um at hst' ⊢
      dsimp only at hst' ⊢
      rw [es] at hst' ⊢
      rcases hs4 with h | h | h | h <;> rw [h] at hst' ⊢ <;> simp at hst' <;> subst hst' <;> simp
    have hf0 : f' 0 = ((st' + (f 0).toNat / 256 % 256 * 256 + (f 0).toNat / 65536 % 65536 * 65536 + (f 0).toNat / 4294967296 * 4294967296 : Nat) : Int) := by
      rw [f0]
      unfold fw
      rw [hst']
      show ((st' + (dsc f a b).dh.lW.toNat * 256 + (dsc f a b).xW.length * 65536 + (dsc f a b).lF.toNat * 4294967296 : Nat) : Int) = _
      rw [hW, ee, eq, Int.toNat_natCast, Int.toNat_natCast]
    have hn : (f' 0).toNat = st' + (f 0).toNat / 256 % 256 * 256 + (f 0).toNat / 65536 % 65536 * 65536 + (f 0).toNat / 4294967296 * 4294967296 := by rw [hf0, Int.toNat_natCast]
    have n1 : (f' 0).toNat % 256 = st' := by omega
    have n2 : (f' 0).toNat / 256 % 256 = (f 0).toNat / 256 % 256 := by omega
    have n3 : (f' 0).toNat / 65536 % 65536 = (f 0).toNat / 65536 % 65536 := by omega
    have n4 : (f' 0).toNat / 4294967296 = (f 0).toNat / 4294967296 := by omega
    have hbig : ∀ j, 8 ≤ j → j < 1208 → f' j = f j := fun j h8 hj => hsame j hj (by omega) (.inr (by omega))
    have hlow : ∀ j, 1 ≤ j → j < 5 → f' j = f j := fun j h8 hj => hsame j (by omega) (by omega) (.inr (by omega))
    have h56 : a = f' 5 ∧ b = f' 6 ∧ f' 6 ≤ 2147483647 := by
      by_cases hs1 : (f 0).toNat % 256 = 1
      · have hs1' : (dsc f a b).bY = 1 := by rw [es, hs1]; rfl
        have e5 : f' 5 = 0 := by rw [hm 5 (by omega)]; unfold mkW; rw [if_neg (by omega), if_pos ⟨hs1', .inl rfl⟩]
        have e6 : f' 6 = 0 := by rw [hm 6 (by omega)]; unfold mkW; rw [if_neg (by omega), if_pos ⟨hs1', .inr rfl⟩]
        have := h2 hs1
        omega
      · have hs1' : (dsc f a b).bY ≠ 1 := by rw [es]; omega
        have e5 : f' 5 = f 5 := hsame 5 (by omega) (by omega) (.inl hs1')
        have e6 : f' 6 = f 6 := hsame 6 (by omega) (by omega) (.inl hs1')
        have := h1 hs1
        omega
    refine .inr ⟨by rw [hf0]; omega, by rw [n3]; exact hN, fun i hi => by rw [hbig _ (by omega) (by omega)]; exact hI i (by omega), by rw [f7, h7], a, b, ?_, fun _ => h56, fun h => by omega, ?_⟩
    · unfold dsc
      rw [n1, n2, n3, n4, hlow 1 (by omega) (by omega), hlow 2 (by omega) (by omega), hlow 3 (by omega) (by omega), hlow 4 (by omega) (by omega), ← hst2.1]
      have ew : tab ((f 0).toNat / 65536 % 65536) (dW f') = tab ((f 0).toNat / 65536 % 65536) (dW f) := gU fun i hi => by
        unfold dW
        rw [hbig (8 + 2 * i) (by omega) (by omega), hbig (9 + 2 * i) (by omega) (by omega)]
      rw [ew]
      rfl
    · exact Qg F hws (Ol hDG)
end Go.V.P
set_option linter.unusedVariables false
set_option linter.unusedSimpArgs false
namespace Go.V.P
open Go.V Go.Proofs
structure Ready (F : Nat) (g : bg) (w : Nat → Int) (b : Int) : Prop where
  gg : GG g
  u : ∀ i, i < N1 g → u64 (w i)
  s1 : ∀ i, i < 8 → w i = D8 g b i
  s2 : ∀ i, i < 8 → w (C1 g + i) = D8 g b i
  lock : w 8 = 0
  desc : ∃ D : Nat → bC, ∀ v, v < g.ak.toNat → qM F g (seg w v) (D v) ∧ (D v).bY ≠ 1 ∧ (D v).bY ≠ 2 ∧ w (16 + 1208 * v) = fw (D v)
  img : ∃ s, s.bH = g ∧ jU F (tab (N1 g) w) = some (s, 0)
  bnd : 1 ≤ b ∧ b ≤ 4611686018427387904
theorem Xy {g : bg} (hg : GG g) (b : Int) (i : Nat) : (i < 8 → wf g 1 b i = D8 g b i) ∧ wf g 1 b (C1 g + i) = D8 g b i := by
  have hA : 16 ≤ A1 g := by unfold A1; omega
  obtain ⟨hAB, hBC, hN⟩ := AC g
  refine ⟨fun h => by unfold wf; rw [if_pos h]; rfl, ?_⟩
  unfold wf
  rw [if_neg (by omega), if_neg (by omega), if_neg (by omega), if_neg (by omega), show C1 g + i - C1 g = i by omega]
  rfl
theorem Qk (F : Nat) (hF : 20 ≤ F) {g : bg} (hg : GG g) {w : Nat → Int} {b : Int} (h1 : ∀ i, i < 8 → w i = D8 g b i) (h2 : ∀ i, i < 8 → w (C1 g + i) = D8 g b i) : jv F (tab (N1 g) w) = some (⟨g, b⟩, true, true) := by
  obtain ⟨hAB, hBC, hN⟩ := AC g
  have hfind := DY F hF hg 1 b
  unfold P1 at hfind
  rw [← hfind]
  refine find_congr F (by omega) fun i hi => ?_
  rcases hi with hi | hi
  · rw [h1 i hi, (Xy hg b i).1 hi]
  · obtain ⟨j, rfl⟩ : ∃ j, i = C1 g + j := ⟨i - C1 g, by omega⟩
    rw [h2 j (by omega), (Xy hg b j).2]
theorem YO {d : bC} (h1 : d.bY ≠ 1) (h2 : d.bY ≠ 2) : um d = d := by
  unfold um; rw [if_neg h2, if_neg h1]
theorem Vh (F : Nat) (hF : 6000 ≤ F) {g : bg} {w : Nat → Int} {b : Int} (h : Ready F g w b) {M : aO} {c : Nat} (hM : Mem M (N1 g / 8) w c) : ∃ G, oV F M = some (some G, 0) := by
  have hg := h.gg
  have t1 := hg.t1; have t2 := hg.t2; have c8 := C8 hg
  obtain ⟨hAB, hBC, hN⟩ := AC g
  have hA : 16 ≤ A1 g := by unfold A1; omega
  have hl : (tab (N1 g) w).length = N1 g := aW _ _
  have rO : fM F M = some (tab (N1 g) w) := by
    rw [vH F hM (by omega) (by omega), show 8 * (N1 g / 8) = N1 g by omega]
  obtain ⟨s, hs, YP⟩ := h.img
  obtain ⟨D, hD⟩ := h.desc
  have : Tot (oV F M) fun r => ∃ G, r = (some G, 0) := by
    unfold oV kT
    rw [hM.off, ob, cf]
    refine jr rO (jr YP ?_)
    dsimp only
    rw [hs, show ((0 : Int) != 0) = false from rfl, fff, lzt]
    have n8 : nth (tab (N1 g) w) 8 = 0 := by
      rw [show (8 : Int) = ((8 : Nat) : Int) from rfl, eX (by omega), h.lock]
    refine jr (EU F hg) (dG (fun _ => ⟨by decide, by rw [hl]; omega⟩) ?_)
    rw [n8, show (false || ((0 : Int) != 0)) = false from rfl, cf]
    refine lC ?_
    refine wo (fun n v => jY F (tab (N1 g) w) (s, 0) _ n v) g.ak.toNat (fun _ => True) (fun n v hv _ hk => ?_) (fun n _ => ?_) F 0 (by omega) (by omega) trivial
    · show Tot (jY F (tab (N1 g) w) (s, 0) _ (n + 1) v) _
      have hsg := LW g hv
      obtain ⟨hd, hn1, hn2, _⟩ := hD v hv
      unfold jY
      dsimp only
      rw [hs, decide_eq_true (by omega : (v : Int) < g.ak), ct]
      have hcut : cut (tab (N1 g) w) ((16 + 1208 * v : Nat) : Int) (((16 + 1208 * v : Nat) : Int) + 1208) = tab 1208 (seg w v) := by
        rw [show (((16 + 1208 * v : Nat) : Int) + 1208) = ((16 + 1208 * v + 1208 : Nat) : Int) by omega, yG (by omega) (by omega), show 16 + 1208 * v + 1208 - (16 + 1208 * v) = 1208 by omega]
        rfl
      refine jr (qE F hg hv) (lC (dG ⟨by omega, by omega⟩ (dG ⟨by omega, by omega, by omega⟩ ?_)))
      dsimp only
      rw [hcut]
      refine jr (D5 F (by omega) hg (fun j hj => h.u _ (by omega)) hd) ?_
      dsimp only
      rw [show ((D v).bY == 1) = false by simpa using hn1, show ((D v).bY == 2) = false by simpa using hn2, show ((!true || false) || false) = false from rfl, cf]
      refine dG ⟨by omega, by omega⟩ ?_
      rw [cs]
      exact hk trivial
    · show Tot (jY F (tab (N1 g) w) (s, 0) _ (n + 1) _) _
      unfold jY
      dsimp only
      rw [hs, decide_eq_false (by omega : ¬ ((g.ak.toNat : Nat) : Int) < g.ak), cf]
      exact dG ⟨by omega, by omega, by omega, by omega⟩ (dB ⟨_, rfl⟩)
  obtain ⟨r, h1, G, h2⟩ := this
  exact ⟨G, by rw [h1, h2]⟩
theorem Ql (F : Nat) (hF : 6000 ≤ F) {g : bg} {w : Nat → Int} {p : iJ} {D : Nat → bC} (hu : ∀ i, i < N1 g → u64 (w i)) (h : JK F w (N1 g) p g D) : Ready F g (oZ (stp g D p.lQ p.mZ) w) p.lQ := by
  have hg := h.gg
  have t1 := hg.t1; have t2 := hg.t2; have c8 := C8 hg
  obtain ⟨hAB, hBC, hN⟩ := AC g
  have hA : A1 g = 16 + 1208 * g.ak.toNat := rfl
  have zJ : ∀ i, i < g.ak.toNat → DG g (D i) ∧ ∀ y ∈ (D i).xW, u64 y.xV := fun i hi => qM.facts (by omega) hg (fun j hj => hu _ (by have := LW g hi; omega)) (h.desc i hi)
  obtain ⟨ho, hu'⟩ := Ot (F := F) (by omega) hg hu zJ
  have hbu : u64 p.lQ := ⟨by have := h.D6.1; omega, by have := h.D6.2; omega⟩
  have hseg : ∀ v j, v < g.ak.toNat → j < 1208 → oZ (stp g D p.lQ p.mZ) w (16 + 1208 * v + j) = mkW (D v) j (w (16 + 1208 * v + j)) := by
    intro v j hv hj
    have := LW g hv
    rw [Gz hg, if_neg (by omega), if_pos (by omega), if_neg (by omega), Ou D _ _ _ _ hj, if_pos hv, ho _ (.inl (by omega))]
  have hout : ∀ i, 8 < i → i < C1 g → (i < 16 ∨ A1 g ≤ i) → oZ (stp g D p.lQ p.mZ) w i = oZ (o8 D g.ak.toNat) w i := by
    intro i h1 h2 h3
    rw [Gz hg, if_neg (by omega), if_pos (by omega), if_neg (by omega)]
    refine Oq fun x hx => ?_
    obtain ⟨i', j, a1, a2, a3⟩ := JL D hx
    rw [a3, Int.toNat_natCast]
    omega
  have hs1 : ∀ i, i < 8 → oZ (stp g D p.lQ p.mZ) w i = D8 g p.lQ i := fun i hi => by rw [Gz hg, if_pos hi]
  have hs2 : ∀ i, i < 8 → oZ (stp g D p.lQ p.mZ) w (C1 g + i) = D8 g p.lQ i := fun i hi => by
    rw [Gz hg, if_neg (by omega), if_neg (by omega), if_pos (by omega), show C1 g + i - C1 g = i by omega]
  have h8 : oZ (stp g D p.lQ p.mZ) w 8 = 0 := by rw [Gz hg, if_neg (by omega), if_pos (by omega), if_pos rfl]
  have Zk : ∀ v, (um (D v)).bY ≠ 1 ∧ (um (D v)).bY ≠ 2 := by
    intro v
    unfold um
    dsimp only
    by_cases a : (D v).bY = 2
    · rw [if_pos a]; exact ⟨by decide, by decide⟩
    · rw [if_neg a]
      by_cases b : (D v).bY = 1
      · rw [if_pos b]; exact ⟨by decide, by decide⟩
      · rw [if_neg b]; exact ⟨b, a⟩
  refine ⟨hg, fun i hi => ?_, hs1, hs2, h8, ⟨fun v => um (D v), fun v hv => ⟨?_, (Zk v).1, (Zk v).2, ?_⟩⟩, ⟨p.xs, h.geo, ?_⟩, h.D6⟩
  · by_cases h1 : i < 8
    · rw [hs1 i h1]; exact Sv g hbu i
    · by_cases h2 : C1 g ≤ i
      · have := hs2 (i - C1 g) (by omega)
        rw [show C1 g + (i - C1 g) = i by omega] at this
        rw [this]; exact Sv g hbu _
      · by_cases h3 : i = 8
        · rw [h3, h8]; exact ⟨by omega, by omega⟩
        · by_cases h4 : i < 16 ∨ A1 g ≤ i
          · rw [hout i (by omega) (by omega) h4]; exact hu' i hi
          · obtain ⟨v, j, hv, hj, rfl⟩ : ∃ v j, v < g.ak.toNat ∧ j < 1208 ∧ i = 16 + 1208 * v + j := ⟨(i - 16) / 1208, (i - 16) % 1208, by omega, by omega, by omega⟩
            rw [hseg v j hv hj]
            unfold mkW
            split
            · exact acE (Ol (zJ v hv).1)
            · split
              · exact ⟨by omega, by omega⟩
              · exact hu _ hi
  · have := LW g hv
    exact Vg (f := seg w v) (by omega) hg (fun j hj => hu _ (by omega)) (h.desc v hv) fun j hj => hseg v j hv hj
  · have := hseg v 0 hv (by omega)
    exact this
  · obtain ⟨x, hx, hxg, hxb⟩ := h.find
    rw [← h.img]
    refine (image_congr F hg (aW _ _) (aW _ _) hxg rfl hxb (by rfl) hx (Qk F (by omega) hg hs1 hs2) fun i h1 h2 => ?_).symm
    rw [eX (by omega), eX (by omega), hout i (by omega) h2 (.inr h1)]
theorem Qm (F : Nat) (hF : 10000 ≤ F) {g : bg} {w : Nat → Int} {p : iJ} {D : Nat → bC} (hu : ∀ i, i < N1 g → u64 (w i)) (h : JK F w (N1 g) p g D) (hr : lM F (tab (N1 g) w) = some (p, true)) {M : aO} {c : Nat} (hc : c ≤ 1000000) (hM : Mem M (N1 g / 8) w c) :
    ∃ M' G, kN F M = some (M', some G, 0) ∧ Mem M' (N1 g / 8) (oZ (stp g D p.lQ p.mZ) w) (c + 16000) ∧ Ready F g (oZ (stp g D p.lQ p.mZ) w) p.lQ := by
  have hg := h.gg
  have t1 := hg.t1; have t2 := hg.t2; have c8 := C8 hg
  obtain ⟨hAB, hBC, hN⟩ := AC g
  have hA : A1 g = 16 + 1208 * g.ak.toNat := rfl
  have uU := Ql F (by omega) hu h
  have zJ : ∀ i, i < g.ak.toNat → DG g (D i) ∧ ∀ y ∈ (D i).xW, u64 y.xV := fun i hi => qM.facts (by omega) hg (fun j hj => hu _ (by have := LW g hi; omega)) (h.desc i hi)
  have hcl := vO D g.ak.toNat
  have hml := D7 D g.ak.toNat
  have rO : fM F M = some (tab (N1 g) w) := by
    rw [vH F hM (by omega) (by omega), show 8 * (N1 g / 8) = N1 g by omega]
  have hblk : ∀ a, a + 8 ≤ N1 g → RU (N1 g / 8) (blk g p.lQ a) ∧ (blk g p.lQ a).length ≤ 900 := by
    intro a ha
    refine ⟨fun x hx => ?_, by unfold blk; rw [aW]; omega⟩
    unfold blk tab at hx
    obtain ⟨v, hv, rfl⟩ := List.mem_map.1 hx
    have hv := List.mem_range.1 hv
    dsimp only
    omega
  have hfit : ∀ ws ∈ stp g D p.lQ p.mZ, RU (N1 g / 8) ws ∧ ws.length ≤ 900 := by
    intro ws hws
    unfold stp at hws
    rcases List.mem_append.1 hws with hws | hws
    · rcases List.mem_append.1 hws with hws | hws
      · obtain ⟨i, hi, rfl⟩ := E8 hws
        have h1 := (zJ i hi).1
        exact ⟨fun x hx => by have := h1.w x hx; omega, by have := h1.len; omega⟩
      · simp only [List.mem_cons, List.not_mem_nil, or_false] at hws
        rcases hws with rfl | rfl
        · refine ⟨fun x hx => ?_, by omega⟩
          obtain ⟨i', j, a1, a2, a3⟩ := JL D hx
          rw [a3]
          omega
        · refine ⟨fun x hx => ?_, by simp⟩
          rw [List.mem_singleton] at hx
          subst hx
          dsimp only
          omega
    · have : ws = blk g p.lQ (C1 g) ∨ ws = blk g p.lQ 0 := by
        cases hf : p.mZ <;> rw [hf] at hws <;> simp at hws <;> rcases hws with h | h <;> simp [h]
      rcases this with rfl | rfl
      · exact hblk _ (by omega)
      · exact hblk _ (by omega)
  have hsl : (stp g D p.lQ p.mZ).length ≤ 8 := by
    unfold stp
    rw [List.length_append, List.length_append]
    cases p.mZ <;> simp only [cond_true, cond_false, List.length_cons, List.length_nil] <;> omega
  have key := Un F (R := N1 g / 8) (l := stp g D p.lQ p.mZ) (by omega) (by omega) (by omega) hfit (by omega) (fun M' G => Mem M' (N1 g / 8) (oZ (stp g D p.lQ p.mZ) w) (c + 16000))
    (fun v7 v8 v9 v10 v11 => (oV F (⟨v7, v8, v9, v10, v11⟩ : aO)).bind fun x13 => Bd (x13.1) (some ((⟨v7, v8, v9, v10, v11⟩ : aO), none, x13.2)) fun o14 => some ((⟨v7, v8, v9, v10, v11⟩ : aO), (some (⟨(⟨v7, v8, v9, v10, v11⟩ : aO), o14.lT, o14.xw, o14.jB, o14.nP⟩ : eF)), x13.2))
    w c (fun M1 hM1 => by
      obtain ⟨G, hgn⟩ := Vh F (by omega) uU hM1
      refine ⟨M1, ⟨M1, G.lT, G.xw, G.jB, G.nP⟩, ?_, ⟨hM1.len, hM1.wds, hM1.off, hM1.fuse, hM1.P8, by have := hM1.cnt; omega⟩⟩
      rw [show (⟨M1.xl, M1.gB, M1.dA, M1.dO, M1.dN⟩ : aO) = M1 from rfl, hgn, ob]
      rfl) hc F 0 M (by omega) (by omega) (by simpa [oZ] using hM)
  obtain ⟨M', G, e, hM'⟩ := key
  refine ⟨M', G, ?_, hM', uU⟩
  unfold kN kT
  rw [hM.off, ob, cf, rO, ob, hr, ob, Bool.not_true, cf, jn_, ZW F (by omega) hg h.geo h.was (fun v hv => (zJ v hv).1), ob]
  rw [hM.off] at e
  exact e
end Go.V.P
set_option linter.unusedVariables false
set_option linter.unusedSimpArgs false
namespace Go.V.P
open Go.V Go.Proofs
theorem Sz (F : Nat) (hF : 6000 ≤ F) {g : bg} {w : Nat → Int} {b : Int} (h : Ready F g w b) (hb : b < 4611686018427387904) :
    ∃ p D, lM F (tab (N1 g) w) = some (p, true) ∧ JK F w (N1 g) p g D ∧ p.lQ = b + 1 ∧ ∀ v, v < g.ak.toNat → (D v).bY ≠ 1 ∧ (D v).bY ≠ 2 ∧ w (16 + 1208 * v) = fw (D v) := by
  have hg := h.gg
  have c8 := C8 hg
  obtain ⟨hAB, hBC, hN⟩ := AC g
  obtain ⟨s, hs, YP⟩ := h.img
  obtain ⟨D, hD⟩ := h.desc
  have hb0 := h.bnd.1
  have hl : (tab (N1 g) w).length = N1 g := aW _ _
  have hfind := Qk F (by omega) hg h.s1 h.s2
  have hd : ∀ v, v < g.ak.toNat → dAt F g w v = D v := fun v hv => Xv (D5 F (by omega) hg (fun j hj => h.u _ (by have := LW g hv; omega)) (hD v hv).1)
  have hcom : o8 (dAt F g w) g.ak.toNat = [] := Gy fun i hi => by rw [hd i hi]; exact (hD i hi).2.2.1
  have : Tot (lM F (tab (N1 g) w)) fun r => r = (⟨s, tab g.ak.toNat (dAt F g w), b + 1, true⟩, true) := by
    unfold lM
    refine jr hfind (iq (fun h => by cases h) fun _ => lC (dG ⟨by omega, by omega⟩ (dG ⟨by omega, by omega, by omega⟩ ?_)))
    have c2 : cut (tab (N1 g) w) (((tab (N1 g) w).length : Nat) - 8 : Int) (((tab (N1 g) w).length : Nat) : Int) = sup ⟨g, b⟩ := by
      have := Gx (a := N1 g - 8) w (N := N1 g) (by omega)
      rw [show ((N1 g - 8 : Nat) : Int) = ((N1 g : Nat) : Int) - 8 by omega, show ((N1 g - 8 + 8 : Nat) : Int) = ((N1 g : Nat) : Int) by omega] at this
      rw [hl, this, Jo]
      exact gU fun i hi => by rw [show N1 g - 8 + i = C1 g + i by omega, h.s2 i hi]; rfl
    rw [c2]
    refine jr (CS F (by omega) hg b) (iq (fun _ => ?_) fun h => by cases h)
    dsimp only
    rw [Jp, ob, CQ, ob, show mx b b = b by unfold mx; split <;> omega]
    refine iq (fun h => by simp only [decide_eq_true_eq] at h; omega) fun _ => lC ?_
    refine Nk F (by omega) hg h.u rfl _ _ (fun v d hv hbad => ?_) fun hall => ?_
    · rw [D5 (f := seg w v) F (by omega) hg (fun j hj => h.u _ (by have := LW g hv; omega)) (hD v hv).1] at hbad
      injection hbad with hbad
      injection hbad with _ hbad
      cases hbad
    · rw [hcom]
      refine jr YP (dB ?_)
      rw [show IntKind.u64.wrap (b + 1) = b + 1 by rw [IntKind.wrap_u64]; omega]
      rfl
  obtain ⟨r, h1, h2⟩ := this
  refine ⟨_, dAt F g w, by rw [h1, h2], ⟨hg, rfl, rfl, fun v hv => by rw [hd v hv]; exact (hD v hv).1, by rw [hcom]; exact YP, hs, ⟨by show 1 ≤ b + 1; omega, by show b + 1 ≤ _; omega⟩, ⟨(⟨g, b⟩, true, true), by rw [hcom]; exact hfind, rfl, rfl⟩⟩, rfl, fun v hv => by rw [hd v hv]; exact ⟨(hD v hv).2.1, (hD v hv).2.2.1, (hD v hv).2.2.2⟩⟩
theorem Vj (F : Nat) (hF : 10000 ≤ F) {g : bg} {w : Nat → Int} {b : Int} (h : Ready F g w b) (hb : b < 4611686018427387904) {M : aO} {c : Nat} (hc : c ≤ 1000000) (hM : Mem M (N1 g / 8) w c) :
    ∃ M' G w', kN F M = some (M', some G, 0) ∧ Mem M' (N1 g / 8) w' (c + 16000) ∧ Ready F g w' (b + 1) ∧ ∀ i, 8 ≤ i → i < C1 g → w' i = w i := by
  have hg := h.gg
  obtain ⟨hAB, hBC, hN⟩ := AC g
  have hA : A1 g = 16 + 1208 * g.ak.toNat := rfl
  obtain ⟨p, D, hr, hok, hpb, hD⟩ := Sz F (by omega) h hb
  obtain ⟨M', G, e, hM', uU⟩ := Qm F hF h.u hok hr hc hM
  have hcom : o8 D g.ak.toNat = [] := Gy fun i hi => (hD i hi).2.1
  refine ⟨M', G, _, e, hM', by rw [← hpb]; exact uU, fun i h1 h2 => ?_⟩
  rw [Gz hg, if_neg (by omega), if_pos h2, hcom]
  show (if i = 8 then 0 else app (mkL D g.ak.toNat) w i) = w i
  by_cases h8 : i = 8
  · rw [if_pos h8, h8, h.lock]
  · rw [if_neg h8]
    by_cases h4 : i < 16 ∨ A1 g ≤ i
    · refine Oq fun x hx => ?_
      obtain ⟨i', j, a1, a2, a3⟩ := JL D hx
      rw [a3, Int.toNat_natCast]
      omega
    · obtain ⟨v, j, hv, hj, rfl⟩ : ∃ v j, v < g.ak.toNat ∧ j < 1208 ∧ i = 16 + 1208 * v + j := ⟨(i - 16) / 1208, (i - 16) % 1208, by omega, by omega, by omega⟩
      obtain ⟨d1, d2, d3⟩ := hD v hv
      rw [Ou D _ _ _ _ hj, if_pos hv]
      unfold mkW
      by_cases h0 : j = 0
      · rw [if_pos h0, YO d1 d2, h0, Nat.add_zero, d3]
      · rw [if_neg h0, if_neg (fun h => d1 h.1)]
theorem Xz (F : Nat) {L : Nat} (f : Nat → Int) (hL : L ≤ 32000) (hF : 33000 ≤ F) : qm F (tab L f) = some (none, 1) ∨ ∃ R, L = 8 * R ∧ 1 ≤ R ∧ R ≤ 4096 ∧ qm F (tab L f) = some (some (N7 R f), 0) := by
  have hl : (tab L f).length = L := aW _ _
  by_cases h : L % 8 = 0 ∧ 1 ≤ L
  · right
    obtain ⟨R, rfl⟩ : ∃ R, L = 8 * R := ⟨L / 8, by omega⟩
    exact ⟨R, rfl, by omega, by omega, P7 F f (by omega) (by omega) (by omega)⟩
  · left
    unfold qm
    rw [hl, Hg (by omega), wrap_small (by omega) (by omega)]
    by_cases h1 : (L : Int) / 8 < 1
    · unfold xu
      rw [decide_eq_true h1, Bool.true_or, ct, ob]
      rfl
    · have e := Um F (n := L / 8) (by omega) (by omega)
      rw [show (((L / 8 : Nat) : Int)) = (L : Int) / 8 by omega] at e
      rw [e, ob]
      have : (Int.tmod (L : Int) 8 != 0) = true := by
        rw [Jv (by omega), bne_iff_ne]; omega
      rw [this]
      rfl
end Go.V.P
