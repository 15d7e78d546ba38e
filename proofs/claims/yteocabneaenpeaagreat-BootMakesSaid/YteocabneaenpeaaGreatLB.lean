/- Plain laws, part B: the program's own whole complex numbers. No premises. -/
import Derived.Test.YteocabneaenpeaaGreatLA
set_option linter.unusedVariables false
set_option linter.unusedSimpArgs false
namespace Go.V.P
open Go.V Go.Proofs Ieee
theorem pureRun_bind {P : Program} {α β : Type} (e : Sem α) (f : α → Sem β) : pureRun P (e >>= f) = (pureRun P e).bind fun a => pureRun P (f a) := by
  induction e with
  | pure a => rfl
  | program k ih => exact ih P
  | mark m k ih => exact ih
  | _ => rfl
theorem pureRun_program {P : Program} : pureRun P program = some P := rfl
theorem pureRun_mark {P : Program} (m : Mark) : pureRun P (mark m) = some () := rfl
theorem pureRun_ext {P : Program} {f : FuncId} {fn : Func} {args : List Value} {e : Array Value → Sem Value} (h : P.funcs[f]? = some fn) (h0 : (fn.name == "runtime.NumGoroutine") = false) (hb : fn.body.isNone = true) (h1 : Extern.findNext fn = none) (h2 : Extern.find fn = some e) :
    xc P f args = pureRun P (e args.toArray) := by
  unfold xc callFunc
  simp only [pureRun_bind, pureRun_program, Option.bind_some, h, h0, hb, h1, h2, if_true, Bool.false_eq_true, if_false, pureRun_mark]
  cases pureRun P (e args.toArray) <;> rfl
theorem xc_bits (a : Nat) : xc Tryz.prog 199 [.float .f64 a] = some (.int .u64 a) := by
  rw [pureRun_ext Tryz.func199 (by kernel_rfl) (by kernel_rfl) (by kernel_rfl) (e := Extern.MathFloatBits.float64bits) (by kernel_rfl)]
  rfl
theorem xc_trunc {n : Int} (h : n.natAbs < 2 ^ 53) : xc Tryz.prog 197 [.float .f64 (fl n)] = some (.float .f64 (fl n)) := by
  rw [pureRun_ext Tryz.func197 (by kernel_rfl) (by kernel_rfl) (by kernel_rfl) (e := Extern.MathFloor.toIntegral "math.archTrunc" .zero) (by kernel_rfl)]
  have h1 := trunc_fl h
  obtain ⟨j, hj⟩ := decode_fl h
  show pureRun Tryz.prog (match FloatKind.f64.decode (fl n) with
    | .nan s t => _
    | d => _) = _
  rw [hj] at h1 ⊢
  rw [← h1]
  rfl
theorem pureRun_underlying {P : Program} {t : TypeId} {d : TypeDesc} (h : P.underlying t = some d) : pureRun P (underlying t) = some d := by
  unfold underlying
  simp only [pureRun_bind, pureRun_program, Option.bind_some, h]
  rfl
theorem cv_if (n : Int) : cv Tryz.prog 2 242 (.int .i64 n) = some (.float .f64 (fl n)) := by
  unfold cv convert
  simp only [pureRun_bind, pureRun_underlying Tryz.underlying2, pureRun_underlying Tryz.underlying242, Option.bind_some]
  rfl
theorem cv_fi {n : Int} (h : n.natAbs < 2 ^ 53) : cv Tryz.prog 242 2 (.float .f64 (fl n)) = some (.int .i64 n) := by
  unfold cv convert
  simp only [pureRun_bind, pureRun_underlying Tryz.underlying2, pureRun_underlying Tryz.underlying242, Option.bind_some]
  unfold Conv.floatToInt
  simp only [toInt_fl h]
  have e : (2 : Nat) ^ 53 = 9007199254740992 := by decide
  have h1 : IntKind.i64.min = -9223372036854775808 := by decide
  have h2 : IntKind.i64.max = 9223372036854775807 := by decide
  rw [e] at h
  rw [h1, h2, if_pos (by omega)]
  rfl
theorem bn_geq (a b : Nat) (x y : Operand) : bn Tryz.prog .geq 242 x y (.float .f64 a) (.float .f64 b) = some (.bool (FloatKind.f64.format.order a b == some .gt || FloatKind.f64.format.order a b == some .eq)) := rfl
theorem bn_leq (a b : Nat) (x y : Operand) : bn Tryz.prog .leq 242 x y (.float .f64 a) (.float .f64 b) = some (.bool (FloatKind.f64.format.order a b == some .lt || FloatKind.f64.format.order a b == some .eq)) := rfl
theorem bn_neq (a b : Nat) (x y : Operand) : bn Tryz.prog .neq 242 x y (.float .f64 a) (.float .f64 b) = some (.bool (FloatKind.f64.format.order a b != some .eq)) := rfl
theorem bn_eql (a b : Nat) (x y : Operand) : bn Tryz.prog .eql 242 x y (.float .f64 a) (.float .f64 b) = some (.bool (FloatKind.f64.format.order a b == some .eq)) := rfl
theorem bu_real (a b : Nat) : bu Tryz.prog .real #[182] 242 #[false] [.complex .f64 a b] = some (.float .f64 a) := rfl
theorem bu_imag (a b : Nat) : bu Tryz.prog .imag #[182] 242 #[false] [.complex .f64 a b] = some (.float .f64 b) := rfl
theorem bu_complex (a b : Nat) : bu Tryz.prog .complex #[242, 242] 182 #[false, false] [.float .f64 a, .float .f64 b] = some (.complex .f64 a b) := rfl
theorem one_float (a : Nat) : one? (.float .f64 a) = some (.float .f64 a) := rfl
theorem gd_pos {α : Type} {c : Prop} [Decidable c] {x : Option α} (h : c) : gd c x = x := if_pos h
theorem lz_true {α : Type} [Inhabited α] {x : Option α} : lz true x = x := rfl
theorem lz_false {α : Type} [Inhabited α] {x : Option α} : lz false x = some default := rfl
theorem e53 : (2 : Nat) ^ 53 = 9007199254740992 := by decide

theorem whole_fl (F : Nat) {n : Int} (h1 : -1099511627776 ≤ n) (h2 : n ≤ 1099511627776) : m_gauss_whole F (.float .f64 (fl n)) = some (n, true) := by
  have h : n.natAbs < 2 ^ 53 := by rw [e53]; omega
  have ha : (14010698440749613056 : Nat) = fl (-1099511627776) := by decide
  have hb : (4787326403894837248 : Nat) = fl 1099511627776 := by decide
  have hc : (0 : Nat) = fl 0 := fl_zero.symm
  have o1 := order_fl h (b := -1099511627776) (by decide)
  have o2 := order_fl h (b := 1099511627776) (by decide)
  have o3 := order_fl h h
  have o4 := order_fl h (b := 0) (by decide)
  have c1 : (some (compare n (-1099511627776)) == some Ordering.gt || some (compare n (-1099511627776)) == some Ordering.eq) = true := by
    simp only [compare, compareOfLessAndEq]
    by_cases hn : n = -1099511627776
    · subst hn; rfl
    · rw [if_neg (by omega), if_neg hn]; rfl
  have c2 : (some (compare n 1099511627776) == some Ordering.lt || some (compare n 1099511627776) == some Ordering.eq) = true := by
    simp only [compare, compareOfLessAndEq]
    by_cases hn : n = 1099511627776
    · subst hn; rfl
    · rw [if_pos (by omega)]; rfl
  have c3 : (some (compare n n) != some Ordering.eq) = false := by
    simp only [compare, compareOfLessAndEq]
    rw [if_neg (by omega)]; rfl
  have hsgn : m_math_Signbit F (.float .f64 (fl 0)) = some false := by
    unfold m_math_Signbit
    rw [xc_bits]
    rw [fl_zero]
    decide
  unfold m_gauss_whole
  rw [bn_geq, ha, o1, c1]
  simp only [Option.bind_some, bool?]
  rw [bn_leq, hb, o2, c2]
  simp only [Option.bind_some, bool?, Bool.and_self, Bool.not_true, beq_self_eq_true, lz_true]
  unfold m_math_Trunc
  rw [xc_trunc h]
  simp only [Option.bind_some, one_float]
  rw [bn_neq, o3, c3]
  simp only [Option.bind_some, bool?, Bool.or_self, Bool.false_or, beq_self_eq_true, lz_true]
  rw [bn_eql]
  by_cases hn : n = 0
  · subst hn
    rw [show FloatKind.f64.format.order (fl 0) 0 = some .eq from by rw [fl_zero]; decide]
    simp only [Option.bind_some, bool?, beq_self_eq_true, Bool.and_self, lz_true, hsgn, Bool.and_false, cond_false]
    rw [cv_fi (by decide)]
    rfl
  · have c4 : (FloatKind.f64.format.order (fl n) 0 == some Ordering.eq) = false := by
      have : FloatKind.f64.format.order (fl n) 0 = some (compare n 0) := by rw [← o4, fl_zero]
      rw [this]
      simp only [compare, compareOfLessAndEq]
      by_cases h0 : n < 0
      · rw [if_pos h0]; rfl
      · rw [if_neg h0, if_neg hn]; rfl
    rw [c4]
    simp only [Option.bind_some, bool?, Bool.false_and, Bool.and_false, show (false == true) = false from rfl, lz_false, cond_false]
    rw [cv_fi h]
    rfl
theorem parts_fl (F : Nat) {a b : Int} (h1 : -1099511627776 ≤ a) (h2 : a ≤ 1099511627776) (h3 : -1099511627776 ≤ b) (h4 : b ≤ 1099511627776) : m_gauss_Parts F (.complex .f64 (fl a) (fl b)) = some (a, b, true) := by
  unfold m_gauss_Parts
  rw [bu_real]
  simp only [Option.bind_some, one_float, whole_fl F h1 h2]
  rw [bu_imag]
  simp only [Option.bind_some, one_float, whole_fl F h3 h4]
  rfl
theorem of_fl (F : Nat) {a b : Int} (h1 : -1099511627776 ≤ a) (h2 : a ≤ 1099511627776) (h3 : -1099511627776 ≤ b) (h4 : b ≤ 1099511627776) : m_gauss_Of F a b = some (.complex .f64 (fl a) (fl b), true) := by
  unfold m_gauss_Of m_gauss_in
  simp only [Option.bind_some, decide_eq_true h1, decide_eq_true h2, decide_eq_true h3, decide_eq_true h4, Bool.and_self, Bool.not_true, beq_self_eq_true, lz_true, Bool.or_self, cond_false, cv_if, one_float]
  rw [bu_complex]
  rfl
end Go.V.P
