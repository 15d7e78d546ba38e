/- The V-layer, part B5: arithmetic and comparisons. No premises. -/
import Derived.Test.YteocabneaenpeaaGreatVB4
import Derived.IntWalk
import Derived.Laws.StructEq
set_option linter.unusedVariables false
set_option linter.unusedSimpArgs false
namespace Go.V
open Go.RowKit

/-- A computation that neither reads nor writes memory. -/
def pureRun {α : Type} (P : Program) : Sem α → Option α
  | .pure a => some a
  | .program k => pureRun P (k P)
  | .mark _ k => pureRun P k
  | _ => none
theorem pureRun_run {α : Type} {P : Program} {e : Sem α} {a : α} (h : pureRun P e = some a) (w : World) : e.run P w = .ok a w := by
  induction e with
  | pure b => injection h with h; subst h; rfl
  | program k ih => exact ih P h
  | mark m k ih => exact ih h
  | _ => cases h

theorem equalIn_ptr_nil {P : Program} (n : Nat) {t e : TypeId} (hu : P.underlying t = some (.pointer e)) (a : Addr) (w : World) : (Op.equalIn (n + 1) t (.pointer (some a)) (.pointer none)).run P w = .ok false w := by
  simp [Op.equalIn, run_underlying hu]
theorem equalIn_nil_nil {P : Program} (n : Nat) {t e : TypeId} (hu : P.underlying t = some (.pointer e)) (w : World) : (Op.equalIn (n + 1) t (.pointer none) (.pointer none)).run P w = .ok true w := by
  simp [Op.equalIn, run_underlying hu]
/-- Whole numbers: what an operator comes to. -/
def intOp : BinOp → IntKind → Int → Int → Option Value
  | .add, k, a, b => some (.int k (k.wrap (a + b)))
  | .sub, k, a, b => some (.int k (k.wrap (a - b)))
  | .mul, k, a, b => some (.int k (k.wrap (a * b)))
  | .quo, k, a, b => if b = 0 then none else some (.int k (k.wrap (a.tdiv b)))
  | .rem, k, a, b => if b = 0 then none else some (.int k (a.tmod b))
  | .and, k, a, b => some (.int k (k.wrap ((BitVec.ofInt k.bits a &&& BitVec.ofInt k.bits b).toNat)))
  | .or, k, a, b => some (.int k (k.wrap ((BitVec.ofInt k.bits a ||| BitVec.ofInt k.bits b).toNat)))
  | .xor, k, a, b => some (.int k (k.wrap ((BitVec.ofInt k.bits a ^^^ BitVec.ofInt k.bits b).toNat)))
  | .andNot, k, a, b => some (.int k (k.wrap ((BitVec.ofInt k.bits a &&& ~~~ BitVec.ofInt k.bits b).toNat)))
  | .eql, _, a, b => some (.bool (a == b))
  | .neq, _, a, b => some (.bool (a != b))
  | .lss, _, a, b => some (.bool (decide (a < b)))
  | .leq, _, a, b => some (.bool (decide (a ≤ b)))
  | .gtr, _, a, b => some (.bool (decide (b < a)))
  | .geq, _, a, b => some (.bool (decide (b ≤ a)))
  | .shl, _, _, _ => none
  | .shr, _, _, _ => none

section
variable {C : Ctx} {s : St} {d : Option Nat}
theorem eqGuard_int {P : Program} (op : BinOp) (t : TypeId) (x y : Operand) (k k' : IntKind) (a b : Int) (w : World) : (eqGuard op t x y (.int k a) (.int k' b)).run P w = .ok () w := by
  unfold eqGuard
  cases op <;> simp

theorem does_int {op : BinOp} {t : TypeId} {x y : Operand} {k : IntKind} {a b : Int} {z : Value} (hx : s.ev x = .one (.v (.int k a))) (hy : s.ev y = .one (.v (.int k b))) (hz : intOp op k a b = some z) :
    Quiet C (.bin op t x y) s (.one (.v z)) := by
  refine fun o ho β ac w hR => ?_
  obtain ⟨t', ho⟩ := ho
  have h1 := (hx ▸ hR.ev x).plain
  have h2 := (hy ▸ hR.ev y).plain
  refine ⟨z, fun w' hk' => ?_, ?_⟩
  · simp only [execOp, ho, h1, h2, Sem.run_bind, eqGuard_int, Result.andThen_ok]
    cases op <;> simp only [intOp, Option.some.injEq] at hz <;> (try subst hz) <;> (try simp [binOp, Op.intArith, Op.intBits, Op.intCmp]; done)
    · split at hz
      · cases hz
      · rename_i h0; injection hz with hz; subst hz; simp [binOp, Op.intDiv, h0]
    · split at hz
      · cases hz
      · rename_i h0; injection hz with hz; subst hz; simp [binOp, Op.intDiv, h0]
    · cases hz
    · cases hz
  · refine .v ?_
    cases op <;> simp only [intOp, Option.some.injEq] at hz <;> (try subst hz) <;> (try rfl) <;> (try (split at hz)) <;> first | (cases hz; rfl) | (cases hz)

/-- Sums, differences, products that fit; quotients and rests of numbers from 0 on. -/
theorem does_int_as {op : BinOp} {t : TypeId} {x y : Operand} {k : IntKind} {a b : Int} {z z' : Value} (hx : s.ev x = .one (.v (.int k a))) (hy : s.ev y = .one (.v (.int k b))) (hz : intOp op k a b = some z) (he : z = z') :
    Quiet C (.bin op t x y) s (.one (.v z')) := by subst he; exact does_int hx hy hz
theorem wrap_i64 {n : Int} (h1 : -9223372036854775808 ≤ n) (h2 : n ≤ 9223372036854775807) : IntKind.i64.wrap n = n := IntWalk.i64_in n ⟨h1, h2⟩
theorem does_add {t : TypeId} {x y : Operand} {a b : Int} (hx : s.ev x = .one (.v (.int .i64 a))) (hy : s.ev y = .one (.v (.int .i64 b))) (h1 : -9223372036854775808 ≤ a + b) (h2 : a + b ≤ 9223372036854775807) :
    Quiet C (.bin .add t x y) s (.one (.v (.int .i64 (a + b)))) := does_int_as hx hy rfl (by rw [wrap_i64 h1 h2])
theorem does_sub {t : TypeId} {x y : Operand} {a b : Int} (hx : s.ev x = .one (.v (.int .i64 a))) (hy : s.ev y = .one (.v (.int .i64 b))) (h1 : -9223372036854775808 ≤ a - b) (h2 : a - b ≤ 9223372036854775807) :
    Quiet C (.bin .sub t x y) s (.one (.v (.int .i64 (a - b)))) := does_int_as hx hy rfl (by rw [wrap_i64 h1 h2])
theorem does_mul {t : TypeId} {x y : Operand} {a b : Int} (hx : s.ev x = .one (.v (.int .i64 a))) (hy : s.ev y = .one (.v (.int .i64 b))) (h1 : -9223372036854775808 ≤ a * b) (h2 : a * b ≤ 9223372036854775807) :
    Quiet C (.bin .mul t x y) s (.one (.v (.int .i64 (a * b)))) := does_int_as hx hy rfl (by rw [wrap_i64 h1 h2])
theorem does_shl {t : TypeId} {x y : Operand} {k k' : IntKind} {a b : Int} (hx : s.ev x = .one (.v (.int k a))) (hy : s.ev y = .one (.v (.int k' b))) (h0 : 0 ≤ b) :
    Quiet C (.bin .shl t x y) s (.one (.v (.int k (k.wrap (a * 2 ^ (min b.toNat k.bits)))))) := by
  refine fun o ho β ac w hR => ?_
  obtain ⟨t', ho⟩ := ho
  have h1 := (hx ▸ hR.ev x).plain
  have h2 := (hy ▸ hR.ev y).plain
  refine ⟨_, fun w' hk' => ?_, .v rfl⟩
  simp only [execOp, ho, h1, h2, Sem.run_bind, eqGuard_int, Result.andThen_ok, binOp, Op.shift]
  rw [if_neg (by omega)]
  rfl
theorem does_shr {t : TypeId} {x y : Operand} {k k' : IntKind} {a b : Int} (hx : s.ev x = .one (.v (.int k a))) (hy : s.ev y = .one (.v (.int k' b))) (h0 : 0 ≤ b) :
    Quiet C (.bin .shr t x y) s (.one (.v (.int k (a.fdiv (2 ^ (min b.toNat k.bits)))))) := by
  refine fun o ho β ac w hR => ?_
  obtain ⟨t', ho⟩ := ho
  have h1 := (hx ▸ hR.ev x).plain
  have h2 := (hy ▸ hR.ev y).plain
  refine ⟨_, fun w' hk' => ?_, .v rfl⟩
  simp only [execOp, ho, h1, h2, Sem.run_bind, eqGuard_int, Result.andThen_ok, binOp, Op.shift]
  rw [if_neg (by omega)]
  rfl
theorem does_bin {op : BinOp} {t : TypeId} {x y : Operand} {a b z : Value} (hx : s.ev x = .one (.v a)) (hy : s.ev y = .one (.v b)) (h1 : z.oneCell' = true)
    (hz : pureRun C.P (do eqGuard op t x y a b; binOp op t a b) = some z) : Quiet C (.bin op t x y) s (.one (.v z)) := by
  refine fun o ho β ac w hR => ?_
  obtain ⟨t', ho⟩ := ho
  have h2 := (hx ▸ hR.ev x).plain
  have h3 := (hy ▸ hR.ev y).plain
  refine ⟨z, fun w' hk' => ?_, .v h1⟩
  have := pureRun_run hz w'
  simp only [Sem.run_bind] at this
  simp only [execOp, ho, h2, h3, Sem.run_bind, this]
  rfl
theorem does_not {x : Operand} {b : Bool} (hx : s.ev x = .one (.v (.bool b))) : Quiet C (.un .not x) s (.one (.v (.bool (!b)))) := by
  refine fun o ho β ac w hR => ?_
  obtain ⟨t', ho⟩ := ho
  have h2 := (hx ▸ hR.ev x).plain
  exact ⟨_, fun w' hk' => by simp [execOp, ho, h2, Op.unary], .v rfl⟩
theorem does_neg {x : Operand} {a : Int} (hx : s.ev x = .one (.v (.int .i64 a))) (h1 : -9223372036854775807 ≤ a) (h2 : a ≤ 9223372036854775807) : Quiet C (.un .neg x) s (.one (.v (.int .i64 (-a)))) := by
  refine fun o ho β ac w hR => ?_
  obtain ⟨t', ho⟩ := ho
  have h3 := (hx ▸ hR.ev x).plain
  refine ⟨_, fun w' hk' => ?_, .v rfl⟩
  simp only [execOp, ho, h3, Op.unary, Op.intArith, Sem.run_bind, Sem.run_pure, Result.andThen_ok]
  rw [wrap_i64 (by omega) (by omega)]
  simp
theorem does_convI {k k' : IntKind} {x : Operand} {a : Int} (hx : s.ev x = .one (.v (.int k' a))) : Quiet C (.convI k x) s (.one (.v (.int k (k.wrap a)))) := by
  refine fun o ho β ac w hR => ?_
  obtain ⟨t, t', k2, ho, h1, h2⟩ := ho
  have h3 := (hx ▸ hR.ev x).plain
  refine ⟨_, fun w' hk' => ?_, .v rfl⟩
  simp [execOp, ho, h3, convert, run_underlying h1, run_underlying h2, Conv.intToInt]
theorem does_conv {src dst : TypeId} {x : Operand} {a z : Value} (hx : s.ev x = .one (.v a)) (h1 : z.oneCell' = true) (hz : pureRun C.P (convert src dst a) = some z) : Quiet C (.conv src dst x) s (.one (.v z)) := by
  refine fun o ho β ac w hR => ?_
  replace ho : o.op = .convert src dst x := ho
  have h2 := (hx ▸ hR.ev x).plain
  refine ⟨z, fun w' hk' => ?_, .v h1⟩
  simp only [execOp, ho, h2, Sem.run_bind, pureRun_run hz w']
  rfl
/-- A pointer against nil. -/
theorem does_eqP_ptr {neg : Bool} {x y : Operand} {r off : Nat} {g : Reg} (hx : s.ev x = .one (.ptr r off)) (hg : sget s.st r = some g) (hy : s.ev y = .one (.v (.pointer none))) : Quiet C (.eqP neg x y) s (.one (.v (.bool neg))) := by
  refine fun o ho β ac w hR => ?_
  obtain ⟨t, t', e, ho, hu⟩ := ho
  obtain ⟨b, hb, h2⟩ := hR.ptr hx hg
  have h3 := (hy ▸ hR.ev y).plain
  refine ⟨_, fun w' hk' => ?_, .v rfl⟩
  have he : ∀ w, (Op.equal t (.pointer (some ⟨b, off, none⟩)) (.pointer none)).run C.P w = .ok false w := fun w => equalIn_ptr_nil 9999 hu _ w
  have hgd : ∀ op w, (eqGuard op t x y (.pointer (some ⟨b, off, none⟩)) (.pointer none)).run C.P w = .ok () w := by intro op w; unfold eqGuard; cases op <;> simp
  cases neg <;> simp [execOp, ho, h2, h3, hgd, binOp, he]
theorem does_eqP_nil {neg : Bool} {x y : Operand} (hx : s.ev x = .one (.v (.pointer none))) (hy : s.ev y = .one (.v (.pointer none))) : Quiet C (.eqP neg x y) s (.one (.v (.bool (!neg)))) := by
  refine fun o ho β ac w hR => ?_
  obtain ⟨t, t', e, ho, hu⟩ := ho
  have h2 := (hx ▸ hR.ev x).plain
  have h3 := (hy ▸ hR.ev y).plain
  refine ⟨_, fun w' hk' => ?_, .v rfl⟩
  have he : ∀ w, (Op.equal t (.pointer none) (.pointer none)).run C.P w = .ok true w := fun w => equalIn_nil_nil 9999 hu w
  have hgd : ∀ op w, (eqGuard op t x y (.pointer none) (.pointer none)).run C.P w = .ok () w := by intro op w; unfold eqGuard; cases op <;> simp
  cases neg <;> simp [execOp, ho, h2, h3, hgd, binOp, he]
/-- Builtins on plain values. -/
theorem does_bi {b : Builtin} {ats : Array TypeId} {ty : TypeId} {cs : Array Bool} {xs : List Operand} {vs : List Value} {z : Value} (hx : xs.map s.ev = vs.map fun v => .one (.v v)) (h1 : z.oneCell' = true)
    (hz : pureRun C.P (builtin b ats ty cs vs.toArray) = some (.value z)) : Quiet C (.bi b ats ty cs xs) s (.one (.v z)) := by
  refine fun o ho β ac w hR => ?_
  obtain ⟨args, ho, rfl, rfl, rfl⟩ := ho
  refine ⟨z, fun w' hk' => ?_, .v h1⟩
  have hev : args.map ac.eval = vs.toArray := by
    apply Array.toList_inj.1
    apply List.ext_getElem?
    intro i
    have := congrArg (fun l => l[i]?) hx
    simp only [List.getElem?_map] at this
    simp only [Array.toList_map, List.getElem?_map]
    cases ha : args.toList[i]? with
    | none => rw [ha] at this; cases hv : vs[i]? with
      | none => simp [hv]
      | some v => rw [hv] at this; cases this
    | some x =>
      rw [ha] at this
      cases hv : vs[i]? with
      | none => rw [hv] at this; cases this
      | some v =>
        rw [hv] at this
        simp only [Option.map_some, Option.some.injEq] at this
        simp [hv, (this ▸ hR.ev x).plain]
  simp only [execOp, ho, resolve, Sem.run_bind, Sem.run_pure, Result.andThen_ok, invoke, hev]
  exact pureRun_run hz w'
end
end Go.V
