/- The V-layer, part M: what the model computes by itself: numbers of other kinds, functions without a body. No premises. -/
import Derived.Test.YteocabneaenpeaaGreatVL
set_option linter.unusedVariables false
set_option linter.unusedSimpArgs false
namespace Go.V
open Go.RowKit

def one? (z : Value) : Option Value := bif z.oneCell' then some z else none
def int? (k : IntKind) : Value → Option Int
  | .int k' n => if k = k' then some n else none
  | _ => none
def bool? : Value → Option Bool
  | .bool b => some b
  | _ => none
def str? : Value → Option ByteArray
  | .string b => some b
  | _ => none
theorem one?_eq {z z' : Value} (h : one? z = some z') : z = z' ∧ z'.oneCell' = true := by
  unfold one? at h
  cases hb : z.oneCell' with
  | false => rw [hb] at h; cases h
  | true => rw [hb] at h; injection h with h; subst h; exact ⟨rfl, hb⟩
theorem int?_eq {k : IntKind} {z : Value} {n : Int} (h : int? k z = some n) : z = .int k n := by
  unfold int? at h
  split at h
  · split at h
    · rename_i hk; injection h with h; subst h; subst hk; rfl
    · cases h
  · cases h
theorem bool?_eq {z : Value} {b : Bool} (h : bool? z = some b) : z = .bool b := by
  unfold bool? at h
  split at h
  · injection h with h; subst h; rfl
  · cases h
def val? : Next → Option Value
  | .value z => some z
  | _ => none
theorem val?_eq {n : Next} {z : Value} (h : val? n = some z) : n = .value z := by
  cases n <;> first | (injection h with h; subst h; rfl) | cases h

/-- A function without a body. -/
def xc (P : Program) (f : FuncId) (vs : List Value) : Option Value := (pureRun P (callFunc f vs.toArray)).bind val?
def cv (P : Program) (s d : TypeId) (x : Value) : Option Value := pureRun P (convert s d x)
def bn (P : Program) (op : BinOp) (t : TypeId) (x y : Operand) (a b : Value) : Option Value := pureRun P (do eqGuard op t x y a b; binOp op t a b)
def bu (P : Program) (b : Builtin) (ats : Array TypeId) (ty : TypeId) (cs : Array Bool) (vs : List Value) : Option Value := (pureRun P (builtin b ats ty cs vs.toArray)).bind val?

section
variable {C : Ctx} {s : St}
theorem args_of {C : Ctx} {β : Nat → Option Nat} {ac : Act} {w : World} {args : Array Operand} {vs : List Value} (hR : R C s β ac w) (hx : args.toList.map s.ev = vs.map fun v => .one (.v v)) : args.map ac.eval = vs.toArray := by
  apply Array.toList_inj.1
  apply List.ext_getElem?
  intro i
  have := congrArg (fun l => l[i]?) hx
  simp only [List.getElem?_map] at this
  simp only [Array.toList_map, List.getElem?_map]
  cases ha : args.toList[i]? with
  | none => rw [ha] at this; cases hv : vs[i]? with
    | none => simp [hv]
    | some v => rw [hv] at this; cases this
  | some x =>
    rw [ha] at this
    cases hv : vs[i]? with
    | none => rw [hv] at this; cases this
    | some v =>
      rw [hv] at this
      simp only [Option.map_some, Option.some.injEq] at this
      simp [hv, (this ▸ hR.ev x).plain]
theorem does_xcall {P : Program} {f : FuncId} {xs : List Operand} {vs : List Value} {z : Value} (hP : C.P = P) (hx : xs.map s.ev = vs.map fun v => .one (.v v)) (hz : xc P f vs = some z) (h1 : z.oneCell' = true) : Quiet C (.xcall f xs) s (.one (.v z)) := by
  subst hP
  refine fun o ho β ac w hR => ?_
  obtain ⟨args, ats, ho, rfl⟩ := ho
  refine ⟨z, fun w' hk' => ?_, .one (.v h1)⟩
  obtain ⟨n, hn, hz'⟩ := Option.bind_eq_some_iff.1 hz
  obtain rfl := val?_eq hz'
  have hv := args_of hR hx
  have := pureRun_run hn w'
  simp only [execOp, ho, resolve, Sem.run_bind, Sem.run_pure, Result.andThen_ok, Act.eval, Deferred.ofValue, invoke]
  simpa [hv] using this
theorem does_cv {P : Program} {src dst : TypeId} {x : Operand} {a z : Value} (hP : C.P = P) (hx : s.ev x = .one (.v a)) (hz : cv P src dst a = some z) (h1 : z.oneCell' = true) : Quiet C (.conv src dst x) s (.one (.v z)) := by
  subst hP; exact does_conv hx h1 hz
theorem does_bn {P : Program} {op : BinOp} {t : TypeId} {x y : Operand} {a b z : Value} (hP : C.P = P) (hx : s.ev x = .one (.v a)) (hy : s.ev y = .one (.v b)) (hz : bn P op t x y a b = some z) (h1 : z.oneCell' = true) : Quiet C (.bin op t x y) s (.one (.v z)) := by
  subst hP; exact does_bin hx hy h1 hz
theorem does_bu {P : Program} {b : Builtin} {ats : Array TypeId} {ty : TypeId} {cs : Array Bool} {xs : List Operand} {vs : List Value} {z : Value} (hP : C.P = P) (hx : xs.map s.ev = vs.map fun v => .one (.v v)) (hz : bu P b ats ty cs vs = some z) (h1 : z.oneCell' = true) : Quiet C (.bi b ats ty cs xs) s (.one (.v z)) := by
  subst hP
  obtain ⟨n, hn, hz'⟩ := Option.bind_eq_some_iff.1 hz
  obtain rfl := val?_eq hz'
  exact does_bi hx h1 hn
end
theorem bt {b w : Bool} (h : b = w) : (b == w) = true := by subst h; simp
theorem bt2 {c b w : Bool} (hc : c = true) (h : b = w) : (c && (b == w)) = true := by subst h; simp [hc]
/-- An operation behind a ghost move. -/
theorem Does.ghost {C : Ctx} {i : VI} {d : Option Nat} {s s' : St} {k : Bool} {K' : St → Prop} (h : LeB s s') (hd : Does C i d s' k K') : Does C i d s k K' :=
  fun o ho h1 h2 β a w hR => let ⟨β', hR'⟩ := h C β a w hR; hd o ho h1 h2 β' a w hR'
theorem X_i {k : IntKind} {n : Int} {x : Option Value} (h : x.bind (int? k) = some n) : x = some (.int k n) := by
  obtain ⟨y, h1, h2⟩ := Option.bind_eq_some_iff.1 h
  rw [h1, int?_eq h2]
theorem X_b {b : Bool} {x : Option Value} (h : x.bind bool? = some b) : x = some (.bool b) := by
  obtain ⟨y, h1, h2⟩ := Option.bind_eq_some_iff.1 h
  rw [h1, bool?_eq h2]
theorem X_xz {z' : Value} {x : Option Value} (h : x.bind one? = some z') : x = some z' := by
  obtain ⟨y, h1, h2⟩ := Option.bind_eq_some_iff.1 h
  obtain ⟨rfl, h3⟩ := one?_eq h2
  exact h1
theorem X_x1 {z' : Value} {x : Option Value} (h : x.bind one? = some z') : z'.oneCell' = true := by
  obtain ⟨y, h1, h2⟩ := Option.bind_eq_some_iff.1 h
  exact (one?_eq h2).2
end Go.V
