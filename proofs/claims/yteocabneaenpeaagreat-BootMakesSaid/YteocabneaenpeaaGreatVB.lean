/- The V-layer, part B: operations. No premises. -/
import Derived.Test.YteocabneaenpeaaGreatVA
import Derived.Laws.CopyRow
import Derived.Laws.Cells
import Derived.Laws.Rows
set_option linter.unusedVariables false
set_option linter.unusedSimpArgs false
namespace Go.V
open Go.RowKit

inductive VI where
  | mv (x : Operand)
  | pick (c a b : Operand)
  | newv (cs : List T)
  | box (e : TypeId) (x : Operand)
  | build (zero : List T) (parts : List (Nat × Nat × Operand))
  | bslice (k : Nat) (ety : TypeId) (n : Nat) (zero : List T) (parts : List (Nat × Nat × Operand))
  | load (agg : Bool) (sz : Nat) (a : Operand)
  | store (sz : Nat) (a x : Operand)
  | add (off : Nat) (a : Operand)
  | idxS (k : Nat) (x i : Operand)
  | idxA (k n : Nat) (x i : Operand)
  | part (agg : Bool) (sz off : Nat) (x : Operand)
  | ext (n : Nat) (x : Operand)
  | len (str : Bool) (x : Operand)
  | nilchk (x : Operand)
  | bin (op : BinOp) (t : TypeId) (x y : Operand)
  | eqB (neg : Bool) (x y : Operand)
  | eqP (neg : Bool) (x y : Operand)
  | eqA (neg : Bool) (t : TypeId) (x y : Operand)
  | un (op : UnOp) (x : Operand)
  | conv (src dst : TypeId) (x : Operand)
  | convI (k : IntKind) (x : Operand)
  | bi (b : Builtin) (ats : Array TypeId) (ty : TypeId) (cs : Array Bool) (xs : List Operand)
  | ixs (t : TypeId) (x i : Operand)
  | slc (k : Nat) (x : Operand) (lo hi mx : Option Operand)
  | slcA (k n : Nat) (x : Operand) (lo hi : Option Operand)
  | slcStr (t : TypeId) (x : Operand) (lo hi : Option Operand)
  | mk (t ety k bytes : Nat) (zero : List T) (n c : Operand)
  | app (t ety k bytes : Nat) (s x : Operand)
  | copy (k : Nat) (dst src : Operand)
  | call (f : FuncId) (xs : List Operand)
  | arr (n : Nat) (x : Operand)
  | xcall (f : FuncId) (xs : List Operand)
  | bad

def isAggP (P : Program) (t : TypeId) : Option Bool := (P.underlying t).map fun | .struct _ | .array _ _ => true | _ => false
def szP (P : Program) (t : TypeId) : Option Nat := (P.info? t).map (·.size)
def zeroP (P : Program) (t : TypeId) : Option Value := (P.info? t).bind (·.zero)
def partsP (P : Program) (t : TypeId) (parts : List (Nat × Operand)) : Option (List (Nat × Nat × Operand)) :=
  match P.underlying t with
  | some (.struct fs) => parts.mapM fun (i, x) => (fs[i]?).bind fun f => (szP P f.type).map fun n => (f.offset, n, x)
  | some (.array _ e) => (szP P e).map fun n => parts.map fun (i, x) => (i * n, n, x)
  | _ => none
def fieldsOK (P : Program) (t : TypeId) : Bool := match P.underlying t with | some (.struct fs) => fs.toList.all fun f => (szP P f.type).isSome | _ => true
def callP (P : Program) (f : FuncId) : Bool := match P.funcs[f]? with | some fn => fn.body.isSome && fn.name != "runtime.NumGoroutine" | none => false

def compileI (P : Program) (o : Oper) : Option VI :=
  match o.op with
  | .move x | .assign x => some (.mv x)
  | .pick c a b => some (.pick c a b)
  | .alloc e => (zeroP P e).map fun z => .newv (z.cells.toList.map ofCell)
  | .box e x => some (.box e x)
  | .build t parts => if fieldsOK P t = true then (zeroP P t).bind fun z => (partsP P t parts.toList).map fun ps => .build (z.cells.toList.map ofCell) ps else none
  | .buildSlice t len parts =>
    match P.underlying t with
    | some (.slice e) => (szP P e).bind fun k => (zeroP P e).bind fun z =>
        if len * k > 2 ^ 24 ∨ k = 0 ∨ z.cells.size ≠ k then none else
        some (.bslice k e len (((Array.range (len * k)).map (z.cells[· % z.cells.size]!)).toList.map ofCell) (parts.toList.map fun (i, x) => (i * k, k, x)))
    | _ => none
  | .load t a => (szP P t).bind fun n => (isAggP P t).bind fun ag => if ag then some (.load true n a) else if n = 1 then some (.load false 1 a) else none
  | .store t a x => (szP P t).map fun n => .store n a x
  | .fieldAddr s x f =>
    match P.underlying s with
    | some (.struct fs) => (fs[f]?).bind fun fl => (szP P fl.type).bind fun n => if n = 0 then none else some (.add fl.offset x)
    | _ => none
  | .indexAddr t x i =>
    match P.underlying t with
    | some (.slice e) => (szP P e).map fun k => .idxS k x i
    | some (.array n e) => (szP P e).map fun k => .idxA k n x i
    | _ => none
  | .field t x f =>
    match P.underlying t with
    | some (.struct fs) => (fs[f]?).bind fun fl => (szP P fl.type).bind fun n => (isAggP P fl.type).map fun ag => .part ag n fl.offset x
    | _ => none
  | .index t x i =>
    match P.underlying t with
    | some .string => some (.ixs t x i)
    | _ => none
  | .extract x n => some (.ext n x)
  | .nilCheck x => some (.nilchk x)
  | .binOp op t x y _ =>
    match op, P.underlying t with
    | .eql, some .bool => some (.eqB false x y)
    | .neq, some .bool => some (.eqB true x y)
    | .eql, some (.pointer _) => some (.eqP false x y)
    | .neq, some (.pointer _) => some (.eqP true x y)
    | .eql, some (.struct _) => some (.eqA false t x y)
    | .neq, some (.struct _) => some (.eqA true t x y)
    | .eql, some (.array _ _) => some (.eqA false t x y)
    | .neq, some (.array _ _) => some (.eqA true t x y)
    | _, _ => some (.bin op t x y)
  | .unOp op _ x => some (.un op x)
  | .convert s d x =>
    match P.underlying s, P.underlying d with
    | some (.int _), some (.int k) => some (.convI k x)
    | _, _ => some (.conv s d x)
  | .slice t x lo hi mx =>
    match P.underlying t with
    | some (.slice e) => (szP P e).map fun k => .slc k x lo hi mx
    | some (.array n e) => (szP P e).bind fun k => if mx.isSome then none else some (.slcA k n x lo hi)
    | some .string => if mx.isSome then none else some (.slcStr t x lo hi)
    | _ => none
  | .makeSlice t n c =>
    match P.underlying t with
    | some (.slice e) => (P.info? e).bind fun i => i.zero.bind fun z => if i.size = 0 ∨ z.cells.size ≠ i.size then none else some (.mk t e i.size i.bytes (z.cells.toList.map ofCell) n c)
    | _ => none
  | .sliceToArrayPointer t x =>
    match P.underlying t with
    | some (.array n _) => some (.arr n x)
    | _ => none
  | .call c =>
    match c.callee with
    | .value (.func f) => if callP P f then some (.call f c.args.toList) else some (.xcall f c.args.toList)
    | .builtin .len =>
      match c.args.toList, c.argTypes.toList with
      | [x], [t] => (match P.underlying t with | some (.slice _) => some (.len false x) | some .string => some (.len true x) | _ => none)
      | _, _ => none
    | .builtin .append =>
      match c.args.toList, c.argTypes.toList with
      | [s, x], [t, t'] => if t = t' then (match P.underlying t with
          | some (.slice e) => (P.info? e).bind fun i => i.zero.bind fun z => if i.size = 0 ∨ z.cells.size ≠ i.size ∨ i.bytes = 0 then none else some (.app t e i.size i.bytes s x)
          | _ => none) else none
      | _, _ => none
    | .builtin .copy =>
      match c.args.toList, c.argTypes.toList with
      | [d, s], [t, t'] => if t = t' then (match P.underlying t with
          | some (.slice e) => (szP P e).map fun k => .copy k d s
          | _ => none) else none
      | _, _ => none
    | .builtin b => some (.bi b c.argTypes o.type (c.args.map fun | .const _ => true | _ => false) c.args.toList)
    | _ => none
  | _ => none


/-- What is known of an operation that is read as this. -/
def Spec (P : Program) (o : Oper) : VI → Prop
  | .mv x => o.op = .move x ∨ o.op = .assign x
  | .pick c a b => o.op = .pick c a b
  | .newv cs => ∃ e z, o.op = .alloc e ∧ zeroP P e = some z ∧ cs = z.cells.toList.map ofCell
  | .box e x => o.op = .box e x
  | .build zs ps => ∃ t parts z, o.op = .build t parts ∧ zeroP P t = some z ∧ partsP P t parts.toList = some ps ∧ (∀ fs, P.underlying t = some (.struct fs) → ∀ f ∈ fs.toList, (szP P f.type).isSome = true) ∧ zs = z.cells.toList.map ofCell
  | .bslice k e n zs ps => ∃ t parts z, o.op = .buildSlice t n parts ∧ P.underlying t = some (.slice e) ∧ szP P e = some k ∧ zeroP P e = some z ∧ n * k ≤ 2 ^ 24 ∧ k ≠ 0 ∧ z.cells.size = k ∧
      zs = ((Array.range (n * k)).map (z.cells[· % z.cells.size]!)).toList.map ofCell ∧ ps = parts.toList.map fun (i, x) => (i * k, k, x)
  | .load agg n a => ∃ t, o.op = .load t a ∧ szP P t = some n ∧ isAggP P t = some agg ∧ (agg = false → n = 1)
  | .store n a x => ∃ t, o.op = .store t a x ∧ szP P t = some n
  | .add off x => ∃ st fs f fl n, o.op = .fieldAddr st x f ∧ P.underlying st = some (.struct fs) ∧ fs[f]? = some fl ∧ szP P fl.type = some n ∧ n ≠ 0 ∧ off = fl.offset
  | .idxS k x i => ∃ t e, o.op = .indexAddr t x i ∧ P.underlying t = some (.slice e) ∧ szP P e = some k
  | .idxA k n x i => ∃ t e, o.op = .indexAddr t x i ∧ P.underlying t = some (.array n e) ∧ szP P e = some k
  | .part agg n off x => ∃ t fs f fl, o.op = .field t x f ∧ P.underlying t = some (.struct fs) ∧ fs[f]? = some fl ∧ szP P fl.type = some n ∧ isAggP P fl.type = some agg ∧ off = fl.offset
  | .ext n x => o.op = .extract x n
  | .len str x => ∃ t, o.op = .call { callee := .builtin .len, args := #[x], argTypes := #[t] } ∧ (if str then P.underlying t = some .string else ∃ e, P.underlying t = some (.slice e))
  | .nilchk x => o.op = .nilCheck x
  | .bin op t x y => ∃ t', o.op = .binOp op t x y t'
  | .eqB neg x y => ∃ t t', o.op = .binOp (if neg then .neq else .eql) t x y t' ∧ P.underlying t = some .bool
  | .eqP neg x y => ∃ t t' e, o.op = .binOp (if neg then .neq else .eql) t x y t' ∧ P.underlying t = some (.pointer e)
  | .eqA neg t x y => ∃ t', o.op = .binOp (if neg then .neq else .eql) t x y t'
  | .un op x => ∃ t, o.op = .unOp op t x
  | .conv a b x => o.op = .convert a b x
  | .convI k x => ∃ a b k', o.op = .convert a b x ∧ P.underlying a = some (.int k') ∧ P.underlying b = some (.int k)
  | .bi b ats ty cs xs => ∃ args, o.op = .call { callee := .builtin b, args := args, argTypes := ats } ∧ ty = o.type ∧ xs = args.toList ∧ cs = args.map fun | .const _ => true | _ => false
  | .ixs t x i => o.op = .index t x i ∧ P.underlying t = some .string
  | .slc k x lo hi mx => ∃ t e, o.op = .slice t x lo hi mx ∧ P.underlying t = some (.slice e) ∧ szP P e = some k
  | .slcA k n x lo hi => ∃ t e, o.op = .slice t x lo hi none ∧ P.underlying t = some (.array n e) ∧ szP P e = some k
  | .slcStr t x lo hi => o.op = .slice t x lo hi none ∧ P.underlying t = some .string
  | .mk t e k bytes zs n c => ∃ i z, o.op = .makeSlice t n c ∧ P.underlying t = some (.slice e) ∧ P.info? e = some i ∧ i.zero = some z ∧ i.size = k ∧ i.bytes = bytes ∧ k ≠ 0 ∧ z.cells.size = k ∧ zs = z.cells.toList.map ofCell
  | .app t e k bytes x y => ∃ i z, o.op = .call { callee := .builtin .append, args := #[x, y], argTypes := #[t, t] } ∧ P.underlying t = some (.slice e) ∧ P.info? e = some i ∧ i.zero = some z ∧ i.size = k ∧ i.bytes = bytes ∧ k ≠ 0 ∧ z.cells.size = k ∧ bytes ≠ 0
  | .copy k x y => ∃ t e, o.op = .call { callee := .builtin .copy, args := #[x, y], argTypes := #[t, t] } ∧ P.underlying t = some (.slice e) ∧ szP P e = some k
  | .call f xs => ∃ args ats, o.op = .call { callee := .value (.func f), args := args, argTypes := ats } ∧ xs = args.toList ∧ callP P f = true
  | .xcall f xs => ∃ args ats, o.op = .call { callee := .value (.func f), args := args, argTypes := ats } ∧ xs = args.toList
  | .bad => True
  | .arr n x => ∃ t e, o.op = .sliceToArrayPointer t x ∧ P.underlying t = some (.array n e)

theorem list1 {α : Type} {a : Array α} {x : α} (h : a.toList = [x]) : a = #[x] := by rw [← Array.toArray_toList (xs := a), h]
theorem list2 {α : Type} {a : Array α} {x y : α} (h : a.toList = [x, y]) : a = #[x, y] := by rw [← Array.toArray_toList (xs := a), h]

theorem spec_of {P : Program} {o : Oper} {i : VI} (h : compileI P o = some i) : Spec P o i := by
  unfold compileI at h
  split at h
  case h_1 x e => injection h with h; subst h; exact .inl e
  case h_2 x e => injection h with h; subst h; exact .inr e
  case h_3 c a b e => injection h with h; subst h; exact e
  case h_4 t e =>
    obtain ⟨z, hz, rfl⟩ := Option.map_eq_some_iff.1 h
    exact ⟨t, z, e, hz, rfl⟩
  case h_5 t x e => injection h with h; subst h; exact e
  case h_6 t parts e =>
    split at h
    · rename_i hall
      obtain ⟨z, hz, h⟩ := Option.bind_eq_some_iff.1 h
      obtain ⟨ps, hp, rfl⟩ := Option.map_eq_some_iff.1 h
      refine ⟨t, parts, z, e, hz, hp, fun fs hfs => ?_, rfl⟩
      unfold fieldsOK at hall
      rw [hfs] at hall
      exact List.all_eq_true.1 hall
    · cases h
  case h_7 t len parts e =>
    split at h
    · rename_i el hu
      obtain ⟨k, hk, h⟩ := Option.bind_eq_some_iff.1 h
      obtain ⟨z, hz, h⟩ := Option.bind_eq_some_iff.1 h
      split at h
      · cases h
      · rename_i hn
        injection h with h; subst h
        exact ⟨t, parts, z, e, hu, hk, hz, by omega, by omega, by omega, rfl, rfl⟩
    · cases h
  case h_8 t a e =>
    obtain ⟨n, hn, h⟩ := Option.bind_eq_some_iff.1 h
    obtain ⟨ag, hg, h⟩ := Option.bind_eq_some_iff.1 h
    split at h
    · rename_i ha; injection h with h; subst h; subst ha; exact ⟨t, e, hn, hg, by simp⟩
    · split at h
      · rename_i ha h1; injection h with h; subst h; subst h1
        obtain rfl : ag = false := by simpa using ha
        exact ⟨t, e, hn, hg, fun _ => rfl⟩
      · cases h
  case h_9 t a x e =>
    obtain ⟨n, hn, rfl⟩ := Option.map_eq_some_iff.1 h
    exact ⟨t, e, hn⟩
  case h_10 t x f e =>
    split at h
    · rename_i fs hu
      obtain ⟨fl, hf, h⟩ := Option.bind_eq_some_iff.1 h
      obtain ⟨n, hn, h⟩ := Option.bind_eq_some_iff.1 h
      split at h
      · cases h
      · rename_i h0; injection h with h; subst h; exact ⟨t, fs, f, fl, n, e, hu, hf, hn, h0, rfl⟩
    · cases h
  case h_11 t x i e =>
    split at h
    · rename_i el hu
      obtain ⟨n, hn, rfl⟩ := Option.map_eq_some_iff.1 h
      exact ⟨t, el, e, hu, hn⟩
    · rename_i len el hu
      obtain ⟨n, hn, rfl⟩ := Option.map_eq_some_iff.1 h
      exact ⟨t, el, e, hu, hn⟩
    · cases h
  case h_12 t x f e =>
    split at h
    · rename_i fs hu
      obtain ⟨fl, hf, h⟩ := Option.bind_eq_some_iff.1 h
      obtain ⟨n, hn, h⟩ := Option.bind_eq_some_iff.1 h
      obtain ⟨ag, ha, rfl⟩ := Option.map_eq_some_iff.1 h
      exact ⟨t, fs, f, fl, e, hu, hf, hn, ha, rfl⟩
    · cases h
  case h_13 t x i e =>
    split at h
    · rename_i hu; injection h with h; subst h; exact ⟨e, hu⟩
    · cases h
  case h_14 x n e => injection h with h; subst h; exact e
  case h_15 x e => injection h with h; subst h; exact e
  case h_16 op t x y t' e =>
    split at h <;> injection h with h <;> subst h
    · rename_i hu; exact ⟨t, t', e, hu⟩
    · rename_i hu; exact ⟨t, t', e, hu⟩
    · rename_i hu; exact ⟨t, t', _, e, hu⟩
    · rename_i hu; exact ⟨t, t', _, e, hu⟩
    · exact ⟨t', e⟩
    · exact ⟨t', e⟩
    · exact ⟨t', e⟩
    · exact ⟨t', e⟩
    · exact ⟨t', e⟩
  case h_17 op t x e => injection h with h; subst h; exact ⟨t, e⟩
  case h_18 a b x e =>
    split at h <;> injection h with h <;> subst h
    · rename_i h1 h2; exact ⟨a, b, _, e, h1, h2⟩
    · exact e
  case h_19 t x lo hi mx e =>
    split at h
    · rename_i el hu
      obtain ⟨n, hn, rfl⟩ := Option.map_eq_some_iff.1 h
      exact ⟨t, el, e, hu, hn⟩
    · rename_i len el hu
      obtain ⟨n, hn, h⟩ := Option.bind_eq_some_iff.1 h
      split at h
      · cases h
      · rename_i hm; injection h with h; subst h
        obtain rfl : mx = none := by simpa using hm
        exact ⟨t, el, e, hu, hn⟩
    · rename_i hu
      split at h
      · cases h
      · rename_i hm; injection h with h; subst h
        obtain rfl : mx = none := by simpa using hm
        exact ⟨e, hu⟩
    · cases h
  case h_20 t n c e =>
    split at h
    · rename_i el hu
      obtain ⟨i, hi, h⟩ := Option.bind_eq_some_iff.1 h
      obtain ⟨z, hz, h⟩ := Option.bind_eq_some_iff.1 h
      split at h
      · cases h
      · rename_i h0; injection h with h; subst h
        exact ⟨i, z, e, hu, hi, hz, rfl, rfl, by omega, by omega, rfl⟩
    · cases h
  case h_21 t x e =>
    split at h
    · rename_i n el hu; injection h with h; subst h; exact ⟨t, el, e, hu⟩
    · cases h
  case h_22 c e =>
    obtain ⟨callee, args, ats⟩ := c
    simp only at h
    split at h
    · rename_i f
      split at h
      · rename_i hp; injection h with h; subst h; exact ⟨args, ats, e, rfl, hp⟩
      · injection h with h; subst h; exact ⟨args, ats, e, rfl⟩
    · skip
      split at h
      · rename_i x t h1 h2
        obtain rfl := list1 h1
        obtain rfl := list1 h2
        split at h
        · rename_i el hu; injection h with h; subst h; exact ⟨t, e, ⟨el, hu⟩⟩
        · rename_i hu; injection h with h; subst h; exact ⟨t, e, hu⟩
        · cases h
      · cases h
    · skip
      split at h
      · rename_i x y t t' h1 h2
        obtain rfl := list2 h1
        obtain rfl := list2 h2
        split at h
        · rename_i htt; subst htt
          split at h
          · rename_i el hu
            obtain ⟨i, hi, h⟩ := Option.bind_eq_some_iff.1 h
            obtain ⟨z, hz, h⟩ := Option.bind_eq_some_iff.1 h
            split at h
            · cases h
            · rename_i h0; injection h with h; subst h
              exact ⟨i, z, e, hu, hi, hz, rfl, rfl, by omega, by omega, by omega⟩
          · cases h
        · cases h
      · cases h
    · skip
      split at h
      · rename_i x y t t' h1 h2
        obtain rfl := list2 h1
        obtain rfl := list2 h2
        split at h
        · rename_i htt; subst htt
          split at h
          · rename_i el hu
            obtain ⟨k, hk, rfl⟩ := Option.map_eq_some_iff.1 h
            exact ⟨t, el, e, hu, hk⟩
          · cases h
        · cases h
      · cases h
    · rename_i b _ _ _
      injection h with h; subst h
      exact ⟨args, e, rfl, rfl, rfl⟩
    · cases h
  case h_23 => cases h

/-- What an operation does to a state: whatever it comes to is among K; k: does all that was there stay as it was? -/
def Does (C : Ctx) (i : VI) (d : Option Nat) (s : St) (k : Bool) (K : St → Prop) : Prop :=
  ∀ o : Oper, Spec C.P o i → o.dst = d → (∀ j, d = some j → j < C.nt) →
    ∀ β a w, R C s β a w → ∀ (next : Act → World → Prop) (Q : Exit → Act → World → Prop), (∀ s' β' a' w', K s' → R C s' β' a' w' → (k = true → Kept (fun _ => False) w w') → next a' w') → o.wp C.P a w next Q

/-- It yields a value, the same in every later world in which what was there is as it was, and does nothing else. -/
def Quiet (C : Ctx) (i : VI) (s : St) (x : S) : Prop :=
  ∀ o : Oper, Spec C.P o i → ∀ β a w, R C s β a w → ∃ v, (∀ w', Kept (fun _ => False) w w' → (execOp a.eval o).run C.P w' = .ok (.value v) w') ∧ RelS w s.st β (C.I s.st β w) x v

/-- A quiet operation. -/
theorem Quiet.does {C : Ctx} {i : VI} {d : Option Nat} {s : St} {x : S} (h : Quiet C i s x) : Does C i d s true (· = s.put d x) := by
  intro o ho hd hn β a w hR next Q hK
  obtain ⟨v, hv, hr⟩ := h o ho β a w hR
  unfold Oper.wp
  rw [hv w (Kept.refl _ _)]
  show next (a.put o.dst v) w
  rw [hd]
  exact hK _ β _ w rfl (hR.putAny hr hn) fun _ => Kept.refl _ _

/-- It yields a value in a new world and store. -/
theorem does_new {C : Ctx} {i : VI} {d : Option Nat} {s : St} {x : S} {env' : Env} {st' : Store} {k : Bool}
    (h : ∀ o : Oper, Spec C.P o i → ∀ β a w, R C s β a w → ∃ v w' β', (execOp a.eval o).run C.P w = .ok (.value v) w' ∧ R C ⟨env', st'⟩ β' a w' ∧ RelS w' st' β' (C.I st' β' w') x v ∧ (k = true → Kept (fun _ => False) w w')) : Does C i d s k (· = (⟨env', st'⟩ : St).put d x) := by
  intro o ho hd hn β a w hR next Q hK
  obtain ⟨v, w', β', hv, h1, h2, h3⟩ := h o ho β a w hR
  unfold Oper.wp
  rw [hv]
  show next (a.put o.dst v) w'
  rw [hd]
  exact hK _ β' _ w' rfl (h1.putAny h2 hn) h3

theorem Kept.cell {w w' : World} (h : Kept (fun _ => False) w w') {a : Addr} {u : Value} (hc : w.cell? a = some u) : w'.cell? a = some u := by
  have hlt : a.block < w.heap.size := by
    unfold World.cell? at hc
    split at hc
    · rename_i hh; exact (Array.getElem?_eq_some_iff.1 hh).1
    · cases hc
  rw [cell_of_heap (h.block a.block hlt (fun h => h))]
  exact hc

/-! ### values -/
theorem RelS.plain {w : World} {st : Store} {β : Nat → Option Nat} {I : Nat → Prop} {x u : Value} (h : RelS w st β I (.one (.v x)) u) : u = x := by
  cases h with | one h => cases h with | v h => rfl
theorem RelS.v {w : World} {st : Store} {β : Nat → Option Nat} {I : Nat → Prop} {x : Value} (h : x.oneCell' = true) : RelS w st β I (.one (.v x)) x := .one (.v h)
theorem RelS.t {w : World} {st : Store} {β : Nat → Option Nat} {I : Nat → Prop} {t : T} {u : Value} (h : RelS w st β I (.one t) u) : RelT w st β I t u := by
  cases h with | one h => exact h
theorem addr_add (b off n : Nat) : (⟨b, off, none⟩ : Addr).add n = ⟨b, off + n, none⟩ := by unfold Addr.add; split <;> simp_all

section
variable {C : Ctx} {d : Option Nat} {s : St}

theorem does_mv {x : Operand} {y : S} (hx : s.ev x = y) : Quiet C (.mv x) s y := by
  refine fun o ho β a w hR => ?_
  subst hx
  refine ⟨a.eval x, fun w' hk' => ?_, hR.ev x⟩
  rcases ho with ho | ho <;> simp [execOp, ho]
theorem does_pick {c x y : Operand} {b : Bool} {p q : S} (hc : s.ev c = .one (.v (.bool b))) (hx : s.ev x = p) (hy : s.ev y = q) : Quiet C (.pick c x y) s (bif b then p else q) := by
  refine fun o ho β a w hR => ?_
  subst hx; subst hy
  have h1 := (hc ▸ hR.ev c).plain
  replace ho : o.op = .pick c x y := ho
  refine ⟨if b then a.eval x else a.eval y, fun w' hk' => by simp [execOp, ho, h1, asBool], ?_⟩
  cases b
  · exact hR.ev y
  · exact hR.ev x
theorem does_ext {x : Operand} {n : Nat} {l : List S} {y : S} (hx : s.ev x = .tup l) (hy : l[n]? = some y) : Quiet C (.ext n x) s y := by
  refine fun o ho β a w hR => ?_
  have h1 := hx ▸ hR.ev x
  replace ho : o.op = .extract x n := ho
  generalize hv : a.eval x = v at h1
  cases h1 with
  | tup hs h =>
    rename_i vs
    have hn : n < vs.size := by
      have := (List.getElem?_eq_some_iff.1 hy).1
      omega
    exact ⟨vs[n], fun w' hk' => by simp [execOp, ho, hv, Instr.extract, Array.getElem?_eq_getElem hn], h n y _ hy (by simp [Array.getElem?_eq_getElem hn])⟩
/-- Pointers into a region, the region being there. -/
theorem R.ptr {β : Nat → Option Nat} {a : Act} {w : World} (hR : R C s β a w) {x : Operand} {r off : Nat} {g : Reg} (hx : s.ev x = .one (.ptr r off)) (hg : sget s.st r = some g) : ∃ b, β r = some b ∧ a.eval x = .pointer (some ⟨b, off, none⟩) := by
  have h1 := (hx ▸ hR.ev x).t
  exact h1 (by rw [hg]; rfl)
theorem R.psl {β : Nat → Option Nat} {a : Act} {w : World} (hR : R C s β a w) {x : Operand} {off : Nat} {cs : List T} (hx : s.ev x = .one (.psl cs off)) :
    ∃ (b o : Nat) (us : Nat → Value), C.I s.st β w b ∧ a.eval x = .pointer (some ⟨b, o + off, none⟩) ∧ (∀ j t, cs[j]? = some t → w.cell? ⟨b, o + j, none⟩ = some (us j)) ∧ (∀ j t, cs[j]? = some t → Rep w (C.I s.st β w) t (us j)) :=
  (hx ▸ hR.ev x).t
theorem does_nilchk_ptr {x : Operand} {r off : Nat} {g : Reg} (hx : s.ev x = .one (.ptr r off)) (hg : sget s.st r = some g) : Quiet C (.nilchk x) s (.one (.ptr r off)) := by
  refine fun o ho β a w hR => ?_
  obtain ⟨b, hb, hv⟩ := hR.ptr hx hg
  replace ho : o.op = .nilCheck x := ho
  exact ⟨_, fun w' hk' => by simp [execOp, ho, hv], .one fun _ => ⟨b, hb, rfl⟩⟩
end

/-! ### cells in memory -/
/-- These cells stand from an address on. -/
def CellsAt (w : World) (st : Store) (β : Nat → Option Nat) (I : Nat → Prop) (b off : Nat) (ts : List T) : Prop :=
  ∀ (j : Nat) (t : T), ts[j]? = some t → ∃ u, w.cell? ⟨b, off + j, none⟩ = some u ∧ RelT w st β I t u

theorem cell_row {w : World} {g i : Nat} {cs : Array Value} {t : TypeId} {fr : Nat × Nat} (h : w.heap[g]? = some (.cells cs t fr)) : w.cell? ⟨g, i, none⟩ = cs[i]? := by simp [World.cell?, h]

theorem CellsAt.load {P : Program} {w : World} {st : Store} {β : Nat → Option Nat} {I : Nat → Prop} {b off : Nat} {ts : List T} (h : CellsAt w st β I b off ts) :
    ∃ us : Array Value, (∀ w', Kept (fun _ => False) w w' → (loadCells ⟨b, off, none⟩ ts.length).run P w' = .ok us w') ∧ us.size = ts.length ∧ ∀ (j : Nat) (t : T) (u : Value), ts[j]? = some t → us[j]? = some u → RelT w st β I t u := by
  have hex : ∀ j : Nat, ∃ u : Value, ∀ t, ts[j]? = some t → w.cell? ⟨b, off + j, none⟩ = some u ∧ RelT w st β I t u := by
    intro j
    cases hj : ts[j]? with
    | none => exact ⟨undef, fun t ht => by cases ht⟩
    | some t =>
      obtain ⟨u, h1, h2⟩ := h j t hj
      exact ⟨u, fun t' ht => by injection ht with ht; subst ht; exact ⟨h1, h2⟩⟩
  let us : Nat → Value := fun j => (hex j).choose
  have hus : ∀ j t, ts[j]? = some t → w.cell? ⟨b, off + j, none⟩ = some (us j) ∧ RelT w st β I t (us j) := fun j => (hex j).choose_spec
  refine ⟨((List.range ts.length).map us).toArray, fun w' hk' => run_loadCells w' _ _ us (fun j hj => ?_), by simp, fun j t u hj hu => ?_⟩
  · have := hk'.cell (hus j _ (List.getElem?_eq_getElem hj)).1
    rwa [addr_add]
  · have hj' : j < ts.length := (List.getElem?_eq_some_iff.1 hj).1
    have : u = us j := by
      simp [hj'] at hu
      exact hu.symm
    subst this
    exact (hus j t hj).2

/-- What an address points at: these cells. -/
inductive At (s : St) : S → List T → Prop
  | ptr {r off : Nat} {g : Reg} {ts : List T} (h : sget s.st r = some g) (ht : ∀ (j : Nat) (t : T), ts[j]? = some t → g.cs[off + j]? = some t) (hn : ts ≠ []) : At s (.one (.ptr r off)) ts
  | psl {cs ts : List T} {off : Nat} (ht : ∀ (j : Nat) (t : T), ts[j]? = some t → cs[off + j]? = some t) : At s (.one (.psl cs off)) ts

theorem StOK.blk {C : Ctx} {st : Store} {β : Nat → Option Nat} {w : World} (h : StOK C st β w) {r : Nat} {g : Reg} (hg : sget st r = some g) (hn : g.cs ≠ []) :
    ∃ b cur ety, β r = some b ∧ w.heap[b]? = some (.cells cur ety (0, 0)) ∧ g.cs.length ≤ cur.size ∧ ∀ (j : Nat) (t : T), g.cs[j]? = some t → ∃ u, cur[j]? = some u ∧ RelT w st β (C.I st β w) t u := by
  have := (h.store r g hg).2
  cases hb : β r with
  | none => rw [hb] at this; exact absurd this hn
  | some b => rw [hb] at this; obtain ⟨cur, ety, h1⟩ := this; exact ⟨b, cur, ety, rfl, h1⟩

theorem At.cells {C : Ctx} {s : St} {x : S} {ts : List T} {β : Nat → Option Nat} {a : Act} {w : World} {u : Value} (h : At s x ts) (hR : R C s β a w) (hx : RelS w s.st β (C.I s.st β w) x u) :
    ∃ b off, u = .pointer (some ⟨b, off, none⟩) ∧ CellsAt w s.st β (C.I s.st β w) b off ts := by
  cases h with
  | ptr h ht hn =>
    rename_i r off g
    have hne : g.cs ≠ [] := by
      intro e
      obtain ⟨t, l, rfl⟩ := List.exists_cons_of_ne_nil hn
      have := ht 0 t rfl
      rw [e] at this
      cases this
    obtain ⟨b, cur, ety, hb, hh, hl, hc⟩ := hR.ok.blk h hne
    obtain ⟨b', hb', rfl⟩ := hx.t (by rw [h]; rfl)
    rw [hb] at hb'
    injection hb' with hb'
    subst hb'
    refine ⟨b, off, rfl, fun j t hj => ?_⟩
    obtain ⟨u, h4, h5⟩ := hc _ t (ht j t hj)
    exact ⟨u, by rw [cell_row hh]; exact h4, h5⟩
  | psl ht =>
    obtain ⟨b, o, us, hI, rfl, hc, hr⟩ := hx.t
    refine ⟨b, _, rfl, fun j t hj => ?_⟩
    have h1 := ht j t hj
    refine ⟨_, ?_, (hr _ t h1).relT⟩
    rw [Nat.add_assoc]
    exact hc _ t h1

theorem take_drop_get {α : Type} (l : List α) (off n : Nat) : ∀ (j : Nat) (t : α), ((l.drop off).take n)[j]? = some t → l[off + j]? = some t := by
  intro j t h
  have hj : j < n := by
    have := (List.getElem?_eq_some_iff.1 h).1
    simp at this
    omega
  rw [List.getElem?_take_of_lt hj, List.getElem?_drop] at h
  exact h

theorem run_isAgg {P : Program} {w : World} {t : TypeId} {ag : Bool} (h : isAggP P t = some ag) : (isAgg t).run P w = .ok ag w := by
  obtain ⟨d, hd, rfl⟩ := Option.map_eq_some_iff.1 h
  unfold isAgg
  simp only [Sem.run_bind, run_underlying hd, Result.andThen_ok]
  cases d <;> rfl
theorem run_size {P : Program} {w : World} {t : TypeId} {n : Nat} (h : szP P t = some n) : (sizeOf t).run P w = .ok n w := by
  obtain ⟨i, hi, rfl⟩ := Option.map_eq_some_iff.1 h
  simp [sizeOf, typeInfo, hi]
theorem run_zero {P : Program} {w : World} {t : TypeId} {z : Value} (h : zeroP P t = some z) : (zeroValue t).run P w = .ok z w := by
  obtain ⟨i, hi, hz⟩ := Option.bind_eq_some_iff.1 h
  simp [zeroValue, typeInfo, hi, hz]

section
variable {C : Ctx} {d : Option Nat} {s : St}
theorem does_loadA {x : Operand} {n : Nat} {y : S} {ts : List T} (hx : s.ev x = y) (h : At s y ts) (hn : ts.length = n) : Quiet C (.load true n x) s (.agg ts) := by
  refine fun o ho β a w hR => ?_
  obtain ⟨t, ho, hs, ha, _⟩ := ho
  obtain ⟨b, off, hu, hc⟩ := h.cells hR (hx ▸ hR.ev x)
  obtain ⟨us, h1, h2, h3⟩ := hc.load (P := C.P)
  refine ⟨.agg us, fun w' hk' => ?_, .agg h2 h3⟩
  subst hn
  simp [execOp, ho, Instr.loadAt, hu, Instr.sureAddr, loadVar, run_isAgg ha, run_size hs, h1 w' hk']
theorem does_load1 {x : Operand} {y : S} {t : T} (hx : s.ev x = y) (h : At s y [t]) : Quiet C (.load false 1 x) s (.one t) := by
  refine fun o ho β a w hR => ?_
  obtain ⟨ty, ho, hs, ha, _⟩ := ho
  obtain ⟨b, off, hu, hc⟩ := h.cells hR (hx ▸ hR.ev x)
  obtain ⟨u, h1, h2⟩ := hc 0 t rfl
  refine ⟨u, fun w' hk' => ?_, .one h2⟩
  rw [Nat.add_zero] at h1
  simp [execOp, ho, Instr.loadAt, hu, Instr.sureAddr, loadVar, run_isAgg ha, hk'.cell h1]
/-- Ready forms. -/
theorem does_load1_ptr {x : Operand} {r off : Nat} {g : Reg} {t : T} (hx : s.ev x = .one (.ptr r off)) (hg : sget s.st r = some g) (ht : g.cs[off]? = some t) : Quiet C (.load false 1 x) s (.one t) :=
  does_load1 hx (.ptr hg (fun j u hj => by cases j with | zero => simp at hj; subst hj; exact ht | succ j => simp at hj) (by simp))
theorem does_load1_psl {x : Operand} {off : Nat} {cs : List T} {t : T} (hx : s.ev x = .one (.psl cs off)) (ht : cs[off]? = some t) : Quiet C (.load false 1 x) s (.one t) :=
  does_load1 hx (.psl fun j u hj => by cases j with | zero => simp at hj; subst hj; exact ht | succ j => simp at hj)
theorem does_loadA_ptr {x : Operand} {r off n : Nat} {g : Reg} {ts : List T} (hx : s.ev x = .one (.ptr r off)) (hg : sget s.st r = some g) (ht : (g.cs.drop off).take n = ts) (hn : ts.length = n) (h0 : n ≠ 0) : Quiet C (.load true n x) s (.agg ts) :=
  does_loadA hx (.ptr hg (by rw [← ht]; exact take_drop_get _ _ _) (by intro e; subst e; simp at hn; omega)) hn
theorem does_add_ptr {x : Operand} {n r off : Nat} {g : Reg} (hx : s.ev x = .one (.ptr r off)) (hg : sget s.st r = some g) : Quiet C (.add n x) s (.one (.ptr r (off + n))) := by
  refine fun o ho β a w hR => ?_
  obtain ⟨st, fs, f, fl, m, ho, hu, hf, hm, h0, rfl⟩ := ho
  obtain ⟨b, hb, hv⟩ := hR.ptr hx hg
  refine ⟨.pointer (some ⟨b, off + fl.offset, none⟩), fun w' hk' => ?_, .one fun _ => ⟨b, hb, rfl⟩⟩
  simp [execOp, ho, hv, Instr.fieldAt, run_underlying hu, hf, Instr.sureAddr, fieldPlace, run_size hm, h0, addr_add]
theorem does_add_psl {x : Operand} {n off : Nat} {cs : List T} (hx : s.ev x = .one (.psl cs off)) : Quiet C (.add n x) s (.one (.psl cs (off + n))) := by
  refine fun o ho β a w hR => ?_
  obtain ⟨st, fs, f, fl, m, ho, hu, hf, hm, h0, rfl⟩ := ho
  obtain ⟨b, o', us, h2, hv, h3⟩ := hR.psl hx
  refine ⟨.pointer (some ⟨b, o' + (off + fl.offset), none⟩), fun w' hk' => ?_, .one ⟨b, o', us, h2, rfl, h3⟩⟩
  simp [execOp, ho, hv, Instr.fieldAt, run_underlying hu, hf, Instr.sureAddr, fieldPlace, run_size hm, h0, addr_add, Nat.add_assoc]

/-- An element of a slice, by its index. -/
theorem does_idx_sl {x i : Operand} {k n : Nat} {cs : List T} {ik : IntKind} {m : Int} (hx : s.ev x = .one (.sl cs n)) (hi : s.ev i = .one (.v (.int ik m))) (h0 : 0 ≤ m) (h1 : m < n) :
    Quiet C (.idxS k x i) s (.one (.psl cs (m.toNat * k))) := by
  refine fun o ho β a w hR => ?_
  obtain ⟨t, e, ho, hu, hk⟩ := ho
  have hm := (hi ▸ hR.ev i).plain
  have h2 := (hx ▸ hR.ev x).t
  generalize hv : a.eval x = v at h2
  cases h2 with
  | sl0 A cap => simp at h1; omega
  | sl us hI hc hr hn =>
    rename_i b off cap
    refine ⟨.pointer (some ⟨b, off + m.toNat * k, none⟩), fun w' hk' => ?_, .one ⟨b, off, us, hI, rfl, hc, hr⟩⟩
    simp [execOp, ho, hv, hm, Instr.indexAt, asIntOf, run_underlying hu, h0, h1, run_size hk, addr_add]
theorem does_idx_own {x i : Operand} {k r off n : Nat} {g : Reg} {ap : Option (Nat × TypeId)} {ik : IntKind} {m : Int} (hx : s.ev x = .one (.own r off n ap)) (hg : sget s.st r = some g) (hi : s.ev i = .one (.v (.int ik m))) (h0 : 0 ≤ m) (h1 : m < n) :
    Quiet C (.idxS k x i) s (.one (.ptr r (off + m.toNat * k))) := by
  refine fun o ho β a w hR => ?_
  obtain ⟨t, e, ho, hu, hk⟩ := ho
  have hm := (hi ▸ hR.ev i).plain
  have h2 := (hx ▸ hR.ev x).t (by rw [hg]; rfl)
  unfold OwnOK at h2
  cases hb : β r with
  | none => rw [hb] at h2; omega
  | some b =>
    rw [hb] at h2
    obtain ⟨A, cap, cur, ety, hv, hh, hA, hn, _⟩ := h2
    obtain rfl := hA (by omega)
    refine ⟨.pointer (some ⟨b, off + m.toNat * k, none⟩), fun w' hk' => ?_, .one fun _ => ⟨b, hb, rfl⟩⟩
    simp [execOp, ho, hv, hm, Instr.indexAt, asIntOf, run_underlying hu, h0, h1, run_size hk, addr_add]
theorem does_idxA_ptr {x i : Operand} {k n r off : Nat} {g : Reg} {ik : IntKind} {m : Int} (hx : s.ev x = .one (.ptr r off)) (hg : sget s.st r = some g) (hi : s.ev i = .one (.v (.int ik m))) (h0 : 0 ≤ m) (h1 : m < n) :
    Quiet C (.idxA k n x i) s (.one (.ptr r (off + m.toNat * k))) := by
  refine fun o ho β a w hR => ?_
  obtain ⟨t, e, ho, hu, hk⟩ := ho
  have hm := (hi ▸ hR.ev i).plain
  obtain ⟨b, hb, hv⟩ := hR.ptr hx hg
  refine ⟨.pointer (some ⟨b, off + m.toNat * k, none⟩), fun w' hk' => ?_, .one fun _ => ⟨b, hb, rfl⟩⟩
  simp [execOp, ho, hv, hm, Instr.indexAt, asIntOf, run_underlying hu, Instr.sureAddr, h0, h1, run_size hk, addr_add]
/-- Length. -/
theorem does_len_v {x : Operand} {n : Nat} (h : ∀ β a w, R C s β a w → ∃ A cap, a.eval x = .slice A n cap) : Quiet C (.len false x) s (.one (.v (.int .i64 n))) := by
  refine fun o ho β a w hR => ?_
  obtain ⟨t, ho, e, hu⟩ := ho
  obtain ⟨A, cap, hv⟩ := h β a w hR
  refine ⟨.int .i64 n, fun w' hk' => ?_, .v rfl⟩
  simp [execOp, ho, hv, resolve, invoke, builtin, Builtin.len_, run_underlying hu, goInt]
theorem does_len_sl {x : Operand} {cs : List T} {n : Nat} (hx : s.ev x = .one (.sl cs n)) : Quiet C (.len false x) s (.one (.v (.int .i64 n))) :=
  does_len_v fun β a w hR => by
    have h2 := (hx ▸ hR.ev x).t
    generalize a.eval x = v at h2
    cases h2 with
    | sl0 A cap => exact ⟨_, _, rfl⟩
    | sl us hI hc hr hn => exact ⟨_, _, rfl⟩
theorem does_len_own {x : Operand} {r off n : Nat} {g : Reg} {ap : Option (Nat × TypeId)} (hx : s.ev x = .one (.own r off n ap)) (hg : sget s.st r = some g) : Quiet C (.len false x) s (.one (.v (.int .i64 n))) :=
  does_len_v fun β a w hR => by
    have h2 := (hx ▸ hR.ev x).t (by rw [hg]; rfl)
    unfold OwnOK at h2
    cases hb : β r with
    | none => rw [hb] at h2; obtain ⟨rfl, h3⟩ := h2; exact ⟨_, _, h3⟩
    | some b => rw [hb] at h2; obtain ⟨A, cap, cur, ety, hv, _⟩ := h2; exact ⟨A, cap, hv⟩
end
end Go.V
