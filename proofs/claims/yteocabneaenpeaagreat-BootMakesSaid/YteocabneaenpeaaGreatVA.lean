/- The V-layer, part A: values without memory, regions, and how a state of these stands to the model's frame and world. No premises. -/
import Derived.Orders
import Derived.Below
import Derived.Maps.AppendAt
import Derived.KernelRfl
import Derived.Laws.World
set_option linter.unusedVariables false
set_option linter.unusedSimpArgs false
namespace Go.V
open Go.RowKit

/-- One cell: a plain value; nil; a slice that nobody writes any more; a slice of an owned region; a pointer into one; a pointer into an unwritten slice; unknown. -/
inductive T where
  | v (x : Value)
  | nil
  | sl (cs : List T) (n : Nat)
  | own (r off n : Nat) (ap : Option (Nat × TypeId))
  | ptr (r off : Nat)
  | psl (cs : List T) (off : Nat)
  | dead
  deriving Inhabited

def T.isPure : T → Bool
  | .v _ => true
  | .nil => true
  | .sl _ _ => true
  | _ => false

inductive S where
  | one (t : T)
  | agg (ts : List T)
  | tup (l : List S)
  deriving Inhabited

/-- A region: does it hold nothing but what hangs on no region? Its cells. -/
structure Reg where
  pure : Bool
  cs : List T
abbrev Store := List (Nat × Reg)
abbrev Env := List (Nat × S)

def sget : Store → Nat → Option Reg
  | [], _ => none
  | (k, c) :: l, r => bif (k == r) then some c else sget l r
def sset : Store → Nat → Reg → Store
  | [], _, _ => []
  | (k, c) :: l, r, x => bif (k == r) then (k, x) :: l else (k, c) :: sset l r x
def sdel : Store → Nat → Store
  | [], _ => []
  | (k, c) :: l, r => bif (k == r) then sdel l r else (k, c) :: sdel l r
def eget : Env → Nat → S
  | [], _ => .one .dead
  | (k, x) :: l, i => bif (k == i) then x else eget l i

theorem beq_false' {a b : Nat} (h : a ≠ b) : (a == b) = false := by
  cases hb : (a == b) with
  | false => rfl
  | true => exact absurd (eq_of_beq hb) h
theorem sget_cons_same (l : Store) (r : Nat) (c : Reg) : sget ((r, c) :: l) r = some c := by simp [sget, beq_self_eq_true]
theorem sget_cons_ne (l : Store) {k r : Nat} (c : Reg) (h : k ≠ r) : sget ((k, c) :: l) r = sget l r := by simp [sget, beq_false' h]
theorem sget_sset_same (l : Store) (r : Nat) (x : Reg) (h : (sget l r).isSome) : sget (sset l r x) r = some x := by
  induction l with
  | nil => simp [sget] at h
  | cons p l ih =>
    obtain ⟨k, c⟩ := p
    cases hb : (k == r) <;> simp only [sget, sset, hb, cond_true, cond_false] at h ⊢
    · exact ih h
theorem sget_sset_ne (l : Store) {r q : Nat} (x : Reg) (h : r ≠ q) : sget (sset l r x) q = sget l q := by
  induction l with
  | nil => rfl
  | cons p l ih =>
    obtain ⟨k, c⟩ := p
    cases hb : (k == r) with
    | true =>
      have : k = r := eq_of_beq hb
      subst this
      simp [sget, sset, hb, beq_false' h]
    | false => cases hq : (k == q) <;> simp [sget, sset, hb, hq, ih]
theorem sget_sset_isSome (l : Store) (r q : Nat) (x : Reg) : (sget (sset l r x) q).isSome = (sget l q).isSome := by
  by_cases h : r = q
  · subst h
    cases hs : (sget l r) with
    | some c => rw [sget_sset_same l r x (by simp [hs])]; rfl
    | none =>
      have : sget (sset l r x) r = none := by
        induction l with
        | nil => rfl
        | cons p l ih =>
          obtain ⟨k, c⟩ := p
          cases hb : (k == r) <;> simp only [sget, sset, hb, cond_true, cond_false] at hs ⊢
          · exact ih hs
          · cases hs
      rw [this]
  · rw [sget_sset_ne l x h]
theorem sget_sdel_same (l : Store) (r : Nat) : sget (sdel l r) r = none := by
  induction l with
  | nil => rfl
  | cons p l ih => obtain ⟨k, c⟩ := p; cases hb : (k == r) <;> simp [sget, sdel, hb, ih]
theorem sget_sdel_ne (l : Store) {r q : Nat} (h : r ≠ q) : sget (sdel l r) q = sget l q := by
  induction l with
  | nil => rfl
  | cons p l ih =>
    obtain ⟨k, c⟩ := p
    cases hb : (k == r) with
    | true =>
      have : k = r := eq_of_beq hb
      subst this
      simp [sget, sdel, hb, beq_false' h, ih]
    | false => cases hq : (k == q) <;> simp [sget, sdel, hb, hq, ih]

/-- A cell that hangs on no region: how it reads in memory that is not written any more ('I': the blocks that are not). -/
inductive Rep (w : World) (I : Nat → Prop) : T → Value → Prop
  | v {x : Value} (h : x.oneCell' = true) : Rep w I (.v x) x
  | nil : Rep w I .nil (.slice none 0 0)
  | sl0 (A : Option Addr) (cap : Nat) : Rep w I (.sl [] 0) (.slice A 0 cap)
  | sl {cs : List T} {n b off cap : Nat} (us : Nat → Value) (hI : I b)
      (hc : ∀ j t, cs[j]? = some t → w.cell? ⟨b, off + j, none⟩ = some (us j))
      (hr : ∀ j t, cs[j]? = some t → Rep w I t (us j)) (hn : n ≤ cap) : Rep w I (.sl cs n) (.slice (some ⟨b, off, none⟩) n cap)

theorem Rep.mono {w w' : World} {I I' : Nat → Prop} (hc : ∀ a : Addr, I a.block → w'.cell? a = w.cell? a) (hI : ∀ b, I b → I' b) {t : T} {u : Value} (h : Rep w I t u) : Rep w' I' t u := by
  induction h with
  | v h => exact .v h
  | nil => exact .nil
  | sl0 A cap => exact .sl0 A cap
  | sl us hb hcell hr hn ih => exact .sl us (hI _ hb) (fun j t hj => (hc _ (by exact hb)).trans (hcell j t hj)) (fun j t hj => ih j t hj) hn

theorem Rep.oneCell {w : World} {I : Nat → Prop} {t : T} {u : Value} (h : Rep w I t u) : u.oneCell' = true := by
  cases h <;> first | assumption | rfl

/-- An owned slice: the value, of a region's block ('none': there is none yet), what the slice may be grown by. -/
def OwnOK (w : World) (B : Option Nat) (off n : Nat) (ap : Option (Nat × TypeId)) (u : Value) : Prop :=
  match B with
  | none => n = 0 ∧ u = .slice none 0 0
  | some b => ∃ A cap cur ety, u = .slice A n cap ∧ w.heap[b]? = some (.cells cur ety (0, 0)) ∧ (0 < n → A = some ⟨b, off, none⟩) ∧ n ≤ cap ∧
      ∀ k e, ap = some (k, e) → off = 0 ∧ A = some ⟨b, 0, none⟩ ∧ cur.size = cap * k ∧ cap ≤ maxLen ∧ ety = e

/-- Any cell. What hangs on a region that is no more says nothing. -/
def RelT (w : World) (st : Store) (β : Nat → Option Nat) (I : Nat → Prop) : T → Value → Prop
  | .own r off n ap, u => (sget st r).isSome = true → OwnOK w (β r) off n ap u
  | .ptr r off, u => (sget st r).isSome = true → ∃ b, β r = some b ∧ u = .pointer (some ⟨b, off, none⟩)
  | .psl cs off, u => ∃ (b o : Nat) (us : Nat → Value), I b ∧ u = .pointer (some ⟨b, o + off, none⟩) ∧ (∀ j t, cs[j]? = some t → w.cell? ⟨b, o + j, none⟩ = some (us j)) ∧ (∀ j t, cs[j]? = some t → Rep w I t (us j))
  | .dead, _ => True
  | .v x, u => Rep w I (.v x) u
  | .nil, u => Rep w I .nil u
  | .sl cs n, u => Rep w I (.sl cs n) u

inductive RelS (w : World) (st : Store) (β : Nat → Option Nat) (I : Nat → Prop) : S → Value → Prop
  | one {t u} (h : RelT w st β I t u) : RelS w st β I (.one t) u
  | agg {ts : List T} {us : Array Value} (hs : us.size = ts.length) (h : ∀ (i : Nat) (t : T) (u : Value), ts[i]? = some t → us[i]? = some u → RelT w st β I t u) : RelS w st β I (.agg ts) (.agg us)
  | tup {l : List S} {vs : Array Value} (hs : vs.size = l.length) (h : ∀ (i : Nat) (s : S) (u : Value), l[i]? = some s → vs[i]? = some u → RelS w st β I s u) : RelS w st β I (.tup l) (.tuple vs)

structure St where
  env : Env
  st : Store

structure Ctx where
  P : Program
  nt : Nat
  E : Nat → Prop
  w0 : World
  I0 : Nat → Prop
  i0 : ∀ b, I0 b → b < w0.heap.size ∧ ¬ E b
  fix : Nat → Option (Option Nat)
  fx : ∀ r, Nat.blt r 100000 = true → fix r = none

/-- The blocks that are not written any more. -/
def Ctx.I (C : Ctx) (st : Store) (β : Nat → Option Nat) (w : World) (b : Nat) : Prop :=
  C.I0 b ∨ ((C.E b ∨ C.w0.heap.size ≤ b) ∧ b < w.heap.size ∧ ∀ r, (sget st r).isSome = true → β r ≠ some b)

/-- What was there is as it was, but in the blocks E; these keep their shape. -/
structure Kept (E : Nat → Prop) (w w' : World) : Prop where
  os : w'.os = w.os
  tape : w'.tape = w.tape
  output : w'.output = w.output
  size : w.heap.size ≤ w'.heap.size
  block : ∀ b, b < w.heap.size → ¬ E b → w'.heap[b]? = w.heap[b]?
  shape : ∀ (b : Nat) cur ety, w.heap[b]? = some (.cells cur ety (0, 0)) → ∃ cur', w'.heap[b]? = some (.cells cur' ety (0, 0)) ∧ cur'.size = cur.size

theorem Kept.refl (E : Nat → Prop) (w : World) : Kept E w w := ⟨rfl, rfl, rfl, Nat.le_refl _, fun _ _ _ => rfl, fun _ cur _ h => ⟨cur, h, rfl⟩⟩

/-- A region as it stands in memory. -/
def RegOK (w : World) (st : Store) (β : Nat → Option Nat) (I : Nat → Prop) (B : Option Nat) (g : Reg) : Prop :=
  (g.pure = true → ∀ t ∈ g.cs, t.isPure = true) ∧
  match B with
  | none => g.cs = []
  | some b => ∃ (cur : Array Value) (ety : TypeId), w.heap[b]? = some (.cells cur ety (0, 0)) ∧ g.cs.length ≤ cur.size ∧ ∀ (j : Nat) (t : T), g.cs[j]? = some t → ∃ u, cur[j]? = some u ∧ RelT w st β I t u

/-- The store's part. -/
structure StOK (C : Ctx) (st : Store) (β : Nat → Option Nat) (w : World) : Prop where
  kept : Kept C.E C.w0 w
  store : ∀ r g, sget st r = some g → RegOK w st β (C.I st β w) (β r) g
  inj : ∀ r r' b, (sget st r).isSome = true → (sget st r').isSome = true → β r = some b → β r' = some b → r = r'
  wher : ∀ r b, (sget st r).isSome = true → β r = some b → C.E b ∨ C.w0.heap.size ≤ b
  fixd : ∀ r b, (sget st r).isSome = true → C.fix r = some b → β r = b

structure R (C : Ctx) (s : St) (β : Nat → Option Nat) (a : Act) (w : World) : Prop where
  ok : StOK C s.st β w
  defers : a.defers = []
  size : a.tmps.size = C.nt
  env : ∀ i, RelS w s.st β (C.I s.st β w) (eget s.env i) (a.tmps.getD i undef)

theorem StOK.lt {C : Ctx} {st : Store} {β : Nat → Option Nat} {w : World} (h : StOK C st β w) {r b : Nat} (hr : (sget st r).isSome = true) (hb : β r = some b) : b < w.heap.size := by
  obtain ⟨g, hc⟩ := Option.isSome_iff_exists.1 hr
  have := (h.store r g hc).2
  rw [hb] at this
  obtain ⟨cur, ety, hh, _⟩ := this
  exact (Array.getElem?_eq_some_iff.1 hh).1

theorem StOK.notI {C : Ctx} {st : Store} {β : Nat → Option Nat} {w : World} (h : StOK C st β w) {r b : Nat} (hr : (sget st r).isSome = true) (hb : β r = some b) : ¬ C.I st β w b := by
  rintro (h0 | ⟨_, _, h1⟩)
  · have := C.i0 _ h0
    rcases h.wher r b hr hb with he | he
    · exact this.2 he
    · omega
  · exact h1 r hr hb

theorem Ctx.I_lt {C : Ctx} {st : Store} {β : Nat → Option Nat} {w : World} (hk : Kept C.E C.w0 w) {b : Nat} (h : C.I st β w b) : b < w.heap.size := by
  rcases h with h0 | ⟨_, h1, _⟩
  · have := C.i0 _ h0; have := hk.size; omega
  · exact h1

/-- How a later state stands to an earlier one: what hangs on no region reads as it did; regions of the later state that were there live on where they were, with their shape. -/
structure Ext (I I' : Nat → Prop) (st st' : Store) (β β' : Nat → Option Nat) (w w' : World) : Prop where
  imm : ∀ b, I b → I' b
  cells : ∀ b, I b → w'.heap[b]? = w.heap[b]?
  reg : ∀ r, (sget st' r).isSome = true → (sget st r).isSome = true ∧ β' r = β r
  shape : ∀ r b, (sget st' r).isSome = true → β r = some b → ∀ cur ety, w.heap[b]? = some (.cells cur ety (0, 0)) → ∃ cur', w'.heap[b]? = some (.cells cur' ety (0, 0)) ∧ cur'.size = cur.size

theorem cell_of_heap {w w' : World} {a : Addr} (h : w'.heap[a.block]? = w.heap[a.block]?) : w'.cell? a = w.cell? a := by
  simp only [World.cell?, h]

/-- Does a cell hang on region r? -/
def T.has (r : Nat) : T → Bool
  | .own q _ _ _ => (q == r)
  | .ptr q _ => (q == r)
  | _ => false
def S.has (r : Nat) : S → Bool
  | .one t => t.has r
  | .agg ts => ts.any (T.has r)
  | .tup l => hasL r l
where hasL (r : Nat) : List S → Bool
  | [] => false
  | s :: l => S.has r s || hasL r l

theorem S.hasL_false {r : Nat} {l : List S} (h : S.has.hasL r l = false) {i : Nat} {s : S} (hi : l[i]? = some s) : s.has r = false := by
  induction l generalizing i with
  | nil => simp at hi
  | cons x l ih =>
    simp only [S.has.hasL, Bool.or_eq_false_iff] at h
    cases i with
    | zero => simp at hi; subst hi; exact h.1
    | succ i => exact ih h.2 (by simpa using hi)

section
variable {I I' : Nat → Prop} {st st' : Store} {β β' : Nat → Option Nat} {w w' : World}
theorem Rep.relT {t : T} {u : Value} (h : Rep w I t u) : RelT w st β I t u := by
  cases h with
  | v h => exact .v h
  | nil => exact .nil
  | sl0 A cap => exact .sl0 A cap
  | sl us hI hc hr hn => exact .sl us hI hc hr hn
/-- As 'Ext', for what does not hang on the regions that 'N' names: these may be new. -/
structure ExtN (N : Nat → Prop) (I I' : Nat → Prop) (st st' : Store) (β β' : Nat → Option Nat) (w w' : World) : Prop where
  imm : ∀ b, I b → I' b
  cells : ∀ b, I b → w'.heap[b]? = w.heap[b]?
  reg : ∀ r, ¬ N r → (sget st' r).isSome = true → (sget st r).isSome = true ∧ β' r = β r
  shape : ∀ r b, ¬ N r → (sget st' r).isSome = true → β r = some b → ∀ cur ety, w.heap[b]? = some (.cells cur ety (0, 0)) → ∃ cur', w'.heap[b]? = some (.cells cur' ety (0, 0)) ∧ cur'.size = cur.size
theorem Ext.toN (h : Ext I I' st st' β β' w w') (N : Nat → Prop) : ExtN N I I' st st' β β' w w' := ⟨h.imm, h.cells, fun r _ => h.reg r, fun r b _ => h.shape r b⟩

theorem Rep.extN {N : Nat → Prop} (h : ExtN N I I' st st' β β' w w') {t : T} {u : Value} (hr : Rep w I t u) : Rep w' I' t u :=
  hr.mono (fun a ha => cell_of_heap (h.cells _ ha)) h.imm
theorem RelT.extN {N : Nat → Prop} (h : ExtN N I I' st st' β β' w w') {t : T} {u : Value} (hN : ∀ r, N r → t.has r = false) (hr : RelT w st β I t u) : RelT w' st' β' I' t u := by
  cases t with
  | v x => exact Rep.extN h hr
  | nil => exact Rep.extN h hr
  | sl cs n => exact Rep.extN h hr
  | dead => trivial
  | ptr r off =>
    intro h3
    have hn : ¬ N r := fun hh => by have := hN r hh; simp [T.has] at this
    obtain ⟨h1, h4⟩ := h.reg r hn h3
    rw [h4]
    exact hr h1
  | own r off n ap =>
    intro h3
    have hn : ¬ N r := fun hh => by have := hN r hh; simp [T.has] at this
    obtain ⟨h1, h4⟩ := h.reg r hn h3
    have h2 := hr h1
    rw [h4]
    unfold OwnOK at h2 ⊢
    cases hb : β r with
    | none => rw [hb] at h2; exact h2
    | some b =>
      rw [hb] at h2
      obtain ⟨A, cap, cur, ety, e1, hh, hA, hn', hap⟩ := h2
      obtain ⟨cur', h5, h6⟩ := h.shape r b hn h3 hb cur ety hh
      refine ⟨A, cap, cur', ety, e1, h5, hA, hn', fun k e hk => ?_⟩
      obtain ⟨a1, a2, a3, a4, a5⟩ := hap k e hk
      exact ⟨a1, a2, by rw [h6]; exact a3, a4, a5⟩
  | psl cs off =>
    obtain ⟨b, o, us, h1, h2, h3, h4⟩ := hr
    exact ⟨b, o, us, h.imm _ h1, h2, fun j t hj => (cell_of_heap (h.cells b h1)).trans (h3 j t hj), fun j t hj => Rep.extN h (h4 j t hj)⟩
theorem RelS.extN {N : Nat → Prop} (h : ExtN N I I' st st' β β' w w') {s : S} {u : Value} (hN : ∀ r, N r → s.has r = false) (hr : RelS w st β I s u) : RelS w' st' β' I' s u := by
  induction hr with
  | one hr => exact .one (RelT.extN h hN hr)
  | agg hs hr =>
    refine .agg hs fun i t u h1 h2 => RelT.extN h (fun r hr' => ?_) (hr i t u h1 h2)
    have := hN r hr'
    simp only [S.has, List.any_eq_false] at this
    have := this t (List.mem_of_getElem? h1)
    simpa using this
  | tup hs hr ih => exact .tup hs fun i s u h1 h2 => ih i s u h1 h2 (fun r hr' => S.hasL_false (hN r hr') h1)
theorem Rep.ext (h : Ext I I' st st' β β' w w') {t : T} {u : Value} (hr : Rep w I t u) : Rep w' I' t u :=
  hr.mono (fun a ha => cell_of_heap (h.cells _ ha)) h.imm
theorem RelT.ext (h : Ext I I' st st' β β' w w') {t : T} {u : Value} (hr : RelT w st β I t u) : RelT w' st' β' I' t u :=
  RelT.extN (h.toN fun _ => False) (fun _ hh => hh.elim) hr
theorem RelS.ext (h : Ext I I' st st' β β' w w') {s : S} {u : Value} (hr : RelS w st β I s u) : RelS w' st' β' I' s u :=
  RelS.extN (h.toN fun _ => False) (fun _ hh => hh.elim) hr
end

/-! ### Evaluation -/
def ofCell (x : Value) : T :=
  match x with
  | .slice none 0 0 => .nil
  | .slice _ _ _ => .dead
  | .agg _ => .dead
  | .tuple _ => .dead
  | x => .v x
def ofConst (x : Value) : S :=
  match x with
  | .agg cs => .agg (cs.toList.map ofCell)
  | .tuple _ => .one .dead
  | x => .one (ofCell x)
def St.ev (s : St) : Operand → S
  | .tmp t => eget s.env t
  | .const v => ofConst v
  | .global g => .one (.v (.pointer (some ⟨g, 0, none⟩)))
  | .func f => .one (.v (.func (.func f) #[] #[]))

theorem rep_ofCell (w : World) (I : Nat → Prop) (x : Value) (h : ofCell x ≠ .dead) : Rep w I (ofCell x) x := by
  unfold ofCell at *
  split
  · exact .nil
  · rename_i h1; simp_all
  · simp_all
  · simp_all
  · rename_i h1 h2 h3 h4
    refine .v ?_
    cases x <;> simp_all [Value.oneCell']
theorem relT_ofCell (w : World) (st : Store) (β : Nat → Option Nat) (I : Nat → Prop) (x : Value) : RelT w st β I (ofCell x) x := by
  by_cases h : ofCell x = .dead
  · rw [h]; trivial
  · exact (rep_ofCell w I x h).relT
theorem relS_ofConst (w : World) (st : Store) (β : Nat → Option Nat) (I : Nat → Prop) (x : Value) : RelS w st β I (ofConst x) x := by
  unfold ofConst
  split
  · refine .agg (by simp) fun i t u h1 h2 => ?_
    rename_i cs
    rw [List.getElem?_map] at h1
    have h2' : cs.toList[i]? = some u := by simpa using h2
    rw [h2'] at h1
    simp at h1
    subst h1
    exact relT_ofCell ..
  · exact .one trivial
  · exact .one (relT_ofCell ..)

theorem R.ev {C : Ctx} {s : St} {β : Nat → Option Nat} {a : Act} {w : World} (h : R C s β a w) (x : Operand) : RelS w s.st β (C.I s.st β w) (s.ev x) (a.eval x) := by
  cases x with
  | tmp t => exact h.env t
  | const v => exact relS_ofConst ..
  | global g => exact .one (.v rfl)
  | func f => exact .one (.v rfl)

def eput (e : Env) (d : Option Nat) (x : S) : Env :=
  match d with
  | some d => (d, x) :: e
  | none => e
def St.put (s : St) (d : Option Nat) (x : S) : St := ⟨eput s.env d x, s.st⟩

/-- A slot written. -/
theorem R.putAny {C : Ctx} {s : St} {β : Nat → Option Nat} {a : Act} {w : World} {d : Option Nat} {x : S} {v : Value} (h : R C s β a w)
    (hv : RelS w s.st β (C.I s.st β w) x v) (hd : ∀ i, d = some i → i < C.nt) : R C (s.put d x) β (a.put d v) w := by
  cases d with
  | none => exact h
  | some d =>
    refine ⟨h.ok, h.defers, by simpa [Act.put] using h.size, fun i => ?_⟩
    have hd' := hd d rfl
    show RelS w s.st β (C.I s.st β w) (bif (d == i) then x else eget s.env i) (((a.tmps.setIfInBounds d v).getD i undef))
    cases hb : (d == i) with
    | true =>
      have : d = i := eq_of_beq hb
      subst this
      have : d < a.tmps.size := by rw [h.size]; exact hd'
      simpa [this] using hv
    | false =>
      have hne : d ≠ i := fun e => by subst e; simp at hb
      have : (a.tmps.setIfInBounds d v).getD i undef = a.tmps.getD i undef := by
        simp only [Array.getD_eq_getD_getElem?]
        rw [Array.getElem?_setIfInBounds_ne hne]
      rw [this]
      exact h.env i

/-- The store turned. -/
theorem R.turn {C : Ctx} {s : St} {β β' : Nat → Option Nat} {a : Act} {w w' : World} {st' : Store} {N : Nat → Prop} (h : R C s β a w)
    (hok : StOK C st' β' w') (hx : ExtN N (C.I s.st β w) (C.I st' β' w') s.st st' β β' w w') (hN : ∀ r, N r → ∀ i, (eget s.env i).has r = false) : R C ⟨s.env, st'⟩ β' a w' :=
  ⟨hok, h.defers, h.size, fun i => RelS.extN hx (fun r hr => hN r hr i) (h.env i)⟩

theorem Ext.refl {I : Nat → Prop} {st : Store} {β : Nat → Option Nat} {w : World} : Ext I I st st β β w w :=
  ⟨fun _ h => h, fun _ _ => rfl, fun _ h => ⟨h, rfl⟩, fun _ _ _ _ cur ety h => ⟨cur, h, rfl⟩⟩

/-- Nothing in a state hangs on region r, and there is none of that number. -/
def St.fresh (s : St) (r : Nat) : Bool := (sget s.st r).isNone && s.env.all (fun p => !p.2.has r) && s.st.all (fun p => p.2.pure || p.2.cs.all fun t => !t.has r) && Nat.blt r 100000

theorem St.fresh_env {s : St} {r : Nat} (h : s.fresh r = true) (i : Nat) : (eget s.env i).has r = false := by
  simp only [St.fresh, Bool.and_eq_true] at h
  have := h.1.1.2
  generalize s.env = e at this
  induction e with
  | nil => rfl
  | cons p e ih =>
    obtain ⟨k, x⟩ := p
    simp only [List.all_cons, Bool.and_eq_true] at this
    simp only [eget]
    cases (k == i)
    · exact ih this.2
    · simpa using this.1
theorem T.has_pure {t : T} (h : t.isPure = true) (r : Nat) : t.has r = false := by
  cases t <;> first | rfl | cases h
theorem mem_of_sget {st : Store} {q : Nat} {g : Reg} (h : sget st q = some g) : (q, g) ∈ st := by
  induction st with
  | nil => cases h
  | cons p l ih =>
    obtain ⟨k, c⟩ := p
    simp only [sget] at h
    cases hb : (k == q)
    · rw [hb] at h; exact List.mem_cons_of_mem _ (ih h)
    · rw [hb] at h
      have : k = q := eq_of_beq hb
      subst this
      injection h with h
      subst h
      exact List.mem_cons_self
theorem St.fresh_st {C : Ctx} {β : Nat → Option Nat} {w : World} {s : St} {r : Nat} (h : s.fresh r = true) (hok : StOK C s.st β w) {q : Nat} {g : Reg} (hg : sget s.st q = some g) {t : T} (ht : t ∈ g.cs) : t.has r = false := by
  cases hp : g.pure with
  | true => exact T.has_pure ((hok.store q g hg).1 hp t ht) r
  | false =>
    simp only [St.fresh, Bool.and_eq_true] at h
    have := List.all_eq_true.1 h.1.2 _ (mem_of_sget hg)
    simp only [hp, Bool.false_or] at this
    have := List.all_eq_true.1 this t ht
    simpa using this
theorem St.fresh_none {s : St} {r : Nat} (h : s.fresh r = true) : sget s.st r = none := by
  simp only [St.fresh, Bool.and_eq_true] at h
  simpa using h.1.1.1

theorem St.fresh_lt {s : St} {r : Nat} (h : s.fresh r = true) : Nat.blt r 100000 = true := by
  simp only [St.fresh, Bool.and_eq_true] at h
  exact h.2
end Go.V
