/- The V-layer, part A: values without memory, regions, and how a state of these stands to the model's frame and world. No premises. -/
import Derived.Orders
import Derived.Below
import Derived.Maps.AppendAt
import Derived.KernelRfl
import Derived.Laws.World
import Derived.Laws.CopyRow
import Derived.Laws.Cells
import Derived.Laws.Rows
import Derived.Laws.MakeOwn
import Derived.IntWalk
import Derived.Laws.StructEq
import Derived.Laws.CopyOwn
import Derived.ScopeJumps
import Derived.Deep.LoopGhost
import Derived.ChangeKeysEq
set_option linter.unusedVariables false
set_option linter.unusedSimpArgs false
namespace Go.V
open Go.RowKit
inductive T where
 | v (x : Value)
 | nil
 | sl (cs : List T) (n : Nat)
 | own (r off n : Nat) (ap : Option (Nat × TypeId))
 | ptr (r off : Nat)
 | psl (cs : List T) (off : Nat)
 | dead
 | uO (b : Nat) (m : List Int)
 | clo (f : Nat) (cs : List T)
 deriving Inhabited
def T.isPure : T → Bool
 | .v _ => true
 | .nil => true
 | .sl _ _ => true
 | .clo _ _ => true
 | _ => false
inductive S where
 | one (t : T)
 | agg (ts : List T)
 | tup (l : List S)
 deriving Inhabited
structure Reg where
 pure : Bool
 cs : List T
abbrev Store := List (Nat × Reg)
abbrev Env := List (Nat × S)
def dH : Store → Nat → Option Reg
 | [], _ => none
 | (k, c) :: l, r => bif (k == r) then some c else dH l r
def sset : Store → Nat → Reg → Store
 | [], _, _ => []
 | (k, c) :: l, r, x => bif (k == r) then (k, x) :: l else (k, c) :: sset l r x
def yN : Store → Nat → Store
 | [], _ => []
 | (k, c) :: l, r => bif (k == r) then yN l r else (k, c) :: yN l r
def jT : Env → Nat → S
 | [], _ => .one .dead
 | (k, x) :: l, i => bif (k == i) then x else jT l i
theorem vS {a b : Nat} (h : a ≠ b) : (a == b) = false := by
 cases hb : (a == b) with
 | false => rfl
 | true => exact absurd (eq_of_beq hb) h
theorem gU (l : Store) (r : Nat) (c : Reg) : dH ((r, c) :: l) r = some c := by simp [dH, beq_self_eq_true]
theorem kU (l : Store) {k r : Nat} (c : Reg) (h : k ≠ r) : dH ((k, c) :: l) r = dH l r := by simp [dH, vS h]
theorem nV (l : Store) (r : Nat) (x : Reg) (h : (dH l r).isSome) : dH (sset l r x) r = some x := by
 induction l with
 | nil => simp [dH] at h
 | cons p l ih =>
  obtain ⟨k, c⟩ := p
  cases hb : (k == r) <;> simp only [dH, sset, hb, cond_true, cond_false] at h ⊢
  ·exact ih h
theorem qG (l : Store) {r q : Nat} (x : Reg) (h : r ≠ q) : dH (sset l r x) q = dH l q := by
 induction l with
 | nil => rfl
 | cons p l ih =>
  obtain ⟨k, c⟩ := p
  cases hb : (k == r) with
  | true =>
   have : k = r := eq_of_beq hb
   subst this
   simp [dH, sset, hb, vS h]
  | false => cases hq : (k == q) <;> simp [dH, sset, hb, hq, ih]
theorem vT (l : Store) (r q : Nat) (x : Reg) : (dH (sset l r x) q).isSome = (dH l q).isSome := by
 by_cases h : r = q
 ·subst h
  cases hs : (dH l r) with
  | some c => rw [nV l r x (by simp [hs])]; rfl
  | none =>
   have : dH (sset l r x) r = none := by
    induction l with
    | nil => rfl
    | cons p l ih =>
     obtain ⟨k, c⟩ := p
     cases hb : (k == r) <;> simp only [dH, sset, hb, cond_true, cond_false] at hs ⊢
     ·exact ih hs
     ·cases hs
   rw [this]
 ·rw [qG l x h]
theorem yG (l : Store) (r : Nat) : dH (yN l r) r = none := by
 induction l with
 | nil => rfl
 | cons p l ih => obtain ⟨k, c⟩ := p; cases hb : (k == r) <;> simp [dH, yN, hb, ih]
theorem uT (l : Store) {r q : Nat} (h : r ≠ q) : dH (yN l r) q = dH l q := by
 induction l with
 | nil => rfl
 | cons p l ih =>
  obtain ⟨k, c⟩ := p
  cases hb : (k == r) with
  | true =>
   have : k = r := eq_of_beq hb
   subst this
   simp [dH, yN, hb, vS h, ih]
  | false => cases hq : (k == q) <;> simp [dH, yN, hb, hq, ih]
inductive Rep (w : World) (I : Nat → Prop) : T → Value → Prop
 | v {x : Value} (h : x.oneCell' = true) : Rep w I (.v x) x
 | nil : Rep w I .nil (.slice none 0 0)
 | sl0 (A : Option Addr) (cap : Nat) : Rep w I (.sl [] 0) (.slice A 0 cap)
 | sl {cs : List T} {n b off cap : Nat} (us : Nat → Value) (hI : I b)
   (hc : ∀ j t, cs[j]? = some t → w.cell? ⟨b, off + j, none⟩ = some (us j))
   (hr : ∀ j t, cs[j]? = some t → Rep w I t (us j)) (hn : n ≤ cap) : Rep w I (.sl cs n) (.slice (some ⟨b, off, none⟩) n cap)
 | clo {f : Nat} {cs : List T} {b off : Nat} (us : Nat → Value) (hI : I b)
   (hc : ∀ j t, cs[j]? = some t → w.cell? ⟨b, off + j, none⟩ = some (us j))
   (hr : ∀ j t, cs[j]? = some t → Rep w I t (us j)) : Rep w I (.clo f cs) (.func (.func f) #[] #[.pointer (some ⟨b, off, none⟩)])
theorem Rep.mono {w w' : World} {I I' : Nat → Prop} (hc : ∀ a : Addr, I a.block → w'.cell? a = w.cell? a) (hI : ∀ b, I b → I' b) {t : T} {u : Value} (h : Rep w I t u) : Rep w' I' t u := by
 induction h with
 | v h => exact .v h
 | nil => exact .nil
 | sl0 A cap => exact .sl0 A cap
 | sl us hb hcell hr hn ih => exact .sl us (hI _ hb) (fun j t hj => (hc _ (by exact hb)).trans (hcell j t hj)) (fun j t hj => ih j t hj) hn
 | clo us hb hcell hr ih => exact .clo us (hI _ hb) (fun j t hj => (hc _ (by exact hb)).trans (hcell j t hj)) (fun j t hj => ih j t hj)
theorem Rep.oneCell {w : World} {I : Nat → Prop} {t : T} {u : Value} (h : Rep w I t u) : u.oneCell' = true := by
 cases h <;> first | assumption | rfl
def sQ (w : World) (B : Option Nat) (off n : Nat) (ap : Option (Nat × TypeId)) (u : Value) : Prop :=
 match B with
 | none => n = 0 ∧ u = .slice none 0 0
 | some b => ∃ A cap cur ety, u = .slice A n cap ∧ w.heap[b]? = some (.cells cur ety (0, 0)) ∧ (0 < n → A = some ⟨b, off, none⟩) ∧ n ≤ cap ∧
   ∀ k e, ap = some (k, e) → off = 0 ∧ A = some ⟨b, 0, none⟩ ∧ cur.size = cap * k ∧ cap ≤ maxLen ∧ ety = e
def MapAt (w : World) (b : Nat) (m : List Int) : Prop := ∃ es clock, w.heap[b]? = some (.map es clock) ∧ es.toList.map (fun e => (e.key, e.val)) = m.map (fun k => (Value.int .i64 k, Value.bool true))
def jc (w : World) (st : Store) (β : Nat → Option Nat) (I : Nat → Prop) : T → Value → Prop
 | .own r off n ap, u => (dH st r).isSome = true → sQ w (β r) off n ap u
 | .ptr r off, u => (dH st r).isSome = true → ∃ b, β r = some b ∧ u = .pointer (some ⟨b, off, none⟩)
 | .psl cs off, u => ∃ (b o : Nat) (us : Nat → Value), I b ∧ u = .pointer (some ⟨b, o + off, none⟩) ∧ (∀ j t, cs[j]? = some t → w.cell? ⟨b, o + j, none⟩ = some (us j)) ∧ (∀ j t, cs[j]? = some t → Rep w I t (us j))
 | .dead, _ => True
 | .uO b m, _ => I b ∧ MapAt w b m
 | .v x, u => Rep w I (.v x) u
 | .nil, u => Rep w I .nil u
 | .sl cs n, u => Rep w I (.sl cs n) u
 | .clo f cs, u => Rep w I (.clo f cs) u
inductive iy (w : World) (st : Store) (β : Nat → Option Nat) (I : Nat → Prop) : S → Value → Prop
 | one {t u} (h : jc w st β I t u) : iy w st β I (.one t) u
 | agg {ts : List T} {us : Array Value} (hs : us.size = ts.length) (h : ∀ (i : Nat) (t : T) (u : Value), ts[i]? = some t → us[i]? = some u → jc w st β I t u) : iy w st β I (.agg ts) (.agg us)
 | tup {l : List S} {vs : Array Value} (hs : vs.size = l.length) (h : ∀ (i : Nat) (s : S) (u : Value), l[i]? = some s → vs[i]? = some u → iy w st β I s u) : iy w st β I (.tup l) (.tuple vs)
structure St where
 env : Env
 st : Store
structure Ctx where
 P : Program
 nt : Nat
 E : Nat → Prop
 w0 : World
 I0 : Nat → Prop
 i0 : ∀ b, I0 b → b < w0.heap.size ∧ ¬ E b
 fix : Nat → Option (Option Nat)
 fx : ∀ r, Nat.blt r 100000 = true → fix r = none
def Ctx.I (C : Ctx) (st : Store) (β : Nat → Option Nat) (w : World) (b : Nat) : Prop :=
 C.I0 b ∨ ((C.E b ∨ C.w0.heap.size ≤ b) ∧ b < w.heap.size ∧ ∀ r, (dH st r).isSome = true → β r ≠ some b)
structure Kept (E : Nat → Prop) (w w' : World) : Prop where
 os : w'.os = w.os
 tape : w'.tape = w.tape
 output : w'.output = w.output
 size : w.heap.size ≤ w'.heap.size
 block : ∀ b, b < w.heap.size → ¬ E b → w'.heap[b]? = w.heap[b]?
 shape : ∀ (b : Nat) cur ety, w.heap[b]? = some (.cells cur ety (0, 0)) → ∃ cur', w'.heap[b]? = some (.cells cur' ety (0, 0)) ∧ cur'.size = cur.size
theorem Kept.refl (E : Nat → Prop) (w : World) : Kept E w w := ⟨rfl, rfl, rfl, Nat.le_refl _, fun _ _ _ => rfl, fun _ cur _ h => ⟨cur, h, rfl⟩⟩
def Zq (w : World) (st : Store) (β : Nat → Option Nat) (I : Nat → Prop) (B : Option Nat) (g : Reg) : Prop :=
 (g.pure = true → ∀ t ∈ g.cs, t.isPure = true) ∧
 match B with
 | none => g.cs = []
 | some b => ∃ (cur : Array Value) (ety : TypeId), w.heap[b]? = some (.cells cur ety (0, 0)) ∧ g.cs.length ≤ cur.size ∧ ∀ (j : Nat) (t : T), g.cs[j]? = some t → ∃ u, cur[j]? = some u ∧ jc w st β I t u
structure Cj (C : Ctx) (st : Store) (β : Nat → Option Nat) (w : World) : Prop where
 kept : Kept C.E C.w0 w
 store : ∀ r g, dH st r = some g → Zq w st β (C.I st β w) (β r) g
 inj : ∀ r r' b, (dH st r).isSome = true → (dH st r').isSome = true → β r = some b → β r' = some b → r = r'
 uX : ∀ r b, (dH st r).isSome = true → β r = some b → C.E b ∨ C.w0.heap.size ≤ b
 yO : ∀ r b, (dH st r).isSome = true → C.fix r = some b → β r = b
structure R (C : Ctx) (s : St) (β : Nat → Option Nat) (a : Act) (w : World) : Prop where
 ok : Cj C s.st β w
 defers : a.defers = []
 size : a.tmps.size = C.nt
 env : ∀ i, iy w s.st β (C.I s.st β w) (jT s.env i) (a.tmps.getD i undef)
theorem Cj.lt {C : Ctx} {st : Store} {β : Nat → Option Nat} {w : World} (h : Cj C st β w) {r b : Nat} (hr : (dH st r).isSome = true) (hb : β r = some b) : b < w.heap.size := by
 obtain ⟨g, hc⟩ := Option.isSome_iff_exists.1 hr
 have := (h.store r g hc).2
 rw [hb] at this
 obtain ⟨cur, ety, hh, _⟩ := this
 exact (Array.getElem?_eq_some_iff.1 hh).1
theorem Cj.ac6 {C : Ctx} {st : Store} {β : Nat → Option Nat} {w : World} (h : Cj C st β w) {r b : Nat} (hr : (dH st r).isSome = true) (hb : β r = some b) : ¬ C.I st β w b := by
 rintro (h0 | ⟨_, _, h1⟩)
 ·have := C.i0 _ h0
  rcases h.uX r b hr hb with he | he
  ·exact this.2 he
  ·omega
 ·exact h1 r hr hb
theorem Ctx.Hy {C : Ctx} {st : Store} {β : Nat → Option Nat} {w : World} (hk : Kept C.E C.w0 w) {b : Nat} (h : C.I st β w b) : b < w.heap.size := by
 rcases h with h0 | ⟨_, h1, _⟩
 ·have := C.i0 _ h0; have := hk.size; omega
 ·exact h1
structure Ext (I I' : Nat → Prop) (st st' : Store) (β β' : Nat → Option Nat) (w w' : World) : Prop where
 imm : ∀ b, I b → I' b
 cells : ∀ b, I b → w'.heap[b]? = w.heap[b]?
 reg : ∀ r, (dH st' r).isSome = true → (dH st r).isSome = true ∧ β' r = β r
 shape : ∀ r b, (dH st' r).isSome = true → β r = some b → ∀ cur ety, w.heap[b]? = some (.cells cur ety (0, 0)) → ∃ cur', w'.heap[b]? = some (.cells cur' ety (0, 0)) ∧ cur'.size = cur.size
theorem cell_of_heap {w w' : World} {a : Addr} (h : w'.heap[a.block]? = w.heap[a.block]?) : w'.cell? a = w.cell? a := by
 simp only [World.cell?, h]
def T.has (r : Nat) : T → Bool
 | .own q _ _ _ => (q == r)
 | .ptr q _ => (q == r)
 | _ => false
def S.has (r : Nat) : S → Bool
 | .one t => t.has r
 | .agg ts => ts.any (T.has r)
 | .tup l => Xx r l
where Xx (r : Nat) : List S → Bool
 | [] => false
 | s :: l => S.has r s || Xx r l
theorem S.Nq {r : Nat} {l : List S} (h : S.has.Xx r l = false) {i : Nat} {s : S} (hi : l[i]? = some s) : s.has r = false := by
 induction l generalizing i with
 | nil => simp at hi
 | cons x l ih =>
  simp only [S.has.Xx, Bool.or_eq_false_iff] at h
  cases i with
  | zero => simp at hi; subst hi; exact h.1
  | succ i => exact ih h.2 (by simpa using hi)
section
variable {I I' : Nat → Prop} {st st' : Store} {β β' : Nat → Option Nat} {w w' : World}
theorem Rep.Ou {t : T} {u : Value} (h : Rep w I t u) : jc w st β I t u := by
 cases h with
 | v h => exact .v h
 | nil => exact .nil
 | sl0 A cap => exact .sl0 A cap
 | sl us hI hc hr hn => exact .sl us hI hc hr hn
 | clo us hI hc hr => exact .clo us hI hc hr
structure TI (N : Nat → Prop) (I I' : Nat → Prop) (st st' : Store) (β β' : Nat → Option Nat) (w w' : World) : Prop where
 imm : ∀ b, I b → I' b
 cells : ∀ b, I b → w'.heap[b]? = w.heap[b]?
 reg : ∀ r, ¬ N r → (dH st' r).isSome = true → (dH st r).isSome = true ∧ β' r = β r
 shape : ∀ r b, ¬ N r → (dH st' r).isSome = true → β r = some b → ∀ cur ety, w.heap[b]? = some (.cells cur ety (0, 0)) → ∃ cur', w'.heap[b]? = some (.cells cur' ety (0, 0)) ∧ cur'.size = cur.size
theorem Ext.toN (h : Ext I I' st st' β β' w w') (N : Nat → Prop) : TI N I I' st st' β β' w w' := ⟨h.imm, h.cells, fun r _ => h.reg r, fun r b _ => h.shape r b⟩
theorem Rep.DI {N : Nat → Prop} (h : TI N I I' st st' β β' w w') {t : T} {u : Value} (hr : Rep w I t u) : Rep w' I' t u :=
 hr.mono (fun a ha => cell_of_heap (h.cells _ ha)) h.imm
theorem jc.DI {N : Nat → Prop} (h : TI N I I' st st' β β' w w') {t : T} {u : Value} (hN : ∀ r, N r → t.has r = false) (hr : jc w st β I t u) : jc w' st' β' I' t u := by
 cases t with
 | v x => exact Rep.DI h hr
 | nil => exact Rep.DI h hr
 | sl cs n => exact Rep.DI h hr
 | clo f cs => exact Rep.DI h hr
 | dead => trivial
 | uO b m =>
  obtain ⟨h1, es, clock, h2, h3⟩ := hr
  exact ⟨h.imm _ h1, es, clock, (h.cells b h1).trans h2, h3⟩
 | ptr r off =>
  intro h3
  have hn : ¬ N r := fun hh => by have := hN r hh; simp [T.has] at this
  obtain ⟨h1, h4⟩ := h.reg r hn h3
  rw [h4]
  exact hr h1
 | own r off n ap =>
  intro h3
  have hn : ¬ N r := fun hh => by have := hN r hh; simp [T.has] at this
  obtain ⟨h1, h4⟩ := h.reg r hn h3
  have h2 := hr h1
  rw [h4]
  unfold sQ at h2 ⊢
  cases hb : β r with
  | none => rw [hb] at h2; exact h2
  | some b =>
   rw [hb] at h2
   obtain ⟨A, cap, cur, ety, e1, hh, hA, hn', hap⟩ := h2
   obtain ⟨cur', h5, h6⟩ := h.shape r b hn h3 hb cur ety hh
   refine ⟨A, cap, cur', ety, e1, h5, hA, hn', fun k e hk => ?_⟩
   obtain ⟨a1, a2, a3, a4, a5⟩ := hap k e hk
   exact ⟨a1, a2, by rw [h6]; exact a3, a4, a5⟩
 | psl cs off =>
  obtain ⟨b, o, us, h1, h2, h3, h4⟩ := hr
  exact ⟨b, o, us, h.imm _ h1, h2, fun j t hj => (cell_of_heap (h.cells b h1)).trans (h3 j t hj), fun j t hj => Rep.DI h (h4 j t hj)⟩
theorem iy.DI {N : Nat → Prop} (h : TI N I I' st st' β β' w w') {s : S} {u : Value} (hN : ∀ r, N r → s.has r = false) (hr : iy w st β I s u) : iy w' st' β' I' s u := by
 induction hr with
 | one hr => exact .one (jc.DI h hN hr)
 | agg hs hr =>
  refine .agg hs fun i t u h1 h2 => jc.DI h (fun r hr' => ?_) (hr i t u h1 h2)
  have := hN r hr'
  simp only [S.has, List.any_eq_false] at this
  have := this t (List.mem_of_getElem? h1)
  simpa using this
 | tup hs hr ih => exact .tup hs fun i s u h1 h2 => ih i s u h1 h2 (fun r hr' => S.Nq (hN r hr') h1)
theorem Rep.ext (h : Ext I I' st st' β β' w w') {t : T} {u : Value} (hr : Rep w I t u) : Rep w' I' t u :=
 hr.mono (fun a ha => cell_of_heap (h.cells _ ha)) h.imm
theorem jc.ext (h : Ext I I' st st' β β' w w') {t : T} {u : Value} (hr : jc w st β I t u) : jc w' st' β' I' t u :=
 jc.DI (h.toN fun _ => False) (fun _ hh => hh.elim) hr
theorem iy.ext (h : Ext I I' st st' β β' w w') {s : S} {u : Value} (hr : iy w st β I s u) : iy w' st' β' I' s u :=
 iy.DI (h.toN fun _ => False) (fun _ hh => hh.elim) hr
end
def kQ (x : Value) : T :=
 match x with
 | .slice none 0 0 => .nil
 | .slice _ _ _ => .dead
 | .agg _ => .dead
 | .tuple _ => .dead
 | x => .v x
def ofConst (x : Value) : S :=
 match x with
 | .agg cs => .agg (cs.toList.map kQ)
 | .tuple _ => .one .dead
 | x => .one (kQ x)
def St.ev (s : St) : Operand → S
 | .tmp t => jT s.env t
 | .const v => ofConst v
 | .global g => .one (.v (.pointer (some ⟨g, 0, none⟩)))
 | .func f => .one (.v (.func (.func f) #[] #[]))
theorem Vr (w : World) (I : Nat → Prop) (x : Value) (h : kQ x ≠ .dead) : Rep w I (kQ x) x := by
 unfold kQ at *
 split
 ·exact .nil
 ·rename_i h1; simp_all
 ·simp_all
 ·simp_all
 ·rename_i h1 h2 h3 h4
  refine .v ?_
  cases x <;> simp_all [Value.oneCell']
theorem wH (w : World) (st : Store) (β : Nat → Option Nat) (I : Nat → Prop) (x : Value) : jc w st β I (kQ x) x := by
 by_cases h : kQ x = .dead
 ·rw [h]; trivial
 ·exact (Vr w I x h).Ou
theorem QN (w : World) (st : Store) (β : Nat → Option Nat) (I : Nat → Prop) (x : Value) : iy w st β I (ofConst x) x := by
 unfold ofConst
 split
 ·refine .agg (by simp) fun i t u h1 h2 => ?_
  rename_i cs
  rw [List.getElem?_map] at h1
  have h2' : cs.toList[i]? = some u := by simpa using h2
  rw [h2'] at h1
  simp at h1
  subst h1
  exact wH ..
 ·exact .one trivial
 ·exact .one (wH ..)
theorem R.ev {C : Ctx} {s : St} {β : Nat → Option Nat} {a : Act} {w : World} (h : R C s β a w) (x : Operand) : iy w s.st β (C.I s.st β w) (s.ev x) (a.eval x) := by
 cases x with
 | tmp t => exact h.env t
 | const v => exact QN ..
 | global g => exact .one (.v rfl)
 | func f => exact .one (.v rfl)
def aci (e : Env) (d : Option Nat) (x : S) : Env :=
 match d with
 | some d => (d, x) :: e
 | none => e
def St.put (s : St) (d : Option Nat) (x : S) : St := ⟨aci s.env d x, s.st⟩
theorem R.rQ {C : Ctx} {s : St} {β : Nat → Option Nat} {a : Act} {w : World} {d : Option Nat} {x : S} {v : Value} (h : R C s β a w)
  (hv : iy w s.st β (C.I s.st β w) x v) (hd : ∀ i, d = some i → i < C.nt) : R C (s.put d x) β (a.put d v) w := by
 cases d with
 | none => exact h
 | some d =>
  refine ⟨h.ok, h.defers, by simpa [Act.put] using h.size, fun i => ?_⟩
  have hd' := hd d rfl
  show iy w s.st β (C.I s.st β w) (bif (d == i) then x else jT s.env i) (((a.tmps.setIfInBounds d v).getD i undef))
  cases hb : (d == i) with
  | true =>
   have : d = i := eq_of_beq hb
   subst this
   have : d < a.tmps.size := by rw [h.size]; exact hd'
   simpa [this] using hv
  | false =>
   have hne : d ≠ i := fun e => by subst e; simp at hb
   have : (a.tmps.setIfInBounds d v).getD i undef = a.tmps.getD i undef := by
    simp only [Array.getD_eq_getD_getElem?]
    rw [Array.getElem?_setIfInBounds_ne hne]
   rw [this]
   exact h.env i
theorem R.turn {C : Ctx} {s : St} {β β' : Nat → Option Nat} {a : Act} {w w' : World} {st' : Store} {N : Nat → Prop} (h : R C s β a w)
  (hok : Cj C st' β' w') (hx : TI N (C.I s.st β w) (C.I st' β' w') s.st st' β β' w w') (hN : ∀ r, N r → ∀ i, (jT s.env i).has r = false) : R C ⟨s.env, st'⟩ β' a w' :=
 ⟨hok, h.defers, h.size, fun i => iy.DI hx (fun r hr => hN r hr i) (h.env i)⟩
theorem Ext.refl {I : Nat → Prop} {st : Store} {β : Nat → Option Nat} {w : World} : Ext I I st st β β w w :=
 ⟨fun _ h => h, fun _ _ => rfl, fun _ h => ⟨h, rfl⟩, fun _ _ _ _ cur ety h => ⟨cur, h, rfl⟩⟩
def St.fresh (s : St) (r : Nat) : Bool := (dH s.st r).isNone && s.env.all (fun p => !p.2.has r) && s.st.all (fun p => p.2.pure || p.2.cs.all fun t => !t.has r) && Nat.blt r 100000
theorem St.Eh {s : St} {r : Nat} (h : s.fresh r = true) (i : Nat) : (jT s.env i).has r = false := by
 simp only [St.fresh, Bool.and_eq_true] at h
 have := h.1.1.2
 generalize s.env = e at this
 induction e with
 | nil => rfl
 | cons p e ih =>
  obtain ⟨k, x⟩ := p
  simp only [List.all_cons, Bool.and_eq_true] at this
  simp only [jT]
  cases (k == i)
  ·exact ih this.2
  ·simpa using this.1
theorem T.yH {t : T} (h : t.isPure = true) (r : Nat) : t.has r = false := by
 cases t <;> first | rfl | cases h
theorem wI {st : Store} {q : Nat} {g : Reg} (h : dH st q = some g) : (q, g) ∈ st := by
 induction st with
 | nil => cases h
 | cons p l ih =>
  obtain ⟨k, c⟩ := p
  simp only [dH] at h
  cases hb : (k == q)
  ·rw [hb] at h; exact List.mem_cons_of_mem _ (ih h)
  ·rw [hb] at h
   have : k = q := eq_of_beq hb
   subst this
   injection h with h
   subst h
   exact List.mem_cons_self
theorem St.Hz {C : Ctx} {β : Nat → Option Nat} {w : World} {s : St} {r : Nat} (h : s.fresh r = true) (hok : Cj C s.st β w) {q : Nat} {g : Reg} (hg : dH s.st q = some g) {t : T} (ht : t ∈ g.cs) : t.has r = false := by
 cases hp : g.pure with
 | true => exact T.yH ((hok.store q g hg).1 hp t ht) r
 | false =>
  simp only [St.fresh, Bool.and_eq_true] at h
  have := List.all_eq_true.1 h.1.2 _ (wI hg)
  simp only [hp, Bool.false_or] at this
  have := List.all_eq_true.1 this t ht
  simpa using this
theorem St.FW {s : St} {r : Nat} (h : s.fresh r = true) : dH s.st r = none := by
 simp only [St.fresh, Bool.and_eq_true] at h
 simpa using h.1.1.1
theorem St.HY {s : St} {r : Nat} (h : s.fresh r = true) : Nat.blt r 100000 = true := by
 simp only [St.fresh, Bool.and_eq_true] at h
 exact h.2
end Go.V
set_option linter.unusedVariables false
set_option linter.unusedSimpArgs false
namespace Go.V
open Go.RowKit
inductive VI where
 | mv (x : Operand)
 | pick (c a b : Operand)
 | jm (cs : List T)
 | box (e : TypeId) (x : Operand)
 | build (zero : List T) (parts : List (Nat × Nat × Operand))
 | iW (k : Nat) (ety : TypeId) (n : Nat) (zero : List T) (parts : List (Nat × Nat × Operand))
 | load (agg : Bool) (sz : Nat) (a : Operand)
 | store (sz : Nat) (a x : Operand)
 | add (off : Nat) (a : Operand)
 | fH (k : Nat) (x i : Operand)
 | Vb (k n : Nat) (x i : Operand)
 | part (agg : Bool) (sz off : Nat) (x : Operand)
 | ext (n : Nat) (x : Operand)
 | len (str : Bool) (x : Operand)
 | dG (x : Operand)
 | bin (op : BinOp) (t : TypeId) (x y : Operand)
 | eqB (neg : Bool) (x y : Operand)
 | eqP (neg : Bool) (x y : Operand)
 | eqA (neg : Bool) (t : TypeId) (x y : Operand)
 | un (op : UnOp) (x : Operand)
 | conv (src dst : TypeId) (x : Operand)
 | jd (k : IntKind) (x : Operand)
 | bi (b : Builtin) (ats : Array TypeId) (ty : TypeId) (cs : Array Bool) (xs : List Operand)
 | ixs (t : TypeId) (x i : Operand)
 | slc (k : Nat) (x : Operand) (lo hi mx : Option Operand)
 | SH (k n : Nat) (x : Operand) (lo hi : Option Operand)
 | Zr (t : TypeId) (x : Operand) (lo hi : Option Operand)
 | mk (t ety k bytes : Nat) (zero : List T) (n c : Operand)
 | app (t ety k bytes : Nat) (s x : Operand)
 | copy (k : Nat) (dst src : Operand)
 | call (f : FuncId) (xs : List Operand)
 | arr (n : Nat) (x : Operand)
 | Bf (f : FuncId) (xs : List Operand)
 | bad
 | SC (x i : Operand)
 | aas (x i y : Operand)
 | V7
 | mkf (f : FuncId) (xs : List Operand)
 | V6 (f : Operand) (xs : List Operand)
def sU (P : Program) (t : TypeId) : Option Bool := (P.underlying t).map fun | .struct _ | .array _ _ => true | _ => false
def szP (P : Program) (t : TypeId) : Option Nat := (P.info? t).map (·.size)
def H6 (P : Program) (t : TypeId) : Option Value := (P.info? t).bind (·.zero)
def Vs (P : Program) (t : TypeId) (parts : List (Nat × Operand)) : Option (List (Nat × Nat × Operand)) :=
 match P.underlying t with
 | some (.struct fs) => parts.mapM fun (i, x) => (fs[i]?).bind fun f => (szP P f.type).map fun n => (f.offset, n, x)
 | some (.array _ e) => (szP P e).map fun n => parts.map fun (i, x) => (i * n, n, x)
 | _ => none
def TJ (P : Program) (t : TypeId) : Bool := match P.underlying t with | some (.struct fs) => fs.toList.all fun f => (szP P f.type).isSome | _ => true
def Ji (P : Program) (f : FuncId) : Bool := match P.funcs[f]? with | some fn => fn.body.isSome && fn.name != "runtime.NumGoroutine" | none => false
def DJ (P : Program) (o : Oper) : Option VI :=
 match o.op with
 | .move x | .assign x => some (.mv x)
 | .pick c a b => some (.pick c a b)
 | .alloc e => (H6 P e).map fun z => .jm (z.cells.toList.map kQ)
 | .box e x => some (.box e x)
 | .build t parts => if TJ P t = true then (H6 P t).bind fun z => (Vs P t parts.toList).map fun ps => .build (z.cells.toList.map kQ) ps else none
 | .buildSlice t len parts =>
  match P.underlying t with
  | some (.slice e) => (szP P e).bind fun k => (H6 P e).bind fun z =>
    if len * k > 2 ^ 24 ∨ k = 0 ∨ z.cells.size ≠ k then none else
    some (.iW k e len (((Array.range (len * k)).map (z.cells[· % z.cells.size]!)).toList.map kQ) (parts.toList.map fun (i, x) => (i * k, k, x)))
  | _ => none
 | .load t a => (szP P t).bind fun n => (sU P t).bind fun ag => if ag then some (.load true n a) else if n = 1 then some (.load false 1 a) else none
 | .store t a x => (szP P t).map fun n => .store n a x
 | .fieldAddr s x f =>
  match P.underlying s with
  | some (.struct fs) => (fs[f]?).bind fun fl => (szP P fl.type).bind fun n => if n = 0 then none else some (.add fl.offset x)
  | _ => none
 | .indexAddr t x i =>
  match P.underlying t with
  | some (.slice e) => (szP P e).map fun k => .fH k x i
  | some (.array n e) => (szP P e).map fun k => .Vb k n x i
  | _ => none
 | .field t x f =>
  match P.underlying t with
  | some (.struct fs) => (fs[f]?).bind fun fl => (szP P fl.type).bind fun n => (sU P fl.type).map fun ag => .part ag n fl.offset x
  | _ => none
 | .index t x i =>
  match P.underlying t with
  | some .string => some (.ixs t x i)
  | _ => none
 | .extract x n => some (.ext n x)
 | .nilCheck x => some (.dG x)
 | .binOp op t x y _ =>
  match op, P.underlying t with
  | .eql, some .bool => some (.eqB false x y)
  | .neq, some .bool => some (.eqB true x y)
  | .eql, some (.pointer _) => some (.eqP false x y)
  | .neq, some (.pointer _) => some (.eqP true x y)
  | .eql, some (.struct _) => some (.eqA false t x y)
  | .neq, some (.struct _) => some (.eqA true t x y)
  | .eql, some (.array _ _) => some (.eqA false t x y)
  | .neq, some (.array _ _) => some (.eqA true t x y)
  | _, _ => some (.bin op t x y)
 | .unOp op _ x => some (.un op x)
 | .convert s d x =>
  match P.underlying s, P.underlying d with
  | some (.int _), some (.int k) => some (.jd k x)
  | _, _ => some (.conv s d x)
 | .slice t x lo hi mx =>
  match P.underlying t with
  | some (.slice e) => (szP P e).map fun k => .slc k x lo hi mx
  | some (.array n e) => (szP P e).bind fun k => if mx.isSome then none else some (.SH k n x lo hi)
  | some .string => if mx.isSome then none else some (.Zr t x lo hi)
  | _ => none
 | .makeSlice t n c =>
  match P.underlying t with
  | some (.slice e) => (P.info? e).bind fun i => i.zero.bind fun z => if i.size = 0 ∨ z.cells.size ≠ i.size then none else some (.mk t e i.size i.bytes (z.cells.toList.map kQ) n c)
  | _ => none
 | .sliceToArrayPointer t x =>
  match P.underlying t with
  | some (.array n _) => some (.arr n x)
  | _ => none
 | .makeMap _ r => if r.isNone then some .V7 else none
 | .makeFunc (.func f) fst cap => if fst.isEmpty then some (.mkf f cap.toList) else none
 | .lookup t x i ok => if ok then none else
  match P.underlying t with
  | some (.map k e) => (match P.underlying k, H6 P e with | some (.int .i64), some (.bool false) => some (.SC x i) | _, _ => none)
  | _ => none
 | .mapUpdate t x i y =>
  match P.underlying t with
  | some (.map k _) => (match P.underlying k with | some (.int .i64) => some (.aas x i y) | _ => none)
  | _ => none
 | .call c =>
  match c.callee with
  | .value (.func f) => if Ji P f then some (.call f c.args.toList) else some (.Bf f c.args.toList)
  | .value (.tmp f) => some (.V6 (.tmp f) c.args.toList)
  | .builtin .len =>
   match c.args.toList, c.argTypes.toList with
   | [x], [t] => (match P.underlying t with | some (.slice _) => some (.len false x) | some .string => some (.len true x) | _ => none)
   | _, _ => none
  | .builtin .append =>
   match c.args.toList, c.argTypes.toList with
   | [s, x], [t, t'] => if t = t' then (match P.underlying t with
     | some (.slice e) => (P.info? e).bind fun i => i.zero.bind fun z => if i.size = 0 ∨ z.cells.size ≠ i.size ∨ i.bytes = 0 then none else some (.app t e i.size i.bytes s x)
     | _ => none) else none
   | _, _ => none
  | .builtin .copy =>
   match c.args.toList, c.argTypes.toList with
   | [d, s], [t, t'] => if t = t' then (match P.underlying t with
     | some (.slice e) => (szP P e).map fun k => .copy k d s
     | _ => none) else none
   | _, _ => none
  | .builtin b => some (.bi b c.argTypes o.type (c.args.map fun | .const _ => true | _ => false) c.args.toList)
  | _ => none
 | _ => none
def Spec (P : Program) (o : Oper) : VI → Prop
 | .mv x => o.op = .move x ∨ o.op = .assign x
 | .pick c a b => o.op = .pick c a b
 | .jm cs => ∃ e z, o.op = .alloc e ∧ H6 P e = some z ∧ cs = z.cells.toList.map kQ
 | .box e x => o.op = .box e x
 | .build zs ps => ∃ t parts z, o.op = .build t parts ∧ H6 P t = some z ∧ Vs P t parts.toList = some ps ∧ (∀ fs, P.underlying t = some (.struct fs) → ∀ f ∈ fs.toList, (szP P f.type).isSome = true) ∧ zs = z.cells.toList.map kQ
 | .iW k e n zs ps => ∃ t parts z, o.op = .buildSlice t n parts ∧ P.underlying t = some (.slice e) ∧ szP P e = some k ∧ H6 P e = some z ∧ n * k ≤ 2 ^ 24 ∧ k ≠ 0 ∧ z.cells.size = k ∧
   zs = ((Array.range (n * k)).map (z.cells[· % z.cells.size]!)).toList.map kQ ∧ ps = parts.toList.map fun (i, x) => (i * k, k, x)
 | .load agg n a => ∃ t, o.op = .load t a ∧ szP P t = some n ∧ sU P t = some agg ∧ (agg = false → n = 1)
 | .store n a x => ∃ t, o.op = .store t a x ∧ szP P t = some n
 | .add off x => ∃ st fs f fl n, o.op = .fieldAddr st x f ∧ P.underlying st = some (.struct fs) ∧ fs[f]? = some fl ∧ szP P fl.type = some n ∧ n ≠ 0 ∧ off = fl.offset
 | .fH k x i => ∃ t e, o.op = .indexAddr t x i ∧ P.underlying t = some (.slice e) ∧ szP P e = some k
 | .Vb k n x i => ∃ t e, o.op = .indexAddr t x i ∧ P.underlying t = some (.array n e) ∧ szP P e = some k
 | .part agg n off x => ∃ t fs f fl, o.op = .field t x f ∧ P.underlying t = some (.struct fs) ∧ fs[f]? = some fl ∧ szP P fl.type = some n ∧ sU P fl.type = some agg ∧ off = fl.offset
 | .ext n x => o.op = .extract x n
 | .len str x => ∃ t, o.op = .call { callee := .builtin .len, args := #[x], argTypes := #[t] } ∧ (if str then P.underlying t = some .string else ∃ e, P.underlying t = some (.slice e))
 | .dG x => o.op = .nilCheck x
 | .bin op t x y => ∃ t', o.op = .binOp op t x y t'
 | .eqB neg x y => ∃ t t', o.op = .binOp (if neg then .neq else .eql) t x y t' ∧ P.underlying t = some .bool
 | .eqP neg x y => ∃ t t' e, o.op = .binOp (if neg then .neq else .eql) t x y t' ∧ P.underlying t = some (.pointer e)
 | .eqA neg t x y => ∃ t', o.op = .binOp (if neg then .neq else .eql) t x y t'
 | .un op x => ∃ t, o.op = .unOp op t x
 | .conv a b x => o.op = .convert a b x
 | .jd k x => ∃ a b k', o.op = .convert a b x ∧ P.underlying a = some (.int k') ∧ P.underlying b = some (.int k)
 | .bi b ats ty cs xs => ∃ args, o.op = .call { callee := .builtin b, args := args, argTypes := ats } ∧ ty = o.type ∧ xs = args.toList ∧ cs = args.map fun | .const _ => true | _ => false
 | .ixs t x i => o.op = .index t x i ∧ P.underlying t = some .string
 | .slc k x lo hi mx => ∃ t e, o.op = .slice t x lo hi mx ∧ P.underlying t = some (.slice e) ∧ szP P e = some k
 | .SH k n x lo hi => ∃ t e, o.op = .slice t x lo hi none ∧ P.underlying t = some (.array n e) ∧ szP P e = some k
 | .Zr t x lo hi => o.op = .slice t x lo hi none ∧ P.underlying t = some .string
 | .mk t e k bytes zs n c => ∃ i z, o.op = .makeSlice t n c ∧ P.underlying t = some (.slice e) ∧ P.info? e = some i ∧ i.zero = some z ∧ i.size = k ∧ i.bytes = bytes ∧ k ≠ 0 ∧ z.cells.size = k ∧ zs = z.cells.toList.map kQ
 | .app t e k bytes x y => ∃ i z, o.op = .call { callee := .builtin .append, args := #[x, y], argTypes := #[t, t] } ∧ P.underlying t = some (.slice e) ∧ P.info? e = some i ∧ i.zero = some z ∧ i.size = k ∧ i.bytes = bytes ∧ k ≠ 0 ∧ z.cells.size = k ∧ bytes ≠ 0
 | .copy k x y => ∃ t e, o.op = .call { callee := .builtin .copy, args := #[x, y], argTypes := #[t, t] } ∧ P.underlying t = some (.slice e) ∧ szP P e = some k
 | .call f xs => ∃ args ats, o.op = .call { callee := .value (.func f), args := args, argTypes := ats } ∧ xs = args.toList ∧ Ji P f = true
 | .Bf f xs => ∃ args ats, o.op = .call { callee := .value (.func f), args := args, argTypes := ats } ∧ xs = args.toList
 | .bad => True
 | .arr n x => ∃ t e, o.op = .sliceToArrayPointer t x ∧ P.underlying t = some (.array n e)
 | .V7 => ∃ t, o.op = .makeMap t none
 | .mkf f xs => ∃ cap, o.op = .makeFunc (.func f) #[] cap ∧ xs = cap.toList
 | .V6 f xs => ∃ args ats, o.op = .call { callee := .value f, args := args, argTypes := ats } ∧ xs = args.toList
 | .SC x i => ∃ t k e, o.op = .lookup t x i false ∧ P.underlying t = some (.map k e) ∧ P.underlying k = some (.int .i64) ∧ H6 P e = some (.bool false)
 | .aas x i y => ∃ t k e, o.op = .mapUpdate t x i y ∧ P.underlying t = some (.map k e) ∧ P.underlying k = some (.int .i64)
theorem Zt {α : Type} {a : Array α} {x : α} (h : a.toList = [x]) : a = #[x] := by rw [← Array.toArray_toList (xs := a), h]
theorem Wi {α : Type} {a : Array α} {x y : α} (h : a.toList = [x, y]) : a = #[x, y] := by rw [← Array.toArray_toList (xs := a), h]
theorem aax {P : Program} {o : Oper} {i : VI} (h : DJ P o = some i) : Spec P o i := by
 unfold DJ at h
 split at h
 case h_1 x e => injection h with h; subst h; exact .inl e
 case h_2 x e => injection h with h; subst h; exact .inr e
 case h_3 c a b e => injection h with h; subst h; exact e
 case h_4 t e =>
  obtain ⟨z, hz, rfl⟩ := Option.map_eq_some_iff.1 h
  exact ⟨t, z, e, hz, rfl⟩
 case h_5 t x e => injection h with h; subst h; exact e
 case h_6 t parts e =>
  split at h
  ·rename_i hall
   obtain ⟨z, hz, h⟩ := Option.bind_eq_some_iff.1 h
   obtain ⟨ps, hp, rfl⟩ := Option.map_eq_some_iff.1 h
   refine ⟨t, parts, z, e, hz, hp, fun fs hfs => ?_, rfl⟩
   unfold TJ at hall
   rw [hfs] at hall
   exact List.all_eq_true.1 hall
  ·cases h
 case h_7 t len parts e =>
  split at h
  ·rename_i el hu
   obtain ⟨k, hk, h⟩ := Option.bind_eq_some_iff.1 h
   obtain ⟨z, hz, h⟩ := Option.bind_eq_some_iff.1 h
   split at h
   ·cases h
   ·rename_i hn
    injection h with h; subst h
    exact ⟨t, parts, z, e, hu, hk, hz, by omega, by omega, by omega, rfl, rfl⟩
  ·cases h
 case h_8 t a e =>
  obtain ⟨n, hn, h⟩ := Option.bind_eq_some_iff.1 h
  obtain ⟨ag, hg, h⟩ := Option.bind_eq_some_iff.1 h
  split at h
  ·rename_i ha; injection h with h; subst h; subst ha; exact ⟨t, e, hn, hg, by simp⟩
  ·split at h
   ·rename_i ha h1; injection h with h; subst h; subst h1
    obtain rfl : ag = false := by simpa using ha
    exact ⟨t, e, hn, hg, fun _ => rfl⟩
   ·cases h
 case h_9 t a x e =>
  obtain ⟨n, hn, rfl⟩ := Option.map_eq_some_iff.1 h
  exact ⟨t, e, hn⟩
 case h_10 t x f e =>
  split at h
  ·rename_i fs hu
   obtain ⟨fl, hf, h⟩ := Option.bind_eq_some_iff.1 h
   obtain ⟨n, hn, h⟩ := Option.bind_eq_some_iff.1 h
   split at h
   ·cases h
   ·rename_i h0; injection h with h; subst h; exact ⟨t, fs, f, fl, n, e, hu, hf, hn, h0, rfl⟩
  ·cases h
 case h_11 t x i e =>
  split at h
  ·rename_i el hu
   obtain ⟨n, hn, rfl⟩ := Option.map_eq_some_iff.1 h
   exact ⟨t, el, e, hu, hn⟩
  ·rename_i len el hu
   obtain ⟨n, hn, rfl⟩ := Option.map_eq_some_iff.1 h
   exact ⟨t, el, e, hu, hn⟩
  ·cases h
 case h_12 t x f e =>
  split at h
  ·rename_i fs hu
   obtain ⟨fl, hf, h⟩ := Option.bind_eq_some_iff.1 h
   obtain ⟨n, hn, h⟩ := Option.bind_eq_some_iff.1 h
   obtain ⟨ag, ha, rfl⟩ := Option.map_eq_some_iff.1 h
   exact ⟨t, fs, f, fl, e, hu, hf, hn, ha, rfl⟩
  ·cases h
 case h_13 t x i e =>
  split at h
  ·rename_i hu; injection h with h; subst h; exact ⟨e, hu⟩
  ·cases h
 case h_14 x n e => injection h with h; subst h; exact e
 case h_15 x e => injection h with h; subst h; exact e
 case h_16 op t x y t' e =>
  split at h <;> injection h with h <;> subst h
  ·rename_i hu; exact ⟨t, t', e, hu⟩
  ·rename_i hu; exact ⟨t, t', e, hu⟩
  ·rename_i hu; exact ⟨t, t', _, e, hu⟩
  ·rename_i hu; exact ⟨t, t', _, e, hu⟩
  ·exact ⟨t', e⟩
  ·exact ⟨t', e⟩
  ·exact ⟨t', e⟩
  ·exact ⟨t', e⟩
  ·exact ⟨t', e⟩
 case h_17 op t x e => injection h with h; subst h; exact ⟨t, e⟩
 case h_18 a b x e =>
  split at h <;> injection h with h <;> subst h
  ·rename_i h1 h2; exact ⟨a, b, _, e, h1, h2⟩
  ·exact e
 case h_19 t x lo hi mx e =>
  split at h
  ·rename_i el hu
   obtain ⟨n, hn, rfl⟩ := Option.map_eq_some_iff.1 h
   exact ⟨t, el, e, hu, hn⟩
  ·rename_i len el hu
   obtain ⟨n, hn, h⟩ := Option.bind_eq_some_iff.1 h
   split at h
   ·cases h
   ·rename_i hm; injection h with h; subst h
    obtain rfl : mx = none := by simpa using hm
    exact ⟨t, el, e, hu, hn⟩
  ·rename_i hu
   split at h
   ·cases h
   ·rename_i hm; injection h with h; subst h
    obtain rfl : mx = none := by simpa using hm
    exact ⟨e, hu⟩
  ·cases h
 case h_20 t n c e =>
  split at h
  ·rename_i el hu
   obtain ⟨i, hi, h⟩ := Option.bind_eq_some_iff.1 h
   obtain ⟨z, hz, h⟩ := Option.bind_eq_some_iff.1 h
   split at h
   ·cases h
   ·rename_i h0; injection h with h; subst h
    exact ⟨i, z, e, hu, hi, hz, rfl, rfl, by omega, by omega, rfl⟩
  ·cases h
 case h_21 t x e =>
  split at h
  ·rename_i n el hu; injection h with h; subst h; exact ⟨t, el, e, hu⟩
  ·cases h
 case h_22 t r e =>
  split at h
  ·rename_i hr; injection h with h; subst h
   obtain rfl : r = none := by simpa using hr
   exact ⟨t, e⟩
  ·cases h
 case h_23 f fst cap e =>
  split at h
  ·rename_i hf; injection h with h; subst h
   obtain rfl : fst = #[] := by simpa using hf
   exact ⟨cap, e, rfl⟩
  ·cases h
 case h_24 t x i ok e =>
  split at h
  ·cases h
  ·rename_i hok
   obtain rfl : ok = false := by simpa using hok
   split at h
   ·rename_i k el hu
    split at h
    ·rename_i h1 h2; injection h with h; subst h; exact ⟨t, k, el, e, hu, h1, h2⟩
    ·cases h
   ·cases h
 case h_25 t x i y e =>
  split at h
  ·rename_i k el hu
   split at h
   ·rename_i h1; injection h with h; subst h; exact ⟨t, k, el, e, hu, h1⟩
   ·cases h
  ·cases h
 case h_26 c e =>
  obtain ⟨callee, args, ats⟩ := c
  simp only at h
  split at h
  ·rename_i f
   split at h
   ·rename_i hp; injection h with h; subst h; exact ⟨args, ats, e, rfl, hp⟩
   ·injection h with h; subst h; exact ⟨args, ats, e, rfl⟩
  ·rename_i f; injection h with h; subst h; exact ⟨args, ats, e, rfl⟩
  ·skip
   split at h
   ·rename_i x t h1 h2
    obtain rfl := Zt h1
    obtain rfl := Zt h2
    split at h
    ·rename_i el hu; injection h with h; subst h; exact ⟨t, e, ⟨el, hu⟩⟩
    ·rename_i hu; injection h with h; subst h; exact ⟨t, e, hu⟩
    ·cases h
   ·cases h
  ·skip
   split at h
   ·rename_i x y t t' h1 h2
    obtain rfl := Wi h1
    obtain rfl := Wi h2
    split at h
    ·rename_i htt; subst htt
     split at h
     ·rename_i el hu
      obtain ⟨i, hi, h⟩ := Option.bind_eq_some_iff.1 h
      obtain ⟨z, hz, h⟩ := Option.bind_eq_some_iff.1 h
      split at h
      ·cases h
      ·rename_i h0; injection h with h; subst h
       exact ⟨i, z, e, hu, hi, hz, rfl, rfl, by omega, by omega, by omega⟩
     ·cases h
    ·cases h
   ·cases h
  ·skip
   split at h
   ·rename_i x y t t' h1 h2
    obtain rfl := Wi h1
    obtain rfl := Wi h2
    split at h
    ·rename_i htt; subst htt
     split at h
     ·rename_i el hu
      obtain ⟨k, hk, rfl⟩ := Option.map_eq_some_iff.1 h
      exact ⟨t, el, e, hu, hk⟩
     ·cases h
    ·cases h
   ·cases h
  ·rename_i b _ _ _
   injection h with h; subst h
   exact ⟨args, e, rfl, rfl, rfl⟩
  ·cases h
 case h_27 => cases h
def Does (C : Ctx) (i : VI) (d : Option Nat) (s : St) (k : Bool) (K : St → Prop) : Prop :=
 ∀ o : Oper, Spec C.P o i → o.dst = d → (∀ j, d = some j → j < C.nt) →
  ∀ β a w, R C s β a w → ∀ (next : Act → World → Prop) (Q : Exit → Act → World → Prop), (∀ s' β' a' w', K s' → R C s' β' a' w' → (k = true → Kept (fun _ => False) w w') → next a' w') → o.wp C.P a w next Q
def Quiet (C : Ctx) (i : VI) (s : St) (x : S) : Prop :=
 ∀ o : Oper, Spec C.P o i → ∀ β a w, R C s β a w → ∃ v, (∀ w', Kept (fun _ => False) w w' → (execOp a.eval o).run C.P w' = .ok (.value v) w') ∧ iy w s.st β (C.I s.st β w) x v
theorem Quiet.does {C : Ctx} {i : VI} {d : Option Nat} {s : St} {x : S} (h : Quiet C i s x) : Does C i d s true (· = s.put d x) := by
 intro o ho hd hn β a w hR next Q hK
 obtain ⟨v, hv, hr⟩ := h o ho β a w hR
 unfold Oper.wp
 rw [hv w (Kept.refl _ _)]
 show next (a.put o.dst v) w
 rw [hd]
 exact hK _ β _ w rfl (hR.rQ hr hn) fun _ => Kept.refl _ _
theorem Ag {C : Ctx} {i : VI} {d : Option Nat} {s : St} {x : S} {env' : Env} {st' : Store} {k : Bool}
  (h : ∀ o : Oper, Spec C.P o i → ∀ β a w, R C s β a w → ∃ v w' β', (execOp a.eval o).run C.P w = .ok (.value v) w' ∧ R C ⟨env', st'⟩ β' a w' ∧ iy w' st' β' (C.I st' β' w') x v ∧ (k = true → Kept (fun _ => False) w w')) : Does C i d s k (· = (⟨env', st'⟩ : St).put d x) := by
 intro o ho hd hn β a w hR next Q hK
 obtain ⟨v, w', β', hv, h1, h2, h3⟩ := h o ho β a w hR
 unfold Oper.wp
 rw [hv]
 show next (a.put o.dst v) w'
 rw [hd]
 exact hK _ β' _ w' rfl (h1.rQ h2 hn) h3
theorem Kept.cell {w w' : World} (h : Kept (fun _ => False) w w') {a : Addr} {u : Value} (hc : w.cell? a = some u) : w'.cell? a = some u := by
 have hlt : a.block < w.heap.size := by
  unfold World.cell? at hc
  split at hc
  ·rename_i hh; exact (Array.getElem?_eq_some_iff.1 hh).1
  ·cases hc
 rw [cell_of_heap (h.block a.block hlt (fun h => h))]
 exact hc
theorem iy.plain {w : World} {st : Store} {β : Nat → Option Nat} {I : Nat → Prop} {x u : Value} (h : iy w st β I (.one (.v x)) u) : u = x := by
 cases h with | one h => cases h with | v h => rfl
theorem iy.v {w : World} {st : Store} {β : Nat → Option Nat} {I : Nat → Prop} {x : Value} (h : x.oneCell' = true) : iy w st β I (.one (.v x)) x := .one (.v h)
theorem iy.t {w : World} {st : Store} {β : Nat → Option Nat} {I : Nat → Prop} {t : T} {u : Value} (h : iy w st β I (.one t) u) : jc w st β I t u := by
 cases h with | one h => exact h
theorem addr_add (b off n : Nat) : (⟨b, off, none⟩ : Addr).add n = ⟨b, off + n, none⟩ := by unfold Addr.add; split <;> simp_all
section
variable {C : Ctx} {d : Option Nat} {s : St}
theorem Wj {x : Operand} {y : S} (hx : s.ev x = y) : Quiet C (.mv x) s y := by
 refine fun o ho β a w hR => ?_
 subst hx
 refine ⟨a.eval x, fun w' hk' => ?_, hR.ev x⟩
 rcases ho with ho | ho <;> simp [execOp, ho]
theorem Ei {c x y : Operand} {b : Bool} {p q : S} (hc : s.ev c = .one (.v (.bool b))) (hx : s.ev x = p) (hy : s.ev y = q) : Quiet C (.pick c x y) s (bif b then p else q) := by
 refine fun o ho β a w hR => ?_
 subst hx; subst hy
 have h1 := (hc ▸ hR.ev c).plain
 replace ho : o.op = .pick c x y := ho
 refine ⟨if b then a.eval x else a.eval y, fun w' hk' => by simp [execOp, ho, h1, asBool], ?_⟩
 cases b
 ·exact hR.ev y
 ·exact hR.ev x
theorem Zu {x : Operand} {n : Nat} {l : List S} {y : S} (hx : s.ev x = .tup l) (hy : l[n]? = some y) : Quiet C (.ext n x) s y := by
 refine fun o ho β a w hR => ?_
 have h1 := hx ▸ hR.ev x
 replace ho : o.op = .extract x n := ho
 generalize hv : a.eval x = v at h1
 cases h1 with
 | tup hs h =>
  rename_i vs
  have hn : n < vs.size := by
   have := (List.getElem?_eq_some_iff.1 hy).1
   omega
  exact ⟨vs[n], fun w' hk' => by simp [execOp, ho, hv, Instr.extract, Array.getElem?_eq_getElem hn], h n y _ hy (by simp [Array.getElem?_eq_getElem hn])⟩
theorem R.ptr {β : Nat → Option Nat} {a : Act} {w : World} (hR : R C s β a w) {x : Operand} {r off : Nat} {g : Reg} (hx : s.ev x = .one (.ptr r off)) (hg : dH s.st r = some g) : ∃ b, β r = some b ∧ a.eval x = .pointer (some ⟨b, off, none⟩) := by
 have h1 := (hx ▸ hR.ev x).t
 exact h1 (by rw [hg]; rfl)
theorem R.psl {β : Nat → Option Nat} {a : Act} {w : World} (hR : R C s β a w) {x : Operand} {off : Nat} {cs : List T} (hx : s.ev x = .one (.psl cs off)) :
  ∃ (b o : Nat) (us : Nat → Value), C.I s.st β w b ∧ a.eval x = .pointer (some ⟨b, o + off, none⟩) ∧ (∀ j t, cs[j]? = some t → w.cell? ⟨b, o + j, none⟩ = some (us j)) ∧ (∀ j t, cs[j]? = some t → Rep w (C.I s.st β w) t (us j)) :=
 (hx ▸ hR.ev x).t
theorem Ko {x : Operand} {r off : Nat} {g : Reg} (hx : s.ev x = .one (.ptr r off)) (hg : dH s.st r = some g) : Quiet C (.dG x) s (.one (.ptr r off)) := by
 refine fun o ho β a w hR => ?_
 obtain ⟨b, hb, hv⟩ := hR.ptr hx hg
 replace ho : o.op = .nilCheck x := ho
 exact ⟨_, fun w' hk' => by simp [execOp, ho, hv], .one fun _ => ⟨b, hb, rfl⟩⟩
end
def AQ (w : World) (st : Store) (β : Nat → Option Nat) (I : Nat → Prop) (b off : Nat) (ts : List T) : Prop :=
 ∀ (j : Nat) (t : T), ts[j]? = some t → ∃ u, w.cell? ⟨b, off + j, none⟩ = some u ∧ jc w st β I t u
theorem DK {w : World} {g i : Nat} {cs : Array Value} {t : TypeId} {fr : Nat × Nat} (h : w.heap[g]? = some (.cells cs t fr)) : w.cell? ⟨g, i, none⟩ = cs[i]? := by simp [World.cell?, h]
theorem AQ.load {P : Program} {w : World} {st : Store} {β : Nat → Option Nat} {I : Nat → Prop} {b off : Nat} {ts : List T} (h : AQ w st β I b off ts) :
  ∃ us : Array Value, (∀ w', Kept (fun _ => False) w w' → (loadCells ⟨b, off, none⟩ ts.length).run P w' = .ok us w') ∧ us.size = ts.length ∧ ∀ (j : Nat) (t : T) (u : Value), ts[j]? = some t → us[j]? = some u → jc w st β I t u := by
 have hex : ∀ j : Nat, ∃ u : Value, ∀ t, ts[j]? = some t → w.cell? ⟨b, off + j, none⟩ = some u ∧ jc w st β I t u := by
  intro j
  cases hj : ts[j]? with
  | none => exact ⟨undef, fun t ht => by cases ht⟩
  | some t =>
   obtain ⟨u, h1, h2⟩ := h j t hj
   exact ⟨u, fun t' ht => by injection ht with ht; subst ht; exact ⟨h1, h2⟩⟩
 let us : Nat → Value := fun j => (hex j).choose
 have hus : ∀ j t, ts[j]? = some t → w.cell? ⟨b, off + j, none⟩ = some (us j) ∧ jc w st β I t (us j) := fun j => (hex j).choose_spec
 refine ⟨((List.range ts.length).map us).toArray, fun w' hk' => run_loadCells w' _ _ us (fun j hj => ?_), by simp, fun j t u hj hu => ?_⟩
 ·have := hk'.cell (hus j _ (List.getElem?_eq_getElem hj)).1
  rwa [addr_add]
 ·have hj' : j < ts.length := (List.getElem?_eq_some_iff.1 hj).1
  have : u = us j := by
   simp [hj'] at hu
   exact hu.symm
  subst this
  exact (hus j t hj).2
inductive At (s : St) : S → List T → Prop
 | ptr {r off : Nat} {g : Reg} {ts : List T} (h : dH s.st r = some g) (ht : ∀ (j : Nat) (t : T), ts[j]? = some t → g.cs[off + j]? = some t) (hn : ts ≠ []) : At s (.one (.ptr r off)) ts
 | psl {cs ts : List T} {off : Nat} (ht : ∀ (j : Nat) (t : T), ts[j]? = some t → cs[off + j]? = some t) : At s (.one (.psl cs off)) ts
theorem Cj.blk {C : Ctx} {st : Store} {β : Nat → Option Nat} {w : World} (h : Cj C st β w) {r : Nat} {g : Reg} (hg : dH st r = some g) (hn : g.cs ≠ []) :
  ∃ b cur ety, β r = some b ∧ w.heap[b]? = some (.cells cur ety (0, 0)) ∧ g.cs.length ≤ cur.size ∧ ∀ (j : Nat) (t : T), g.cs[j]? = some t → ∃ u, cur[j]? = some u ∧ jc w st β (C.I st β w) t u := by
 have := (h.store r g hg).2
 cases hb : β r with
 | none => rw [hb] at this; exact absurd this hn
 | some b => rw [hb] at this; obtain ⟨cur, ety, h1⟩ := this; exact ⟨b, cur, ety, rfl, h1⟩
theorem At.cells {C : Ctx} {s : St} {x : S} {ts : List T} {β : Nat → Option Nat} {a : Act} {w : World} {u : Value} (h : At s x ts) (hR : R C s β a w) (hx : iy w s.st β (C.I s.st β w) x u) :
  ∃ b off, u = .pointer (some ⟨b, off, none⟩) ∧ AQ w s.st β (C.I s.st β w) b off ts := by
 cases h with
 | ptr h ht hn =>
  rename_i r off g
  have hne : g.cs ≠ [] := by
   intro e
   obtain ⟨t, l, rfl⟩ := List.exists_cons_of_ne_nil hn
   have := ht 0 t rfl
   rw [e] at this
   cases this
  obtain ⟨b, cur, ety, hb, hh, hl, hc⟩ := hR.ok.blk h hne
  obtain ⟨b', hb', rfl⟩ := hx.t (by rw [h]; rfl)
  rw [hb] at hb'
  injection hb' with hb'
  subst hb'
  refine ⟨b, off, rfl, fun j t hj => ?_⟩
  obtain ⟨u, h4, h5⟩ := hc _ t (ht j t hj)
  exact ⟨u, by rw [DK hh]; exact h4, h5⟩
 | psl ht =>
  obtain ⟨b, o, us, hI, rfl, hc, hr⟩ := hx.t
  refine ⟨b, _, rfl, fun j t hj => ?_⟩
  have h1 := ht j t hj
  refine ⟨_, ?_, (hr _ t h1).Ou⟩
  rw [Nat.add_assoc]
  exact hc _ t h1
theorem qU {α : Type} (l : List α) (off n : Nat) : ∀ (j : Nat) (t : α), ((l.drop off).take n)[j]? = some t → l[off + j]? = some t := by
 intro j t h
 have hj : j < n := by
  have := (List.getElem?_eq_some_iff.1 h).1
  simp at this
  omega
 rw [List.getElem?_take_of_lt hj, List.getElem?_drop] at h
 exact h
theorem Ah {P : Program} {w : World} {t : TypeId} {ag : Bool} (h : sU P t = some ag) : (isAgg t).run P w = .ok ag w := by
 obtain ⟨d, hd, rfl⟩ := Option.map_eq_some_iff.1 h
 unfold isAgg
 simp only [Sem.run_bind, run_underlying hd, Result.andThen_ok]
 cases d <;> rfl
theorem nX {P : Program} {w : World} {t : TypeId} {n : Nat} (h : szP P t = some n) : (sizeOf t).run P w = .ok n w := by
 obtain ⟨i, hi, rfl⟩ := Option.map_eq_some_iff.1 h
 simp [sizeOf, typeInfo, hi]
theorem DL {P : Program} {w : World} {t : TypeId} {z : Value} (h : H6 P t = some z) : (zeroValue t).run P w = .ok z w := by
 obtain ⟨i, hi, hz⟩ := Option.bind_eq_some_iff.1 h
 simp [zeroValue, typeInfo, hi, hz]
section
variable {C : Ctx} {d : Option Nat} {s : St}
theorem AU {x : Operand} {n : Nat} {y : S} {ts : List T} (hx : s.ev x = y) (h : At s y ts) (hn : ts.length = n) : Quiet C (.load true n x) s (.agg ts) := by
 refine fun o ho β a w hR => ?_
 obtain ⟨t, ho, hs, ha, _⟩ := ho
 obtain ⟨b, off, hu, hc⟩ := h.cells hR (hx ▸ hR.ev x)
 obtain ⟨us, h1, h2, h3⟩ := hc.load (P := C.P)
 refine ⟨.agg us, fun w' hk' => ?_, .agg h2 h3⟩
 subst hn
 simp [execOp, ho, Instr.loadAt, hu, Instr.sureAddr, loadVar, Ah ha, nX hs, h1 w' hk']
theorem Nr {x : Operand} {y : S} {t : T} (hx : s.ev x = y) (h : At s y [t]) : Quiet C (.load false 1 x) s (.one t) := by
 refine fun o ho β a w hR => ?_
 obtain ⟨ty, ho, hs, ha, _⟩ := ho
 obtain ⟨b, off, hu, hc⟩ := h.cells hR (hx ▸ hR.ev x)
 obtain ⟨u, h1, h2⟩ := hc 0 t rfl
 refine ⟨u, fun w' hk' => ?_, .one h2⟩
 rw [Nat.add_zero] at h1
 simp [execOp, ho, Instr.loadAt, hu, Instr.sureAddr, loadVar, Ah ha, hk'.cell h1]
theorem DN {x : Operand} {r off : Nat} {g : Reg} {t : T} (hx : s.ev x = .one (.ptr r off)) (hg : dH s.st r = some g) (ht : g.cs[off]? = some t) : Quiet C (.load false 1 x) s (.one t) :=
 Nr hx (.ptr hg (fun j u hj => by cases j with | zero => simp at hj; subst hj; exact ht | succ j => simp at hj) (by simp))
theorem C9 {x : Operand} {off : Nat} {cs : List T} {t : T} (hx : s.ev x = .one (.psl cs off)) (ht : cs[off]? = some t) : Quiet C (.load false 1 x) s (.one t) :=
 Nr hx (.psl fun j u hj => by cases j with | zero => simp at hj; subst hj; exact ht | succ j => simp at hj)
theorem Ns {x : Operand} {r off n : Nat} {g : Reg} {ts : List T} (hx : s.ev x = .one (.ptr r off)) (hg : dH s.st r = some g) (ht : (g.cs.drop off).take n = ts) (hn : ts.length = n) (h0 : n ≠ 0) : Quiet C (.load true n x) s (.agg ts) :=
 AU hx (.ptr hg (by rw [← ht]; exact qU _ _ _) (by intro e; subst e; simp at hn; omega)) hn
theorem Dz {x : Operand} {off n : Nat} {cs ts : List T} (hx : s.ev x = .one (.psl cs off)) (ht : (cs.drop off).take n = ts) (hn : ts.length = n) : Quiet C (.load true n x) s (.agg ts) :=
 AU hx (.psl (by rw [← ht]; exact qU _ _ _)) hn
theorem QO {x : Operand} {n r off : Nat} {g : Reg} (hx : s.ev x = .one (.ptr r off)) (hg : dH s.st r = some g) : Quiet C (.add n x) s (.one (.ptr r (off + n))) := by
 refine fun o ho β a w hR => ?_
 obtain ⟨st, fs, f, fl, m, ho, hu, hf, hm, h0, rfl⟩ := ho
 obtain ⟨b, hb, hv⟩ := hR.ptr hx hg
 refine ⟨.pointer (some ⟨b, off + fl.offset, none⟩), fun w' hk' => ?_, .one fun _ => ⟨b, hb, rfl⟩⟩
 simp [execOp, ho, hv, Instr.fieldAt, run_underlying hu, hf, Instr.sureAddr, fieldPlace, nX hm, h0, addr_add]
theorem sJ {x : Operand} {n off : Nat} {cs : List T} (hx : s.ev x = .one (.psl cs off)) : Quiet C (.add n x) s (.one (.psl cs (off + n))) := by
 refine fun o ho β a w hR => ?_
 obtain ⟨st, fs, f, fl, m, ho, hu, hf, hm, h0, rfl⟩ := ho
 obtain ⟨b, o', us, h2, hv, h3⟩ := hR.psl hx
 refine ⟨.pointer (some ⟨b, o' + (off + fl.offset), none⟩), fun w' hk' => ?_, .one ⟨b, o', us, h2, rfl, h3⟩⟩
 simp [execOp, ho, hv, Instr.fieldAt, run_underlying hu, hf, Instr.sureAddr, fieldPlace, nX hm, h0, addr_add, Nat.add_assoc]
theorem CU {x i : Operand} {k n : Nat} {cs : List T} {ik : IntKind} {m : Int} (hx : s.ev x = .one (.sl cs n)) (hi : s.ev i = .one (.v (.int ik m))) (h0 : 0 ≤ m) (h1 : m < n) :
  Quiet C (.fH k x i) s (.one (.psl cs (m.toNat * k))) := by
 refine fun o ho β a w hR => ?_
 obtain ⟨t, e, ho, hu, hk⟩ := ho
 have hm := (hi ▸ hR.ev i).plain
 have h2 := (hx ▸ hR.ev x).t
 generalize hv : a.eval x = v at h2
 cases h2 with
 | sl0 A cap => simp at h1; omega
 | sl us hI hc hr hn =>
  rename_i b off cap
  refine ⟨.pointer (some ⟨b, off + m.toNat * k, none⟩), fun w' hk' => ?_, .one ⟨b, off, us, hI, rfl, hc, hr⟩⟩
  simp [execOp, ho, hv, hm, Instr.indexAt, asIntOf, run_underlying hu, h0, h1, nX hk, addr_add]
theorem TG {x : Operand} {k n : Nat} {cs : List T} (hx : s.ev x = .one (.sl cs n)) (h0 : 0 < k) (h1 : k ≤ n) : Quiet C (.arr k x) s (.one (.psl cs 0)) := by
 refine fun o ho β a w hR => ?_
 obtain ⟨t, e, ho, hu⟩ := ho
 have h2 := (hx ▸ hR.ev x).t
 generalize hv : a.eval x = v at h2
 cases h2 with
 | sl0 A cap => omega
 | sl us hI hc hr hn =>
  rename_i b off cap
  refine ⟨.pointer (some ⟨b, off, none⟩), fun w' hk' => ?_, .one ⟨b, off, us, hI, rfl, hc, hr⟩⟩
  have h3 : ¬ n < k := by omega
  simp [execOp, ho, hv, Instr.arrayAt, run_underlying hu, h3]
theorem GH {x i : Operand} {k r off n : Nat} {g : Reg} {ap : Option (Nat × TypeId)} {ik : IntKind} {m : Int} (hx : s.ev x = .one (.own r off n ap)) (hg : dH s.st r = some g) (hi : s.ev i = .one (.v (.int ik m))) (h0 : 0 ≤ m) (h1 : m < n) :
  Quiet C (.fH k x i) s (.one (.ptr r (off + m.toNat * k))) := by
 refine fun o ho β a w hR => ?_
 obtain ⟨t, e, ho, hu, hk⟩ := ho
 have hm := (hi ▸ hR.ev i).plain
 have h2 := (hx ▸ hR.ev x).t (by rw [hg]; rfl)
 unfold sQ at h2
 cases hb : β r with
 | none => rw [hb] at h2; omega
 | some b =>
  rw [hb] at h2
  obtain ⟨A, cap, cur, ety, hv, hh, hA, hn, _⟩ := h2
  obtain rfl := hA (by omega)
  refine ⟨.pointer (some ⟨b, off + m.toNat * k, none⟩), fun w' hk' => ?_, .one fun _ => ⟨b, hb, rfl⟩⟩
  simp [execOp, ho, hv, hm, Instr.indexAt, asIntOf, run_underlying hu, h0, h1, nX hk, addr_add]
theorem vX {x i : Operand} {k n r off : Nat} {g : Reg} {ik : IntKind} {m : Int} (hx : s.ev x = .one (.ptr r off)) (hg : dH s.st r = some g) (hi : s.ev i = .one (.v (.int ik m))) (h0 : 0 ≤ m) (h1 : m < n) :
  Quiet C (.Vb k n x i) s (.one (.ptr r (off + m.toNat * k))) := by
 refine fun o ho β a w hR => ?_
 obtain ⟨t, e, ho, hu, hk⟩ := ho
 have hm := (hi ▸ hR.ev i).plain
 obtain ⟨b, hb, hv⟩ := hR.ptr hx hg
 refine ⟨.pointer (some ⟨b, off + m.toNat * k, none⟩), fun w' hk' => ?_, .one fun _ => ⟨b, hb, rfl⟩⟩
 simp [execOp, ho, hv, hm, Instr.indexAt, asIntOf, run_underlying hu, Instr.sureAddr, h0, h1, nX hk, addr_add]
theorem Nu {x : Operand} {n : Nat} (h : ∀ β a w, R C s β a w → ∃ A cap, a.eval x = .slice A n cap) : Quiet C (.len false x) s (.one (.v (.int .i64 n))) := by
 refine fun o ho β a w hR => ?_
 obtain ⟨t, ho, e, hu⟩ := ho
 obtain ⟨A, cap, hv⟩ := h β a w hR
 refine ⟨.int .i64 n, fun w' hk' => ?_, .v rfl⟩
 simp [execOp, ho, hv, resolve, invoke, builtin, Builtin.len_, run_underlying hu, goInt]
theorem TK {x : Operand} {cs : List T} {n : Nat} (hx : s.ev x = .one (.sl cs n)) : Quiet C (.len false x) s (.one (.v (.int .i64 n))) :=
 Nu fun β a w hR => by
  have h2 := (hx ▸ hR.ev x).t
  generalize a.eval x = v at h2
  cases h2 with
  | sl0 A cap => exact ⟨_, _, rfl⟩
  | sl us hI hc hr hn => exact ⟨_, _, rfl⟩
theorem jg {x : Operand} {r off n : Nat} {g : Reg} {ap : Option (Nat × TypeId)} (hx : s.ev x = .one (.own r off n ap)) (hg : dH s.st r = some g) : Quiet C (.len false x) s (.one (.v (.int .i64 n))) :=
 Nu fun β a w hR => by
  have h2 := (hx ▸ hR.ev x).t (by rw [hg]; rfl)
  unfold sQ at h2
  cases hb : β r with
  | none => rw [hb] at h2; obtain ⟨rfl, h3⟩ := h2; exact ⟨_, _, h3⟩
  | some b => rw [hb] at h2; obtain ⟨A, cap, cur, ety, hv, _⟩ := h2; exact ⟨A, cap, hv⟩
end
end Go.V
set_option linter.unusedVariables false
set_option linter.unusedSimpArgs false
namespace Go.V
open Go.RowKit
theorem T.yI {t : T} (h : t.isPure = true) (w : World) (st : Store) (β : Nat → Option Nat) (I : Nat → Prop) (u : Value) (hr : jc w st β I t u) : Rep w I t u := by
 cases t <;> first | exact hr | cases h
def gG : List T → Bool
 | [] => true
 | t :: l => t.isPure && gG l
theorem kK {l : List T} (h : gG l = true) : ∀ t ∈ l, t.isPure = true := by
 induction l with
 | nil => simp
 | cons x l ih =>
  simp only [gG, Bool.and_eq_true] at h
  intro t ht
  rcases List.mem_cons.1 ht with rfl | ht
  ·exact h.1
  ·exact ih h.2 t ht
theorem Vt {l : List T} (h : ∀ t ∈ l, t.isPure = true) : gG l = true := by
 induction l with
 | nil => rfl
 | cons x l ih => simp only [gG, Bool.and_eq_true]; exact ⟨h x (by simp), ih fun t ht => h t (by simp [ht])⟩
theorem kept_alloc (w : World) (o : Obj) : Kept (fun _ => False) w (w.alloc o) :=
 ⟨rfl, rfl, rfl, by simp, fun b hb _ => Below.heap_alloc w _ b hb, fun b cur ety hh => ⟨cur, (Below.heap_alloc w _ b (Array.getElem?_eq_some_iff.1 hh).1).trans hh, rfl⟩⟩
theorem R.alloc {C : Ctx} {s : St} {β : Nat → Option Nat} {a : Act} {w : World} (hR : R C s β a w) {r : Nat} (hf : s.fresh r = true) (cur : Array Value) (ety : TypeId) (g : Reg)
  (hl : g.cs.length ≤ cur.size) (hp : g.pure = true → ∀ t ∈ g.cs, t.isPure = true) (hc : ∀ (j : Nat) (t : T), g.cs[j]? = some t → ∃ u, cur[j]? = some u ∧ jc w s.st β (C.I s.st β w) t u ∧ t.has r = false) :
  R C ⟨s.env, (r, g) :: s.st⟩ (fun q => if q = r then some w.heap.size else β q) a (w.alloc (.cells cur ety)) := by
 have hnone := St.FW hf
 have hsome : ∀ q, (dH ((r, g) :: s.st) q).isSome = true → q = r ∨ (q ≠ r ∧ (dH s.st q).isSome = true) := by
  intro q hq
  by_cases h : q = r
  ·exact .inl h
  ·rw [kU _ _ (fun e => h e.symm)] at hq; exact .inr ⟨h, hq⟩
 have hheap : ∀ b, b < w.heap.size → (w.alloc (.cells cur ety)).heap[b]? = w.heap[b]? := fun b hb => Below.heap_alloc w _ b hb
 have hsz : (w.alloc (.cells cur ety)).heap.size = w.heap.size + 1 := by simp
 have hI : ∀ b, C.I s.st β w b → C.I ((r, g) :: s.st) (fun q => if q = r then some w.heap.size else β q) (w.alloc (.cells cur ety)) b := by
  intro b hb
  have hlt := C.Hy hR.ok.kept hb
  rcases hb with h0 | ⟨h1, h2, h3⟩
  ·exact .inl h0
  ·refine .inr ⟨h1, by omega, fun q hq => ?_⟩
   rcases hsome q hq with rfl | ⟨hne, hq'⟩
   ·simp; omega
   ·simp only [hne, if_false]; exact h3 q hq'
 have hx : TI (· = r) (C.I s.st β w) (C.I ((r, g) :: s.st) (fun q => if q = r then some w.heap.size else β q) (w.alloc (.cells cur ety))) s.st ((r, g) :: s.st) β (fun q => if q = r then some w.heap.size else β q) w (w.alloc (.cells cur ety)) := by
  refine ⟨hI, fun b hb => hheap b (C.Hy hR.ok.kept hb), fun q hq hs => ?_, fun q b hq hs hb c e hh => ?_⟩
  ·rcases hsome q hs with h | ⟨_, h⟩
   ·exact absurd h hq
   ·exact ⟨h, by simp [show ¬ q = r from hq]⟩
  ·rcases hsome q hs with h | ⟨_, h⟩
   ·exact absurd h hq
   ·exact ⟨c, (hheap b (hR.ok.lt h hb)).trans hh, rfl⟩
 refine hR.turn (N := (· = r)) ⟨?_, ?_, ?_, ?_, fun q b hq hf' => ?_⟩ hx ?_
 rotate_left 4
 ·rcases hsome q hq with rfl | ⟨hne, h⟩
  ·rw [C.fx q (St.HY hf)] at hf'; cases hf'
  ·simp only [hne, if_false]; exact hR.ok.yO q b h hf'
 rotate_right 4
 ·refine ⟨hR.ok.kept.os, hR.ok.kept.tape, hR.ok.kept.output, by have := hR.ok.kept.size; omega, fun b hb hE => (hheap b (by have := hR.ok.kept.size; omega)).trans (hR.ok.kept.block b hb hE), fun b c e hh => ?_⟩
  obtain ⟨c', h1, h2⟩ := hR.ok.kept.shape b c e hh
  exact ⟨c', (hheap b (Array.getElem?_eq_some_iff.1 h1).1).trans h1, h2⟩
 ·intro q g' hg
  by_cases hq : q = r
  ·subst hq
   rw [gU] at hg
   injection hg with hg
   subst hg
   refine ⟨fun h1 t ht => hp h1 t ht, ?_⟩
   simp only [if_true]
   refine ⟨cur, ety, heap_alloc_new w _, hl, fun j t hj => ?_⟩
   obtain ⟨u, h1, h2, h3⟩ := hc j t hj
   exact ⟨u, h1, jc.DI hx (fun q' hq' => by subst hq'; exact h3) h2⟩
  ·rw [kU _ _ (fun e => hq e.symm)] at hg
   have := hR.ok.store q g' hg
   refine ⟨this.1, ?_⟩
   have h2 := this.2
   simp only [hq, if_false]
   cases hb : β q with
   | none => rw [hb] at h2; exact h2
   | some b =>
    rw [hb] at h2
    obtain ⟨c, e, h3, h4, h5⟩ := h2
    refine ⟨c, e, (hheap b (hR.ok.lt (by rw [hg]; rfl) hb)).trans h3, h4, fun j t hj => ?_⟩
    obtain ⟨u, h6, h7⟩ := h5 j t hj
    exact ⟨u, h6, jc.DI hx (fun q' hq' => by subst hq'; exact St.Hz hf hR.ok hg (List.mem_of_getElem? hj)) h7⟩
 ·intro q q' b hq hq' hb hb'
  rcases hsome q hq with rfl | ⟨hne, h⟩ <;> rcases hsome q' hq' with rfl | ⟨hne', h'⟩
  ·rfl
  ·simp only [if_true] at hb; simp only [hne', if_false] at hb'
   have := hR.ok.lt h' hb'
   injection hb with hb; omega
  ·simp only [if_true] at hb'; simp only [hne, if_false] at hb
   have := hR.ok.lt h hb
   injection hb' with hb'; omega
  ·simp only [hne, if_false] at hb; simp only [hne', if_false] at hb'
   exact hR.ok.inj q q' b h h' hb hb'
 ·intro q b hq hb
  rcases hsome q hq with rfl | ⟨hne, h⟩
  ·simp only [if_true] at hb; injection hb with hb
   have := hR.ok.kept.size
   exact .inr (by omega)
  ·simp only [hne, if_false] at hb
   exact hR.ok.uX q b h hb
 ·rintro q rfl i
  exact St.Eh hf i
def S.cells (st : Store) : S → Option (List T)
 | .one (.dead) => none
 | .one (.uO _ _) => none
 | .one (.own r off n ap) => bif (dH st r).isSome then some [.own r off n ap] else none
 | .one (.ptr r off) => bif (dH st r).isSome then some [.ptr r off] else none
 | .one t => some [t]
 | .agg ts => some ts
 | .tup _ => none
theorem II {w : World} {st : Store} {β : Nat → Option Nat} {I : Nat → Prop} {x : S} {u : Value} {ts : List T} (hx : iy w st β I x u) (h : x.cells st = some ts) :
  u.cells.size = ts.length ∧ ∀ (j : Nat) (t : T), ts[j]? = some t → ∃ v, u.cells[j]? = some v ∧ jc w st β I t v := by
 have one : ∀ t : T, jc w st β I t u → u.oneCell' = true → u.cells.size = [t].length ∧ ∀ (j : Nat) (t' : T), [t][j]? = some t' → ∃ v, u.cells[j]? = some v ∧ jc w st β I t' v := by
  intro t ht h1
  have : u.cells = #[u] := by cases u <;> first | rfl | (cases h1)
  rw [this]
  refine ⟨rfl, fun j t' hj => ?_⟩
  cases j with
  | zero => simp at hj; subst hj; exact ⟨u, by simp, ht⟩
  | succ j => simp at hj
 cases hx with
 | one ht =>
  rename_i t
  cases t with
  | dead => cases h
  | uO b m => cases h
  | v x => injection h with h; subst h; exact one _ ht (Rep.oneCell ht)
  | nil => injection h with h; subst h; exact one _ ht (Rep.oneCell ht)
  | sl cs n => injection h with h; subst h; exact one _ ht (Rep.oneCell ht)
  | clo f cs => injection h with h; subst h; exact one _ ht (Rep.oneCell ht)
  | psl cs off =>
   injection h with h; subst h
   obtain ⟨b, o, us, _, rfl, _⟩ := ht
   exact one _ ⟨b, o, us, by assumption, rfl, by assumption⟩ rfl
  | own r off n ap =>
   simp only [S.cells] at h
   cases hs : (dH st r).isSome with
   | false => rw [hs] at h; cases h
   | true =>
    rw [hs] at h; injection h with h; subst h
    refine one _ ht ?_
    have := ht hs
    unfold sQ at this
    cases hb : β r with
    | none => rw [hb] at this; rw [this.2]; rfl
    | some b => rw [hb] at this; obtain ⟨A, cap, cur, ety, rfl, _⟩ := this; rfl
  | ptr r off =>
   simp only [S.cells] at h
   cases hs : (dH st r).isSome with
   | false => rw [hs] at h; cases h
   | true =>
    rw [hs] at h; injection h with h; subst h
    refine one _ ht ?_
    obtain ⟨b, _, rfl⟩ := ht hs
    rfl
 | agg hs hr =>
  injection h with h; subst h
  refine ⟨hs, fun j t hj => ?_⟩
  have hlt := (List.getElem?_eq_some_iff.1 hj).1
  rename_i us
  have : us[j]? = some us[j] := Array.getElem?_eq_getElem (by omega)
  exact ⟨_, this, hr j t _ hj this⟩
 | tup hs hr => cases h
section
variable {C : Ctx} {s : St} {r : Nat}
theorem Xy {cs : List T} (hf : s.fresh r = true) (hh : cs.all (fun t => !t.has r) = true) : Does C (.jm cs) (some r) s true (· = (⟨s.env, (r, ⟨gG cs, cs⟩) :: s.st⟩ : St).put (some r) (.one (.ptr r 0))) := by
 refine Ag fun o ho β a w hR => ?_
 obtain ⟨e, z, ho, hz, rfl⟩ := ho
 have h1 := hR.alloc hf z.cells e ⟨gG (z.cells.toList.map kQ), z.cells.toList.map kQ⟩ (by simp) (fun h => kK h) (fun j t hj => by
  rw [List.getElem?_map] at hj
  obtain ⟨u, hu, rfl⟩ := Option.map_eq_some_iff.1 hj
  refine ⟨u, by simpa using hu, wH .., ?_⟩
  have := List.all_eq_true.1 hh (kQ u) (List.mem_map_of_mem (List.mem_of_getElem? hu))
  simpa using this)
 refine ⟨.pointer (some ⟨w.heap.size, 0, none⟩), _, _, ?_, h1, .one fun _ => ⟨_, by simp, rfl⟩, fun _ => kept_alloc w _⟩
 simp [execOp, ho, Instr.alloc, DL hz, newVar, newRow]
theorem Zv {e : TypeId} {x : Operand} {y : S} {cs : List T} (hx : s.ev x = y) (hc : y.cells s.st = some cs) (hf : s.fresh r = true) (hh : cs.all (fun t => !t.has r) = true) :
  Does C (.box e x) (some r) s true (· = (⟨s.env, (r, ⟨gG cs, cs⟩) :: s.st⟩ : St).put (some r) (.one (.ptr r 0))) := by
 refine Ag fun o ho β a w hR => ?_
 replace ho : o.op = .box e x := ho
 obtain ⟨h1, h2⟩ := II (hx ▸ hR.ev x) hc
 have h3 := hR.alloc hf (a.eval x).cells e ⟨gG cs, cs⟩ (by simp only; omega) (fun h => kK h) (fun j t hj => by
  obtain ⟨v, h4, h5⟩ := h2 j t hj
  refine ⟨v, h4, h5, ?_⟩
  have := List.all_eq_true.1 hh t (List.mem_of_getElem? hj)
  simpa using this)
 refine ⟨.pointer (some ⟨w.heap.size, 0, none⟩), _, _, ?_, h3, .one fun _ => ⟨_, by simp, rfl⟩, fun _ => kept_alloc w _⟩
 simp [execOp, ho, Instr.box, newVar, newRow]
end
theorem R.write {C : Ctx} {s : St} {β : Nat → Option Nat} {a : Act} {w : World} (hR : R C s β a w) {r b : Nat} {g : Reg} (hg : dH s.st r = some g) (hb : β r = some b) (cur' : Array Value) (g' : Reg)
  (hl : g'.cs.length ≤ cur'.size) (hsz : ∀ cur ety, w.heap[b]? = some (.cells cur ety (0, 0)) → cur'.size = cur.size) (hp : g'.pure = true → ∀ t ∈ g'.cs, t.isPure = true ∨ (g.pure = true ∧ t ∈ g.cs))
  (hc : ∀ (j : Nat) (t : T), g'.cs[j]? = some t → ∃ u, cur'[j]? = some u ∧ jc w s.st β (C.I s.st β w) t u) : R C ⟨s.env, sset s.st r g'⟩ β a (w.setRow b cur') := by
 obtain ⟨acj, ety, hh0, _⟩ : ∃ acj ety, w.heap[b]? = some (.cells acj ety (0, 0)) ∧ True := by
  have := (hR.ok.store r g hg).2
  rw [hb] at this
  obtain ⟨c, e, h, _⟩ := this
  exact ⟨c, e, h, trivial⟩
 have hrs : (dH s.st r).isSome = true := by rw [hg]; rfl
 have hother : ∀ k, k ≠ b → (w.setRow b cur').heap[k]? = w.heap[k]? := by
  intro k hk
  simp only [World.setRow, Array.getElem?_modify]
  rw [if_neg (by omega)]
 have hsame : (w.setRow b cur').heap[b]? = some (.cells cur' ety (0, 0)) := by
  exact setRow_heap w b acj cur' ety (0, 0) hh0
 have hsize : (w.setRow b cur').heap.size = w.heap.size := by simp [World.setRow]
 have hsome : ∀ q, (dH (sset s.st r g') q).isSome = (dH s.st q).isSome := fun q => vT ..
 have hI : ∀ c, C.I (sset s.st r g') β (w.setRow b cur') c ↔ C.I s.st β w c := by
  intro c
  unfold Ctx.I
  rw [hsize]
  simp only [hsome]
 have hIe : C.I (sset s.st r g') β (w.setRow b cur') = C.I s.st β w := funext fun c => propext (hI c)
 have hnI : ¬ C.I s.st β w b := hR.ok.ac6 hrs hb
 have hx : Ext (C.I s.st β w) (C.I (sset s.st r g') β (w.setRow b cur')) s.st (sset s.st r g') β β w (w.setRow b cur') := by
  refine ⟨fun c hc => (hI c).2 hc, fun c hc => hother c (fun e => by subst e; exact hnI hc), fun q hq => ⟨by rw [hsome] at hq; exact hq, rfl⟩, fun q c hq hqc cc e hh => ?_⟩
  by_cases h : c = b
  ·subst h
   have : e = ety := by rw [hh0] at hh; injection hh with hh; injection hh with _ hh; exact hh.symm
   subst this
   exact ⟨cur', hsame, hsz cc e hh⟩
  ·exact ⟨cc, (hother c h).trans hh, rfl⟩
 refine hR.turn (N := fun _ => False) ⟨?_, ?_, ?_, ?_, fun q b hq hf => hR.ok.yO q b (by rw [hsome] at hq; exact hq) hf⟩ (hx.toN _) (fun _ hh => hh.elim)
 ·have hE := hR.ok.uX r b hrs hb
  refine ⟨hR.ok.kept.os, hR.ok.kept.tape, hR.ok.kept.output, by rw [hsize]; exact hR.ok.kept.size, fun c hc hE' => ?_, fun c cc e hh => ?_⟩
  ·by_cases h : c = b
   ·subst h
    rcases hE with hE | hE
    ·exact absurd hE hE'
    ·omega
   ·exact (hother c h).trans (hR.ok.kept.block c hc hE')
  ·obtain ⟨c', h1, h2⟩ := hR.ok.kept.shape c cc e hh
   by_cases h : c = b
   ·subst h
    have : e = ety := by rw [hh0] at h1; injection h1 with h1; injection h1 with _ h1; exact h1.symm
    subst this
    exact ⟨cur', hsame, (hsz _ _ h1).trans h2⟩
   ·exact ⟨c', (hother c h).trans h1, h2⟩
 ·intro q gq hq
  by_cases h : r = q
  ·subst h
   rw [nV _ _ _ hrs] at hq
   injection hq with hq
   subst hq
   refine ⟨fun h1 t ht => ?_, ?_⟩
   ·rcases hp h1 t ht with h2 | ⟨h2, h3⟩
    ·exact h2
    ·exact (hR.ok.store r g hg).1 h2 t h3
   ·rw [hb]
    refine ⟨cur', ety, hsame, hl, fun j t hj => ?_⟩
    obtain ⟨u, h1, h2⟩ := hc j t hj
    exact ⟨u, h1, jc.ext hx h2⟩
  ·rw [qG _ _ h] at hq
   have := hR.ok.store q gq hq
   refine ⟨this.1, ?_⟩
   have h2 := this.2
   cases hbq : β q with
   | none => rw [hbq] at h2; exact h2
   | some c =>
    rw [hbq] at h2
    obtain ⟨cc, e, h3, h4, h5⟩ := h2
    have hne : c ≠ b := fun e => by subst e; exact h (hR.ok.inj r q c hrs (by rw [hq]; rfl) hb hbq)
    refine ⟨cc, e, (hother c hne).trans h3, h4, fun j t hj => ?_⟩
    obtain ⟨u, h6, h7⟩ := h5 j t hj
    exact ⟨u, h6, jc.ext hx h7⟩
 ·intro q q' c hq hq' h1 h2
  rw [hsome] at hq hq'
  exact hR.ok.inj q q' c hq hq' h1 h2
 ·intro q c hq h1
  rw [hsome] at hq
  exact hR.ok.uX q c hq h1
theorem vU {α : Type} (l ys : List α) (off : Nat) (h : off + ys.length ≤ l.length) (j : Nat) : (l.take off ++ ys ++ l.drop (off + ys.length))[j]? = if j < off then l[j]? else if j < off + ys.length then ys[j - off]? else l[j]? := by
 have h1 : (l.take off).length = off := by rw [List.length_take]; omega
 by_cases ha : j < off
 ·rw [if_pos ha, List.append_assoc, List.getElem?_append_left (by omega), List.getElem?_take_of_lt ha]
 ·rw [if_neg ha]
  by_cases hb : j < off + ys.length
  ·rw [if_pos hb, List.getElem?_append_left (by rw [List.length_append]; omega), List.getElem?_append_right (by omega), h1]
  ·rw [if_neg hb, List.getElem?_append_right (by rw [List.length_append]; omega), List.getElem?_drop, List.length_append, h1]
   congr 1; omega
def Nv (st : Store) : T → Bool
 | .dead => false
 | .uO _ _ => false
 | .own r _ _ _ => (dH st r).isSome
 | .ptr r _ => (dH st r).isSome
 | _ => true
theorem AV {w : World} {st : Store} {β : Nat → Option Nat} {I : Nat → Prop} {t : T} {u : Value} (h : Nv st t = true) (hr : jc w st β I t u) : u.oneCell' = true := by
 cases t with
 | dead => cases h
 | uO b m => cases h
 | v x => exact Rep.oneCell hr
 | nil => exact Rep.oneCell hr
 | sl cs n => exact Rep.oneCell hr
 | clo f cs => exact Rep.oneCell hr
 | psl cs off => obtain ⟨b, o, us, _, rfl, _⟩ := hr; rfl
 | own r off n ap =>
  have := hr h
  unfold sQ at this
  cases hb : β r with
  | none => rw [hb] at this; rw [this.2]; rfl
  | some b => rw [hb] at this; obtain ⟨A, cap, cur, ety, rfl, _⟩ := this; rfl
 | ptr r off => obtain ⟨b, _, rfl⟩ := hr h; rfl
def splice (l : List T) (off : Nat) (ys : List T) : List T := l.take off ++ ys ++ l.drop (off + ys.length)
section
variable {C : Ctx} {s : St} {d : Option Nat}
theorem Nw {n r off : Nat} {x y : Operand} {g : Reg} {z : S} {ys : List T} (hx : s.ev x = .one (.ptr r off)) (hg : dH s.st r = some g) (hy : s.ev y = z) (hc : z.cells s.st = some ys) (hn : ys.length = n)
  (hl : off + n ≤ g.cs.length) (hv : ys.all (Nv s.st) = true) (h0 : n ≠ 0) : Does C (.store n x y) d s false (· = (⟨s.env, sset s.st r ⟨g.pure && gG ys, splice g.cs off ys⟩⟩ : St).put d (.tup [])) := by
 intro o ho hd hnt β a w hR next Q hK
 obtain ⟨t, ho, ht⟩ := ho
 obtain ⟨b, hb, hvx⟩ := hR.ptr hx hg
 obtain ⟨h1, h2⟩ := II (hy ▸ hR.ev y) hc
 have hne : g.cs ≠ [] := by intro e; rw [e] at hl; simp at hl; omega
 obtain ⟨b', cur, ety, hb', hh, hlen, hcur⟩ := hR.ok.blk hg hne
 rw [hb] at hb'; injection hb' with hb'; subst hb'
 have hone : ∀ v ∈ (a.eval y).cells.toList, v.oneCell' = true := by
  intro v hv'
  obtain ⟨j, hj, rfl⟩ := List.getElem_of_mem hv'
  have hj' : j < ys.length := by simp at hj; omega
  obtain ⟨u, h3, h4⟩ := h2 j ys[j] (List.getElem?_eq_getElem hj')
  have h5 : (a.eval y).cells[j]? = some (a.eval y).cells.toList[j] := by simp
  rw [h5] at h3; injection h3 with h3
  rw [h3]
  exact AV (List.all_eq_true.1 hv _ (List.getElem_mem hj')) h4
 have hst := run_storeCells_at (P := C.P) b off ety (a.eval y).cells.toList 0 cur w hh (by simp; omega) hone
 have hyl : (a.eval y).cells.toList.length = ys.length := by simp [h1]
 have hR' := hR.write hg hb (cur.toList.take off ++ (a.eval y).cells.toList ++ cur.toList.drop (off + (a.eval y).cells.toList.length)).toArray ⟨g.pure && gG ys, splice g.cs off ys⟩
  (by simp [splice]; omega) (fun c e hc => by rw [hh] at hc; injection hc with hc; injection hc with hc; subst hc; simp; omega)
  (fun hp t ht => by
   simp only [Bool.and_eq_true] at hp
   simp only [splice, List.mem_append] at ht
   rcases ht with (ht | ht) | ht
   ·exact .inr ⟨hp.1, List.mem_of_mem_take ht⟩
   ·exact .inl (kK hp.2 t ht)
   ·exact .inr ⟨hp.1, List.mem_of_mem_drop ht⟩)
  (fun j t hj => by
   simp only [splice] at hj
   rw [vU _ _ _ (by omega)] at hj
   rw [List.getElem?_toArray, vU _ _ _ (by simp; omega)]
   by_cases ha : j < off
   ·rw [if_pos ha] at hj ⊢
    obtain ⟨u, h3, h4⟩ := hcur j t hj
    exact ⟨u, by simpa using h3, h4⟩
   ·rw [if_neg ha] at hj ⊢
    rw [hyl]
    by_cases hb2 : j < off + ys.length
    ·rw [if_pos hb2] at hj ⊢
     obtain ⟨u, h3, h4⟩ := h2 _ t hj
     exact ⟨u, by simpa using h3, h4⟩
    ·rw [if_neg hb2] at hj ⊢
     obtain ⟨u, h3, h4⟩ := hcur j t hj
     exact ⟨u, by simpa using h3, h4⟩)
 unfold Oper.wp
 have hrun : (execOp a.eval o).run C.P w = .ok .skip (w.setRow b (cur.toList.take off ++ (a.eval y).cells.toList ++ cur.toList.drop (off + (a.eval y).cells.toList.length)).toArray) := by
  simp only [Nat.add_zero] at hst
  simp [execOp, ho, hvx, Instr.storeAt, Instr.sureAddr, storeVar, nX ht, h1, hn, hst]
 rw [hrun]
 show next (a.put o.dst undef) _
 rw [hd]
 exact hK _ β _ _ rfl (hR'.rQ (.tup rfl (fun i s u h => by simp at h)) hnt) (fun h => by cases h)
end
end Go.V
set_option linter.unusedVariables false
set_option linter.unusedSimpArgs false
namespace Go.V
open Go.RowKit
theorem fold_size (off : Nat) : ∀ (l : List Value) (k : Nat) (us : Array Value), ((l.zipIdx k).foldl (fun cs p => cs.setIfInBounds (off + p.2) p.1) us).size = us.size
 | [], k, us => rfl
 | v :: l, k, us => by simp only [List.zipIdx_cons, List.foldl_cons]; rw [fold_size off l]; simp
theorem TL (off : Nat) : ∀ (l : List Value) (k : Nat) (us : Array Value) (i : Nat), off + k + l.length ≤ us.size →
  ((l.zipIdx k).foldl (fun cs p => cs.setIfInBounds (off + p.2) p.1) us)[i]? = if off + k ≤ i ∧ i < off + k + l.length then l[i - (off + k)]? else us[i]?
 | [], k, us, i, _ => by simp; omega
 | v :: l, k, us, i, h => by
  simp only [List.length_cons] at h
  simp only [List.zipIdx_cons, List.foldl_cons]
  rw [TL off l (k + 1) _ i (by simp; omega)]
  by_cases h1 : off + k = i
  ·subst h1
   have : off + k < us.size := by omega
   rw [if_neg (by omega), if_pos (by simp)]
   simp [this]
  ·by_cases h2 : off + (k + 1) ≤ i ∧ i < off + (k + 1) + l.length
   ·rw [if_pos h2, if_pos (by simp; omega)]
    have : i - (off + k) = (i - (off + (k + 1))) + 1 := by omega
    rw [this, List.getElem?_cons_succ]
   ·rw [if_neg h2, if_neg (by simp; omega), Array.getElem?_setIfInBounds_ne h1]
def RelA (w : World) (st : Store) (β : Nat → Option Nat) (I : Nat → Prop) (ts : List T) (us : Array Value) : Prop :=
 us.size = ts.length ∧ ∀ (j : Nat) (t : T), ts[j]? = some t → ∃ u, us[j]? = some u ∧ jc w st β I t u
theorem RelA.fold {w : World} {st : Store} {β : Nat → Option Nat} {I : Nat → Prop} {ts ys : List T} {us vs : Array Value} (h : RelA w st β I ts us) (hy : RelA w st β I ys vs) {off : Nat} (hl : off + ys.length ≤ ts.length) :
  RelA w st β I (splice ts off ys) (vs.zipIdx.foldl (fun cs p => cs.setIfInBounds (off + p.2) p.1) us) := by
 have e : vs.zipIdx.foldl (fun cs p => cs.setIfInBounds (off + p.2) p.1) us = ((vs.toList.zipIdx 0).foldl (fun cs p => cs.setIfInBounds (off + p.2) p.1) us) := by
  rw [← Array.foldl_toList, Array.toList_zipIdx]
 rw [e]
 have hv : vs.toList.length = ys.length := by simp [hy.1]
 refine ⟨?_, fun j t hj => ?_⟩
 ·rw [fold_size, h.1]
  simp only [splice, List.length_append, List.length_take, List.length_drop]
  omega
 ·rw [TL _ _ _ _ _ (by rw [hv, h.1]; omega)]
  simp only [splice] at hj
  rw [vU _ _ _ hl] at hj
  simp only [Nat.add_zero, hv]
  by_cases h1 : j < off
  ·rw [if_pos h1] at hj
   rw [if_neg (by omega)]
   exact h.2 j t hj
  ·rw [if_neg h1] at hj
   by_cases h2 : j < off + ys.length
   ·rw [if_pos h2] at hj
    rw [if_pos (by omega)]
    obtain ⟨u, h3, h4⟩ := hy.2 _ t hj
    exact ⟨u, by simpa using h3, h4⟩
   ·rw [if_neg h2] at hj
    rw [if_neg (by omega)]
    exact h.2 j t hj
def wJ : List T → List (Nat × List T) → List T
 | cs, [] => cs
 | cs, (off, ys) :: l => wJ (splice cs off ys) l
def zF (n : Nat) : List (Nat × List T) → Bool
 | [] => true
 | (off, ys) :: l => (off + ys.length).ble n && zF n l
def St.parts (s : St) : List (Nat × Nat × Operand) → Option (List (Nat × List T))
 | [] => some []
 | (off, n, x) :: l => match (s.ev x).cells s.st with
  | some ys => bif (ys.length == n) then (s.parts l).map ((off, ys) :: ·) else none
  | none => none
theorem H7 {C : Ctx} {s : St} {β : Nat → Option Nat} {a : Act} {w : World} (hR : R C s β a w) (place : Nat → Option (Nat × Nat)) :
  ∀ (l : List (Nat × Operand)) (ps : List (Nat × Nat × Operand)) (xs : List (Nat × List T)) (cs : List T) (us : Array Value),
   (∀ (i : Nat) (p : Nat × Operand), l[i]? = some p → ∃ q, ps[i]? = some q ∧ place p.1 = some (q.1, q.2.1) ∧ p.2 = q.2.2) → l.length = ps.length →
   s.parts ps = some xs → zF cs.length xs = true → RelA w s.st β (C.I s.st β w) cs us →
   ∃ us', Instr.fill place us (l.map fun p => (p.1, a.eval p.2)) = some us' ∧ RelA w s.st β (C.I s.st β w) (wJ cs xs) us'
 | [], ps, xs, cs, us, _, hl, hx, _, hA => by
  obtain rfl : ps = [] := List.eq_nil_of_length_eq_zero hl.symm
  simp only [St.parts] at hx; injection hx with hx; subst hx
  exact ⟨us, rfl, hA⟩
 | (i, x) :: l, [], xs, cs, us, _, hl, _, _, _ => by simp at hl
 | (i, x) :: l, (off, n, x') :: ps, xs, cs, us, hp, hl, hx, hok, hA => by
  obtain ⟨q, hq, hpl, hxx⟩ := hp 0 _ rfl
  simp at hq; subst hq
  simp only at hpl hxx
  subst hxx
  simp only [St.parts] at hx
  cases hc : (s.ev x).cells s.st with
  | none => rw [hc] at hx; cases hx
  | some ys =>
   rw [hc] at hx
   simp only at hx
   cases hn : (ys.length == n) with
   | false => rw [hn] at hx; cases hx
   | true =>
    rw [hn, cond_true] at hx
    have hn' : ys.length = n := eq_of_beq hn
    obtain ⟨xs', hx', rfl⟩ := Option.map_eq_some_iff.1 hx
    simp only [zF, Bool.and_eq_true, Nat.ble_eq] at hok
    obtain ⟨h1, h2⟩ := II (hR.ev x) hc
    have hA' := RelA.fold hA ⟨h1, h2⟩ hok.1
    have hlen : (splice cs off ys).length = cs.length := by simp only [splice, List.length_append, List.length_take, List.length_drop]; omega
    obtain ⟨us', h3, h4⟩ := H7 hR place l ps xs' _ _ (fun i p h => hp (i + 1) p (by simpa using h)) (by simpa using hl) hx' (by rw [hlen]; exact hok.2) hA'
    refine ⟨us', ?_, h4⟩
    simp only [List.map_cons, Instr.fill, hpl]
    rw [if_neg (by
     simp only [Bool.or_eq_true, decide_eq_true_eq, ne_eq, not_or, Nat.not_lt]
     have := hA.1
     exact ⟨by simp; omega, by omega⟩)]
    exact h3
section
variable {C : Ctx} {s : St} {d : Option Nat}
theorem Ny {fs : Array Field} {P : Program} : ∀ {l : List (Nat × Operand)} {ps : List (Nat × Nat × Operand)}, (l.mapM fun (p : Nat × Operand) => (fs[p.1]?).bind fun f => (szP P f.type).map fun n => (f.offset, n, p.2)) = some ps →
  ps.length = l.length ∧ ∀ (i : Nat) (p : Nat × Operand), l[i]? = some p → ∃ q f, ps[i]? = some q ∧ fs[p.1]? = some f ∧ szP P f.type = some q.2.1 ∧ q.1 = f.offset ∧ p.2 = q.2.2
 | [], ps, h => by simp at h; subst h; simp
 | x :: l, ps, h => by
  simp only [List.mapM_cons, bind, Option.bind_eq_some_iff] at h
  obtain ⟨q, ⟨f, hf, hq⟩, ps', hps, h⟩ := h
  simp only [pure, Option.some.injEq] at h
  subst h
  obtain ⟨n, hn, rfl⟩ := Option.map_eq_some_iff.1 hq
  obtain ⟨h1, h2⟩ := Ny hps
  refine ⟨by simp [h1], fun i p hi => ?_⟩
  cases i with
  | zero => simp at hi; subst hi; exact ⟨_, f, rfl, hf, hn, rfl, rfl⟩
  | succ i => simpa using h2 i p (by simpa using hi)
theorem AX (w : World) (st : Store) (β : Nat → Option Nat) (I : Nat → Prop) (us : Array Value) : RelA w st β I (us.toList.map kQ) us := by
 refine ⟨by simp, fun j t hj => ?_⟩
 rw [List.getElem?_map] at hj
 obtain ⟨u, hu, rfl⟩ := Option.map_eq_some_iff.1 hj
 exact ⟨u, by simpa using hu, wH ..⟩
theorem Nz {P : Program} {w : World} : ∀ (fs : List Field), (∀ f ∈ fs, (szP P f.type).isSome = true) →
  (fs.mapM (fun f => do pure (f.offset, ← sizeOf f.type)) : Sem (List (Nat × Nat))).run P w = .ok (fs.map fun f => (f.offset, (szP P f.type).getD 0)) w
 | [], _ => rfl
 | f :: fs, h => by
  have h1 := h f (by simp)
  obtain ⟨n, hn⟩ := Option.isSome_iff_exists.1 h1
  simp only [List.mapM_cons, Sem.run_bind, nX hn, Result.andThen_ok, Sem.run_pure, Nz fs (fun g hg => h g (by simp [hg])), List.map_cons, hn, Option.getD_some]
theorem TM {P : Program} {w : World} (fs : Array Field) (h : ∀ f ∈ fs.toList, (szP P f.type).isSome = true) :
  (fs.mapM (fun f => do pure (f.offset, ← sizeOf f.type)) : Sem (Array (Nat × Nat))).run P w = .ok (fs.map fun f => (f.offset, (szP P f.type).getD 0)) w := by
 rw [Array.mapM_eq_mapM_toList]
 have := Nz (P := P) (w := w) fs.toList h
 rw [map_eq_pure_bind, Sem.run_bind, this]
 simp only [Result.andThen_ok, Sem.run_pure]
 congr 1
 apply Array.toList_inj.1
 simp
theorem Vu {zs : List T} {ps : List (Nat × Nat × Operand)} {xs : List (Nat × List T)} (hp : s.parts ps = some xs) (hok : zF zs.length xs = true) : Quiet C (.build zs ps) s (.agg (wJ zs xs)) := by
 refine fun o ho β a w hR => ?_
 obtain ⟨t, parts, z, ho, hz, hps, hall, rfl⟩ := ho
 have fin : ∀ us, RelA w s.st β (C.I s.st β w) (wJ (z.cells.toList.map kQ) xs) us → iy w s.st β (C.I s.st β w) (.agg (wJ (z.cells.toList.map kQ) xs)) (.agg us) := by
  intro us h4
  refine .agg h4.1 fun i t u h5 h6 => ?_
  obtain ⟨u', h7, h8⟩ := h4.2 i t h5
  rw [h6] at h7; injection h7 with h7; subst h7
  exact h8
 unfold Vs at hps
 split at hps
 ·rename_i fs hu
  obtain ⟨h1, h2⟩ := Ny hps
  obtain ⟨us, h3, h4⟩ := H7 hR (fun (i : Nat) => (fs[i]?).map fun (f : Field) => (f.offset, (szP C.P f.type).getD 0)) parts.toList ps xs _ z.cells
   (fun i p hi => by
    obtain ⟨q, f, h5, h6, h7, h8, h9⟩ := h2 i p hi
    exact ⟨q, h5, by simp [h6, h7, h8], h9⟩) h1.symm hp hok (AX ..)
  refine ⟨.agg us, fun w' hk' => ?_, fin us h4⟩
  have hm := TM (P := C.P) (w := w') fs (hall fs hu)
  have hpl : (fun (i : Nat) => (fs[i]?).map fun (f : Field) => (f.offset, (szP C.P f.type).getD 0)) = ((fs.map fun f => (f.offset, (szP C.P f.type).getD 0))[·]?) := by
   funext i
   simp
  rw [hpl] at h3
  have h3' : Instr.fill ((fs.map fun f => (f.offset, (szP C.P f.type).getD 0))[·]?) z.cells (parts.map fun x => (x.1, a.eval x.2)).toList = some us := by
   rw [Array.toList_map]; exact h3
  simp only [execOp, ho, Instr.build, Sem.run_bind, DL hz, Result.andThen_ok, run_underlying hu, hm]
  simp only [h3', Sem.run_pure, Result.andThen_ok]
 ·rename_i len e hu
  obtain ⟨n, hn, rfl⟩ := Option.map_eq_some_iff.1 hps
  obtain ⟨us, h3, h4⟩ := H7 hR (fun i => some (i * n, n)) parts.toList _ xs _ z.cells
   (fun i p hi => ⟨(p.1 * n, n, p.2), by simp [hi], rfl, rfl⟩) (by simp) hp hok (AX ..)
  refine ⟨.agg us, fun w' hk' => ?_, fin us h4⟩
  have h3' : Instr.fill (fun i => some (i * n, n)) z.cells (parts.map fun x => (x.1, a.eval x.2)).toList = some us := by
   rw [Array.toList_map]; exact h3
  simp only [execOp, ho, Instr.build, Sem.run_bind, DL hz, Result.andThen_ok, run_underlying hu, nX hn]
  simp only [h3', Sem.run_pure, Result.andThen_ok]
 ·cases hps
theorem Xz {xs : List (Nat × List T)} : ∀ {cs : List T}, zF cs.length xs = true → (wJ cs xs).length = cs.length := by
 induction xs with
 | nil => intro cs _; rfl
 | cons x xs ih =>
  intro cs h
  obtain ⟨off, ys⟩ := x
  simp only [zF, Bool.and_eq_true, Nat.ble_eq] at h
  have hlen : (splice cs off ys).length = cs.length := by simp only [splice, List.length_append, List.length_take, List.length_drop]; omega
  simp only [wJ]
  rw [ih (by rw [hlen]; exact h.2), hlen]
theorem TN {k e n r : Nat} {zs : List T} {ps : List (Nat × Nat × Operand)} {xs : List (Nat × List T)} (hp : s.parts ps = some xs) (hok : zF zs.length xs = true) (hf : s.fresh r = true)
  (hh : (wJ zs xs).all (fun t => !t.has r) = true) :
  Does C (.iW k e n zs ps) (some r) s true (· = (⟨s.env, (r, ⟨gG (wJ zs xs), wJ zs xs⟩) :: s.st⟩ : St).put (some r) (.one (.own r 0 n (some (k, e))))) := by
 refine Ag fun o ho β a w hR => ?_
 obtain ⟨t, parts, z, ho, hu, hk, hz, hle, hk0, hzk, rfl, rfl⟩ := ho
 obtain ⟨us, h3, h4⟩ := H7 hR (fun i => some (i * k, k)) parts.toList _ xs _ ((Array.range (n * k)).map (z.cells[· % z.cells.size]!))
   (fun i p hi => ⟨(p.1 * k, k, p.2), by simp [hi], rfl, rfl⟩) (by simp) hp hok (AX ..)
 have hsz : us.size = n * k := by
  have := h4.1
  rw [Xz hok] at this
  simpa using this
 have h5 := hR.alloc hf us e ⟨gG (wJ _ xs), wJ _ xs⟩ (by simp only; rw [h4.1]; exact Nat.le_refl _) (fun h => kK h) (fun j t hj => by
  obtain ⟨u, h6, h7⟩ := h4.2 j t hj
  refine ⟨u, h6, h7, ?_⟩
  have := List.all_eq_true.1 hh t (List.mem_of_getElem? hj)
  simpa using this)
 refine ⟨.slice (some ⟨w.heap.size, 0, none⟩) n n, _, _, ?_, h5, .one fun _ => ?_, fun _ => kept_alloc w _⟩
 ·have h3' : Instr.fill (fun i => some (i * k, k)) ((Array.range (n * k)).map (z.cells[· % z.cells.size]!)) (parts.map fun x => (x.1, a.eval x.2)).toList = some us := by
   rw [Array.toList_map]; exact h3
  simp only [execOp, ho, Instr.buildSlice, Sem.run_bind, run_underlying hu, Result.andThen_ok, nX hk]
  rw [if_neg (by omega)]
  simp only [Sem.run_bind, Sem.run_ite, Sem.run_pure, DL hz, Result.andThen_ok]
  by_cases hn0 : n * k = 0
  ·rw [if_pos hn0]
   have hr0 : Array.range (n * k) = #[] := by rw [hn0]; rfl
   rw [hr0] at h3'
   simp only [Array.map_empty] at h3'
   simp only [Result.andThen_ok, hn0]
   have hr1 : Array.range 0 = #[] := rfl
   simp only [hr1, Array.map_empty, h3', Sem.run_bind, newRow, run_newObj, Result.andThen_ok, Sem.run_pure]
   rfl
  ·rw [if_neg hn0]
   simp only [Result.andThen_ok, h3', Sem.run_bind, newRow, run_newObj, Sem.run_pure]
   rfl
 ·simp only [if_true]
  unfold sQ
  simp only
  refine ⟨some ⟨w.heap.size, 0, none⟩, n, us, e, rfl, heap_alloc_new w _, fun _ => rfl, Nat.le_refl _, fun k' e' he => ?_⟩
  injection he with he
  injection he with h6 h7
  subst h6; subst h7
  refine ⟨by trivial, rfl, hsz, ?_, rfl⟩
  have : n ≤ n * k := Nat.le_mul_of_pos_right _ (by omega)
  simp only [maxLen]; omega
end
end Go.V
set_option linter.unusedVariables false
set_option linter.unusedSimpArgs false
namespace Go.V
open Go.RowKit
def mZ {α : Type} (P : Program) : Sem α → Option α
 | .pure a => some a
 | .program k => mZ P (k P)
 | .mark _ k => mZ P k
 | _ => none
theorem y9 {α : Type} {P : Program} {e : Sem α} {a : α} (h : mZ P e = some a) (w : World) : e.run P w = .ok a w := by
 induction e with
 | pure b => injection h with h; subst h; rfl
 | program k ih => exact ih P h
 | mark m k ih => exact ih h
 | _ => cases h
theorem Kq {P : Program} (n : Nat) {t e : TypeId} (hu : P.underlying t = some (.pointer e)) (a : Addr) (w : World) : (Op.equalIn (n + 1) t (.pointer (some a)) (.pointer none)).run P w = .ok false w := by
 simp [Op.equalIn, run_underlying hu]
theorem Kr {P : Program} (n : Nat) {t e : TypeId} (hu : P.underlying t = some (.pointer e)) (w : World) : (Op.equalIn (n + 1) t (.pointer none) (.pointer none)).run P w = .ok true w := by
 simp [Op.equalIn, run_underlying hu]
def O4 : BinOp → IntKind → Int → Int → Option Value
 | .add, k, a, b => some (.int k (k.wrap (a + b)))
 | .sub, k, a, b => some (.int k (k.wrap (a - b)))
 | .mul, k, a, b => some (.int k (k.wrap (a * b)))
 | .quo, k, a, b => if b = 0 then none else some (.int k (k.wrap (a.tdiv b)))
 | .rem, k, a, b => if b = 0 then none else some (.int k (a.tmod b))
 | .and, k, a, b => some (.int k (k.wrap ((BitVec.ofInt k.bits a &&& BitVec.ofInt k.bits b).toNat)))
 | .or, k, a, b => some (.int k (k.wrap ((BitVec.ofInt k.bits a ||| BitVec.ofInt k.bits b).toNat)))
 | .xor, k, a, b => some (.int k (k.wrap ((BitVec.ofInt k.bits a ^^^ BitVec.ofInt k.bits b).toNat)))
 | .andNot, k, a, b => some (.int k (k.wrap ((BitVec.ofInt k.bits a &&& ~~~ BitVec.ofInt k.bits b).toNat)))
 | .eql, _, a, b => some (.bool (a == b))
 | .neq, _, a, b => some (.bool (a != b))
 | .lss, _, a, b => some (.bool (decide (a < b)))
 | .leq, _, a, b => some (.bool (decide (a ≤ b)))
 | .gtr, _, a, b => some (.bool (decide (b < a)))
 | .geq, _, a, b => some (.bool (decide (b ≤ a)))
 | .shl, _, _, _ => none
 | .shr, _, _, _ => none
section
variable {C : Ctx} {s : St} {d : Option Nat}
theorem DR {P : Program} (op : BinOp) (t : TypeId) (x y : Operand) (k k' : IntKind) (a b : Int) (w : World) : (eqGuard op t x y (.int k a) (.int k' b)).run P w = .ok () w := by
 unfold eqGuard
 cases op <;> simp
theorem TP {op : BinOp} {t : TypeId} {x y : Operand} {k : IntKind} {a b : Int} {z : Value} (hx : s.ev x = .one (.v (.int k a))) (hy : s.ev y = .one (.v (.int k b))) (hz : O4 op k a b = some z) :
  Quiet C (.bin op t x y) s (.one (.v z)) := by
 refine fun o ho β ac w hR => ?_
 obtain ⟨t', ho⟩ := ho
 have h1 := (hx ▸ hR.ev x).plain
 have h2 := (hy ▸ hR.ev y).plain
 refine ⟨z, fun w' hk' => ?_, ?_⟩
 ·simp only [execOp, ho, h1, h2, Sem.run_bind, DR, Result.andThen_ok]
  cases op <;> simp only [O4, Option.some.injEq] at hz <;> (try subst hz) <;> (try simp [binOp, Op.intArith, Op.intBits, Op.intCmp]; done)
  ·split at hz
   ·cases hz
   ·rename_i h0; injection hz with hz; subst hz; simp [binOp, Op.intDiv, h0]
  ·split at hz
   ·cases hz
   ·rename_i h0; injection hz with hz; subst hz; simp [binOp, Op.intDiv, h0]
  ·cases hz
  ·cases hz
 ·refine .v ?_
  cases op <;> simp only [O4, Option.some.injEq] at hz <;> (try subst hz) <;> (try rfl) <;> (try (split at hz)) <;> first | (cases hz; rfl) | (cases hz)
theorem zf {op : BinOp} {t : TypeId} {x y : Operand} {k : IntKind} {a b : Int} {z z' : Value} (hx : s.ev x = .one (.v (.int k a))) (hy : s.ev y = .one (.v (.int k b))) (hz : O4 op k a b = some z) (he : z = z') :
  Quiet C (.bin op t x y) s (.one (.v z')) := by subst he; exact TP hx hy hz
theorem wrap_i64 {n : Int} (h1 : -9223372036854775808 ≤ n) (h2 : n ≤ 9223372036854775807) : IntKind.i64.wrap n = n := IntWalk.i64_in n ⟨h1, h2⟩
theorem Zw {t : TypeId} {x y : Operand} {a b : Int} (hx : s.ev x = .one (.v (.int .i64 a))) (hy : s.ev y = .one (.v (.int .i64 b))) (h1 : -9223372036854775808 ≤ a + b) (h2 : a + b ≤ 9223372036854775807) :
  Quiet C (.bin .add t x y) s (.one (.v (.int .i64 (a + b)))) := zf hx hy rfl (by rw [wrap_i64 h1 h2])
theorem SA {t : TypeId} {x y : Operand} {a b : Int} (hx : s.ev x = .one (.v (.int .i64 a))) (hy : s.ev y = .one (.v (.int .i64 b))) (h1 : -9223372036854775808 ≤ a - b) (h2 : a - b ≤ 9223372036854775807) :
  Quiet C (.bin .sub t x y) s (.one (.v (.int .i64 (a - b)))) := zf hx hy rfl (by rw [wrap_i64 h1 h2])
theorem Zx {t : TypeId} {x y : Operand} {a b : Int} (hx : s.ev x = .one (.v (.int .i64 a))) (hy : s.ev y = .one (.v (.int .i64 b))) (h1 : -9223372036854775808 ≤ a * b) (h2 : a * b ≤ 9223372036854775807) :
  Quiet C (.bin .mul t x y) s (.one (.v (.int .i64 (a * b)))) := zf hx hy rfl (by rw [wrap_i64 h1 h2])
theorem Zo {t : TypeId} {x y : Operand} {k : IntKind} {a b : Int} (hx : s.ev x = .one (.v (.int k a))) (hy : s.ev y = .one (.v (.int k b))) (h0 : 0 ≤ a) (hb : 0 < b) :
  Quiet C (.bin .rem t x y) s (.one (.v (.int k (a % b)))) :=
 zf hx hy (z := .int k (a.tmod b)) (by simp only [O4]; rw [if_neg (by omega)]) (by rw [Int.tmod_eq_emod_of_nonneg h0])
theorem wC {t : TypeId} {x y : Operand} {k k' : IntKind} {a b : Int} (hx : s.ev x = .one (.v (.int k a))) (hy : s.ev y = .one (.v (.int k' b))) (h0 : 0 ≤ b) :
  Quiet C (.bin .shl t x y) s (.one (.v (.int k (k.wrap (a * 2 ^ (min b.toNat k.bits)))))) := by
 refine fun o ho β ac w hR => ?_
 obtain ⟨t', ho⟩ := ho
 have h1 := (hx ▸ hR.ev x).plain
 have h2 := (hy ▸ hR.ev y).plain
 refine ⟨_, fun w' hk' => ?_, .v rfl⟩
 simp only [execOp, ho, h1, h2, Sem.run_bind, DR, Result.andThen_ok, binOp, Op.shift]
 rw [if_neg (by omega)]
 rfl
theorem yt {t : TypeId} {x y : Operand} {k k' : IntKind} {a b : Int} (hx : s.ev x = .one (.v (.int k a))) (hy : s.ev y = .one (.v (.int k' b))) (h0 : 0 ≤ b) :
  Quiet C (.bin .shr t x y) s (.one (.v (.int k (a.fdiv (2 ^ (min b.toNat k.bits)))))) := by
 refine fun o ho β ac w hR => ?_
 obtain ⟨t', ho⟩ := ho
 have h1 := (hx ▸ hR.ev x).plain
 have h2 := (hy ▸ hR.ev y).plain
 refine ⟨_, fun w' hk' => ?_, .v rfl⟩
 simp only [execOp, ho, h1, h2, Sem.run_bind, DR, Result.andThen_ok, binOp, Op.shift]
 rw [if_neg (by omega)]
 rfl
theorem Zy {op : BinOp} {t : TypeId} {x y : Operand} {a b z : Value} (hx : s.ev x = .one (.v a)) (hy : s.ev y = .one (.v b)) (h1 : z.oneCell' = true)
  (hz : mZ C.P (do eqGuard op t x y a b; binOp op t a b) = some z) : Quiet C (.bin op t x y) s (.one (.v z)) := by
 refine fun o ho β ac w hR => ?_
 obtain ⟨t', ho⟩ := ho
 have h2 := (hx ▸ hR.ev x).plain
 have h3 := (hy ▸ hR.ev y).plain
 refine ⟨z, fun w' hk' => ?_, .v h1⟩
 have := y9 hz w'
 simp only [Sem.run_bind] at this
 simp only [execOp, ho, h2, h3, Sem.run_bind, this]
 rfl
theorem Zz {x : Operand} {b : Bool} (hx : s.ev x = .one (.v (.bool b))) : Quiet C (.un .not x) s (.one (.v (.bool (!b)))) := by
 refine fun o ho β ac w hR => ?_
 obtain ⟨t', ho⟩ := ho
 have h2 := (hx ▸ hR.ev x).plain
 exact ⟨_, fun w' hk' => by simp [execOp, ho, h2, Op.unary], .v rfl⟩
theorem Zg {x : Operand} {a : Int} (hx : s.ev x = .one (.v (.int .i64 a))) (h1 : -9223372036854775807 ≤ a) (h2 : a ≤ 9223372036854775807) : Quiet C (.un .neg x) s (.one (.v (.int .i64 (-a)))) := by
 refine fun o ho β ac w hR => ?_
 obtain ⟨t', ho⟩ := ho
 have h3 := (hx ▸ hR.ev x).plain
 refine ⟨_, fun w' hk' => ?_, .v rfl⟩
 simp only [execOp, ho, h3, Op.unary, Op.intArith, Sem.run_bind, Sem.run_pure, Result.andThen_ok]
 rw [wrap_i64 (by omega) (by omega)]
 simp
theorem Vw {k k' : IntKind} {x : Operand} {a : Int} (hx : s.ev x = .one (.v (.int k' a))) : Quiet C (.jd k x) s (.one (.v (.int k (k.wrap a)))) := by
 refine fun o ho β ac w hR => ?_
 obtain ⟨t, t', k2, ho, h1, h2⟩ := ho
 have h3 := (hx ▸ hR.ev x).plain
 refine ⟨_, fun w' hk' => ?_, .v rfl⟩
 simp [execOp, ho, h3, convert, run_underlying h1, run_underlying h2, Conv.intToInt]
theorem XA {src dst : TypeId} {x : Operand} {a z : Value} (hx : s.ev x = .one (.v a)) (h1 : z.oneCell' = true) (hz : mZ C.P (convert src dst a) = some z) : Quiet C (.conv src dst x) s (.one (.v z)) := by
 refine fun o ho β ac w hR => ?_
 replace ho : o.op = .convert src dst x := ho
 have h2 := (hx ▸ hR.ev x).plain
 refine ⟨z, fun w' hk' => ?_, .v h1⟩
 simp only [execOp, ho, h2, Sem.run_bind, y9 hz w']
 rfl
theorem qF {neg : Bool} {x y : Operand} {r off : Nat} {g : Reg} (hx : s.ev x = .one (.ptr r off)) (hg : dH s.st r = some g) (hy : s.ev y = .one (.v (.pointer none))) : Quiet C (.eqP neg x y) s (.one (.v (.bool neg))) := by
 refine fun o ho β ac w hR => ?_
 obtain ⟨t, t', e, ho, hu⟩ := ho
 obtain ⟨b, hb, h2⟩ := hR.ptr hx hg
 have h3 := (hy ▸ hR.ev y).plain
 refine ⟨_, fun w' hk' => ?_, .v rfl⟩
 have he : ∀ w, (Op.equal t (.pointer (some ⟨b, off, none⟩)) (.pointer none)).run C.P w = .ok false w := fun w => Kq 9999 hu _ w
 have hgd : ∀ op w, (eqGuard op t x y (.pointer (some ⟨b, off, none⟩)) (.pointer none)).run C.P w = .ok () w := by intro op w; unfold eqGuard; cases op <;> simp
 cases neg <;> simp [execOp, ho, h2, h3, hgd, binOp, he]
theorem uS {neg : Bool} {x y : Operand} (hx : s.ev x = .one (.v (.pointer none))) (hy : s.ev y = .one (.v (.pointer none))) : Quiet C (.eqP neg x y) s (.one (.v (.bool (!neg)))) := by
 refine fun o ho β ac w hR => ?_
 obtain ⟨t, t', e, ho, hu⟩ := ho
 have h2 := (hx ▸ hR.ev x).plain
 have h3 := (hy ▸ hR.ev y).plain
 refine ⟨_, fun w' hk' => ?_, .v rfl⟩
 have he : ∀ w, (Op.equal t (.pointer none) (.pointer none)).run C.P w = .ok true w := fun w => Kr 9999 hu w
 have hgd : ∀ op w, (eqGuard op t x y (.pointer none) (.pointer none)).run C.P w = .ok () w := by intro op w; unfold eqGuard; cases op <;> simp
 cases neg <;> simp [execOp, ho, h2, h3, hgd, binOp, he]
theorem aay {b : Builtin} {ats : Array TypeId} {ty : TypeId} {cs : Array Bool} {xs : List Operand} {vs : List Value} {z : Value} (hx : xs.map s.ev = vs.map fun v => .one (.v v)) (h1 : z.oneCell' = true)
  (hz : mZ C.P (builtin b ats ty cs vs.toArray) = some (.value z)) : Quiet C (.bi b ats ty cs xs) s (.one (.v z)) := by
 refine fun o ho β ac w hR => ?_
 obtain ⟨args, ho, rfl, rfl, rfl⟩ := ho
 refine ⟨z, fun w' hk' => ?_, .v h1⟩
 have hev : args.map ac.eval = vs.toArray := by
  apply Array.toList_inj.1
  apply List.ext_getElem?
  intro i
  have := congrArg (fun l => l[i]?) hx
  simp only [List.getElem?_map] at this
  simp only [Array.toList_map, List.getElem?_map]
  cases ha : args.toList[i]? with
  | none => rw [ha] at this; cases hv : vs[i]? with
   | none => simp [hv]
   | some v => rw [hv] at this; cases this
  | some x =>
   rw [ha] at this
   cases hv : vs[i]? with
   | none => rw [hv] at this; cases this
   | some v =>
    rw [hv] at this
    simp only [Option.map_some, Option.some.injEq] at this
    simp [hv, (this ▸ hR.ev x).plain]
 simp only [execOp, ho, resolve, Sem.run_bind, Sem.run_pure, Result.andThen_ok, invoke, hev]
 exact y9 hz w'
end
end Go.V
set_option linter.unusedVariables false
set_option linter.unusedSimpArgs false
namespace Go.V
open Go.RowKit
def St.bnd (s : St) (x : Option Operand) (n : Int) : Option Int :=
 match x with
 | none => some n
 | some x => match s.ev x with
  | .one (.v (.int _ m)) => some m
  | _ => none
section
variable {C : Ctx} {s : St} {d : Option Nat}
theorem FX {P : Program} {β : Nat → Option Nat} {a : Act} {w : World} (hR : R C s β a w) {lo hi : Option Operand} {l h : Int} {n cap : Nat} {sl : Bool} (hl : s.bnd lo 0 = some l) (hh : s.bnd hi n = some h) (h0 : 0 ≤ l) (h1 : l ≤ h) (h2 : h ≤ n) (hc : n ≤ cap) (w' : World) :
  (Instr.sliceBounds sl n cap (lo.map a.eval) (hi.map a.eval) none).run P w' = .ok (l.toNat, h.toNat, cap) w' := by
 have e1 : (match hi.map a.eval with | some v => Instr.sliceBound v cap (if sl then .sliceAcap else .sliceAlen) | none => pure n : Sem Nat).run P w' = .ok h.toNat w' := by
  cases hi with
  | none => simp only [St.bnd, Option.some.injEq] at hh; subst hh; simp
  | some x =>
   simp only [St.bnd] at hh
   cases hx : s.ev x with
   | one t =>
    rw [hx] at hh
    cases t with
    | v u =>
     cases u with
     | int k m =>
      simp only [Option.some.injEq] at hh; subst hh
      have hv := (hx ▸ hR.ev x).plain
      simp only [Option.map_some, hv, Instr.sliceBound, asIntOf, Sem.run_bind, Sem.run_pure, Result.andThen_ok]
      rw [if_pos ⟨by omega, by omega⟩]
      rfl
     | _ => cases hh
    | _ => cases hh
   | _ => rw [hx] at hh; cases hh
 have e2 : (match lo.map a.eval with | some v => Instr.sliceBound v h.toNat .sliceB | none => pure 0 : Sem Nat).run P w' = .ok l.toNat w' := by
  cases lo with
  | none => simp only [St.bnd, Option.some.injEq] at hl; subst hl; simp
  | some x =>
   simp only [St.bnd] at hl
   cases hx : s.ev x with
   | one t =>
    rw [hx] at hl
    cases t with
    | v u =>
     cases u with
     | int k m =>
      simp only [Option.some.injEq] at hl; subst hl
      have hv := (hx ▸ hR.ev x).plain
      simp only [Option.map_some, hv, Instr.sliceBound, asIntOf, Sem.run_bind, Sem.run_pure, Result.andThen_ok]
      rw [if_pos ⟨by omega, by omega⟩]
      rfl
     | _ => cases hl
    | _ => cases hl
   | _ => rw [hx] at hl; cases hl
 unfold Instr.sliceBounds
 cases hi <;> cases lo <;> simp only [Option.map_none, Option.map_some, Sem.run_bind, Sem.run_pure, Result.andThen_ok, Option.isSome_none, Bool.false_eq_true, if_false] at e1 e2 ⊢
 ·injection e1 with e1; injection e2 with e2; rw [← e1, ← e2]
 ·injection e1 with e1; rw [e1, e2]; rfl
 ·injection e2 with e2; rw [e1, ← e2]; rfl
 ·rw [e1]
  simp only [Result.andThen_ok]
  rw [e2]; rfl
theorem TQ {x : Operand} {k n : Nat} {lo hi : Option Operand} {cs : List T} {l h : Int} (hx : s.ev x = .one (.sl cs n)) (hl : s.bnd lo 0 = some l) (hh : s.bnd hi n = some h) (h0 : 0 ≤ l) (h1 : l ≤ h) (h2 : h ≤ n) :
  Quiet C (.slc k x lo hi none) s (.one (.sl ((cs.drop (l.toNat * k)).take ((h.toNat - l.toNat) * k)) (h.toNat - l.toNat))) := by
 refine fun o ho β a w hR => ?_
 obtain ⟨t, e, ho, hu, hk⟩ := ho
 have hv := (hx ▸ hR.ev x).t
 generalize hv' : a.eval x = v at hv
 have run : ∀ (A : Option Addr) (cap : Nat), n ≤ cap → a.eval x = .slice A n cap → ∀ w', (execOp a.eval o).run C.P w' = .ok (.value (.slice (if cap = l.toNat then A else A.map (·.add (l.toNat * k))) (h.toNat - l.toNat) (cap - l.toNat))) w' := by
  intro A cap hcap hA w'
  have hb := FX (P := C.P) (sl := true) hR hl hh h0 h1 h2 hcap w'
  simp only [execOp, ho, hA, Instr.sliceAt, Sem.run_bind, run_underlying hu, Result.andThen_ok, Instr.slice, Option.map_none]
  simp only [hb, Result.andThen_ok, Sem.run_bind, nX hk, Sem.run_pure]
 cases hv with
 | sl0 A cap =>
  have h3 : h.toNat - l.toNat = 0 := by omega
  have h4 : l.toNat = 0 := by omega
  refine ⟨_, fun w' _ => run A cap (Nat.zero_le _) hv' w', ?_⟩
  rw [h3]
  simp only [Nat.zero_mul, List.take_zero]
  exact .one (.sl0 _ _)
 | sl us hI hc hr hn =>
  rename_i b off cap
  refine ⟨_, fun w' _ => run _ cap hn hv' w', ?_⟩
  by_cases h3 : h.toNat - l.toNat = 0
  ·rw [h3]; simp only [Nat.zero_mul, List.take_zero]; exact .one (.sl0 _ _)
  ·rw [if_neg (by omega)]
   simp only [Option.map_some, addr_add]
   refine .one (.sl (fun j => us (l.toNat * k + j)) hI (fun j t hj => ?_) (fun j t hj => ?_) (by omega))
   ·have := qU _ _ _ j t hj
    rw [Nat.add_assoc]
    exact hc _ t this
   ·exact hr _ t (qU _ _ _ j t hj)
theorem AL {x : Operand} {k n r off : Nat} {ap : Option (Nat × TypeId)} {g : Reg} {lo hi : Option Operand} {l h : Int} (hx : s.ev x = .one (.own r off n ap)) (hg : dH s.st r = some g) (hl : s.bnd lo 0 = some l) (hh : s.bnd hi n = some h) (h0 : 0 ≤ l) (h1 : l ≤ h) (h2 : h ≤ n) :
  Quiet C (.slc k x lo hi none) s (.one (.own r (off + l.toNat * k) (h.toNat - l.toNat) none)) := by
 refine fun o ho β a w hR => ?_
 obtain ⟨t, e, ho, hu, hk⟩ := ho
 have hv := (hx ▸ hR.ev x).t (by rw [hg]; rfl)
 have run : ∀ (A : Option Addr) (cap : Nat), n ≤ cap → a.eval x = .slice A n cap → ∀ w', (execOp a.eval o).run C.P w' = .ok (.value (.slice (if cap = l.toNat then A else A.map (·.add (l.toNat * k))) (h.toNat - l.toNat) (cap - l.toNat))) w' := by
  intro A cap hcap hA w'
  have hb := FX (P := C.P) (sl := true) hR hl hh h0 h1 h2 hcap w'
  simp only [execOp, ho, hA, Instr.sliceAt, Sem.run_bind, run_underlying hu, Result.andThen_ok, Instr.slice, Option.map_none]
  simp only [hb, Result.andThen_ok, Sem.run_bind, nX hk, Sem.run_pure]
 unfold sQ at hv
 cases hb : β r with
 | none =>
  rw [hb] at hv
  obtain ⟨rfl, hA⟩ := hv
  refine ⟨_, fun w' _ => run none 0 (Nat.le_refl _) hA w', .one fun _ => ?_⟩
  rw [hb]
  refine ⟨by omega, ?_⟩
  have h3 : h.toNat - l.toNat = 0 := by omega
  rw [h3]
  simp
 | some b =>
  rw [hb] at hv
  obtain ⟨A, cap, cur, ety, hA, hh', hAd, hn, _⟩ := hv
  refine ⟨_, fun w' _ => run A cap hn hA w', .one fun _ => ?_⟩
  rw [hb]
  refine ⟨_, _, cur, ety, rfl, hh', fun hpos => ?_, by omega, fun k' e' he => by cases he⟩
  rw [if_neg (by omega), hAd (by omega)]
  simp [addr_add]
theorem qR {x : Operand} {k n r off : Nat} {g : Reg} {lo hi : Option Operand} {l h : Int} (hx : s.ev x = .one (.ptr r off)) (hg : dH s.st r = some g) (hl : s.bnd lo 0 = some l) (hh : s.bnd hi n = some h) (h0 : 0 ≤ l) (h1 : l ≤ h) (h2 : h ≤ n) (hne : g.cs ≠ []) :
  Quiet C (.SH k n x lo hi) s (.one (.own r (off + l.toNat * k) (h.toNat - l.toNat) none)) := by
 refine fun o ho β a w hR => ?_
 obtain ⟨t, e, ho, hu, hk⟩ := ho
 obtain ⟨b, hb, hv⟩ := hR.ptr hx hg
 obtain ⟨b', cur, ety, hb', hh', _, _⟩ := hR.ok.blk hg hne
 rw [hb] at hb'; injection hb' with hb'; subst hb'
 refine ⟨.slice (some (if n = l.toNat then ⟨b, off, none⟩ else ⟨b, off + l.toNat * k, none⟩)) (h.toNat - l.toNat) (n - l.toNat), fun w' _ => ?_, .one fun _ => ?_⟩
 ·have hbd := FX (P := C.P) (sl := false) hR hl hh h0 h1 h2 (Nat.le_refl n) w'
  simp only [execOp, ho, hv, Instr.sliceAt, Sem.run_bind, run_underlying hu, Result.andThen_ok, Instr.sureAddr, Option.map_none, Sem.run_pure]
  simp only [hbd, Result.andThen_ok, Sem.run_bind, nX hk, Sem.run_pure, addr_add]
 ·rw [hb]
  refine ⟨_, _, cur, ety, rfl, hh', fun hpos => ?_, by omega, fun k' e' he => by cases he⟩
  rw [if_neg (by omega)]
theorem Wn {t e k bytes r : Nat} {zs : List T} {x y : Operand} {n c : Int} (hx : s.ev x = .one (.v (.int .i64 n))) (hy : s.ev y = .one (.v (.int .i64 c))) (h0 : 0 ≤ n) (h1 : n ≤ c) (h2 : bytes * c ≤ 2 ^ 48) (h3 : c ≤ 9223372036854775807) (hf : s.fresh r = true)
  (hh : zs.all (fun t => t.isPure && !t.has r) = true) :
  Does C (.mk t e k bytes zs x y) (some r) s true (· = (⟨s.env, (r, ⟨true, (List.replicate n.toNat zs).flatten⟩) :: s.st⟩ : St).put (some r) (.one (.own r 0 n.toNat (some (k, e))))) := by
 refine Ag fun o ho β a w hR => ?_
 obtain ⟨i, z, ho, hu, hi, hz, rfl, rfl, hk0, hzk, rfl⟩ := ho
 have hvx := (hx ▸ hR.ev x).plain
 have hvy := (hy ▸ hR.ev y).plain
 have hpz : ∀ t ∈ z.cells.toList.map kQ, t.isPure = true ∧ t.has r = false := by
  intro t ht
  have := List.all_eq_true.1 hh t ht
  simpa using this
 have hlen : ((List.replicate n.toNat (z.cells.toList.map kQ)).flatten).length = n.toNat * i.size := by simp [hzk]
 have hmem : ∀ t ∈ (List.replicate n.toNat (z.cells.toList.map kQ)).flatten, t ∈ z.cells.toList.map kQ := by
  intro t ht
  obtain ⟨l, hl, htl⟩ := List.mem_flatten.1 ht
  rw [(List.mem_replicate.1 hl).2] at htl
  exact htl
 have hget : ∀ (j : Nat) (t : T), ((List.replicate n.toNat (z.cells.toList.map kQ)).flatten)[j]? = some t → t = kQ (z.cells[j % z.cells.size]!) := by
  intro j t hj
  have hjl : j < n.toNat * i.size := by rw [← hlen]; exact (List.getElem?_eq_some_iff.1 hj).1
  have key : ∀ (m j : Nat), j < m * i.size → ((List.replicate m (z.cells.toList.map kQ)).flatten)[j]? = some (kQ (z.cells[j % z.cells.size]!)) := by
   intro m
   induction m with
   | zero => intro j h; omega
   | succ m ih =>
    intro j h
    rw [List.replicate_succ, List.flatten_cons]
    by_cases hjs : j < i.size
    ·rw [List.getElem?_append_left (by simp [hzk]; exact hjs), List.getElem?_map]
     have : j % z.cells.size = j := Nat.mod_eq_of_lt (by rw [hzk]; exact hjs)
     rw [this]
     have hjz : j < z.cells.size := by rw [hzk]; exact hjs
     simp [hjz]
    ·rw [List.getElem?_append_right (by simp [hzk]; omega)]
     have hl2 : (z.cells.toList.map kQ).length = i.size := by simp [hzk]
     rw [hl2, ih (j - i.size) (by rw [Nat.add_mul, Nat.one_mul] at h; omega)]
     congr 3
     rw [hzk]
     conv => rhs; rw [← Nat.sub_add_cancel (Nat.le_of_not_lt hjs)]
     rw [Nat.add_mod_right]
  rw [key _ j hjl] at hj
  injection hj with hj
  exact hj.symm
 have hcn : n.toNat ≤ c.toNat := by omega
 have hR' := hR.alloc hf ((Array.range (c.toNat * i.size)).map (z.cells[· % z.cells.size]!)) e ⟨true, (List.replicate n.toNat (z.cells.toList.map kQ)).flatten⟩
  (by simp only [hlen]; simp; exact Nat.mul_le_mul_right _ hcn) (fun _ t ht => (hpz t (hmem t ht)).1) (fun j t hj => by
   have hjl : j < n.toNat * i.size := by rw [← hlen]; exact (List.getElem?_eq_some_iff.1 hj).1
   have hjc : j < c.toNat * i.size := Nat.lt_of_lt_of_le hjl (Nat.mul_le_mul_right _ hcn)
   have ht := hget j t hj
   refine ⟨z.cells[j % z.cells.size]!, by simp [hjc], ?_, (hpz t (hmem t (List.mem_of_getElem? hj))).2⟩
   rw [ht]
   exact wH ..)
 refine ⟨.slice (some ⟨w.heap.size, 0, none⟩) n.toNat c.toNat, _, _, ?_, hR', .one fun _ => ?_, fun _ => kept_alloc w _⟩
 ·simp only [execOp, ho, hvx, hvy, Instr.makeSlice, Sem.run_bind, run_underlying hu, Result.andThen_ok, asInt, asIntOf, Sem.run_pure, typeInfo, run_program, hi]
  rw [wrap_i64 (by omega) (by omega), wrap_i64 (by omega) (by omega)]
  have hb1 : (decide (c < 0) || decide ((i.bytes : Int) * c > 2 ^ 48)) = false := by
   simp only [Bool.or_eq_false_iff, decide_eq_false_iff_not]
   omega
  simp only [hb1]
  rw [if_neg (by simp; omega)]
  simp only [Sem.run_bind, run_askRoom, Result.andThen_ok, sizeOf, typeInfo, run_program, hi, Sem.run_pure]
  by_cases hz0 : c.toNat * i.size = 0
  ·rw [if_pos hz0]
   have hr0 : Array.range (c.toNat * i.size) = #[] := by rw [hz0]; rfl
   simp only [Sem.run_pure, Result.andThen_ok, newRow, Sem.run_bind, run_newObj, hr0, Array.map_empty]
   rfl
  ·rw [if_neg hz0]
   simp only [zeroValue, typeInfo, Sem.run_bind, run_program, hi, hz, Sem.run_pure, Result.andThen_ok, newRow, run_newObj]
   rfl
 ·simp only [if_true]
  refine ⟨_, c.toNat, _, e, rfl, heap_alloc_new w _, fun _ => rfl, hcn, fun k' e' he => ?_⟩
  injection he with he
  injection he with h6 h7
  subst h6; subst h7
  exact ⟨rfl, rfl, by simp, by simp only [maxLen]; omega, rfl⟩
end
end Go.V
set_option linter.unusedVariables false
set_option linter.unusedSimpArgs false
namespace Go.V
open Go.RowKit
def DT (r : Nat) (t : T) : T := bif t.has r then .dead else t
def uF (r : Nat) : S → S
 | .one t => .one (DT r t)
 | .agg ts => .agg (ts.map (DT r))
 | .tup l => .tup (DU r l)
where DU (r : Nat) : List S → List S
 | [] => []
 | s :: l => uF r s :: DU r l
def zh (r : Nat) : Env → Env
 | [] => []
 | (i, x) :: l => (i, uF r x) :: zh r l
def NG (r : Nat) (g : Reg) : Reg := bif g.pure then g else ⟨false, g.cs.map (DT r)⟩
def kR (r : Nat) : Store → Store
 | [] => []
 | (q, g) :: l => (q, NG r g) :: kR r l
theorem O5 (r : Nat) : ∀ (l : List S) (i : Nat), (uF.DU r l)[i]? = (l[i]?).map (uF r)
 | [], i => by simp [uF.DU]
 | s :: l, 0 => by simp [uF.DU]
 | s :: l, i + 1 => by simp [uF.DU, O5 r l i]
theorem O6 (r : Nat) : ∀ (l : List S), (uF.DU r l).length = l.length
 | [] => rfl
 | s :: l => by simp [uF.DU, O6 r l]
theorem NH (r : Nat) : ∀ (e : Env) (i : Nat), jT (zh r e) i = uF r (jT e i)
 | [], i => by simp [zh, jT, uF, DT, T.has]
 | (k, x) :: l, i => by
  simp only [zh, jT]
  cases k == i
  ·exact NH r l i
  ·rfl
theorem wK (r : Nat) : ∀ (st : Store) (q : Nat), dH (kR r st) q = (dH st q).map (NG r)
 | [], q => rfl
 | (k, g) :: l, q => by
  simp only [kR, dH]
  cases k == q
  ·exact wK r l q
  ·rfl
theorem IJ (r : Nat) (t : T) : (DT r t).has r = false := by
 unfold DT
 cases h : t.has r
 ·simpa using h
 ·rfl
theorem O7 (r : Nat) : ∀ (s : S), (uF r s).has r = false
 | .one t => by simp only [uF, S.has]; exact IJ r t
 | .agg ts => by
  simp only [uF, S.has, List.any_eq_false]
  intro t ht
  obtain ⟨t', _, rfl⟩ := List.mem_map.1 ht
  simpa using IJ r t'
 | .tup l => by
  simp only [uF, S.has]
  exact go l
where go : ∀ (l : List S), S.has.Xx r (uF.DU r l) = false
 | [] => rfl
 | s :: l => by simp only [uF.DU, S.has.Xx, O7 r s, go l, Bool.or_self]
section
variable {w : World} {st : Store} {β : Nat → Option Nat} {I : Nat → Prop}
theorem jc.kill {t : T} {u : Value} (r : Nat) (h : jc w st β I t u) : jc w st β I (DT r t) u := by
 unfold DT
 cases t.has r
 ·exact h
 ·trivial
theorem iy.kill {s : S} {u : Value} (r : Nat) (h : iy w st β I s u) : iy w st β I (uF r s) u := by
 induction h with
 | one h => exact .one (h.kill r)
 | agg hs h =>
  refine .agg (by simpa using hs) fun i t u h1 h2 => ?_
  rw [List.getElem?_map] at h1
  obtain ⟨t', h3, rfl⟩ := Option.map_eq_some_iff.1 h1
  exact (h i t' u h3 h2).kill r
 | tup hs h ih =>
  refine .tup (by rw [O6]; exact hs) fun i s u h1 h2 => ?_
  rw [O5] at h1
  obtain ⟨s', h3, rfl⟩ := Option.map_eq_some_iff.1 h1
  exact ih i s' u h3 h2
end
theorem R.kill {C : Ctx} {s : St} {β : Nat → Option Nat} {a : Act} {w : World} (hR : R C s β a w) (r : Nat) : R C ⟨zh r s.env, kR r s.st⟩ β a w := by
 have hs : ∀ q, (dH (kR r s.st) q).isSome = (dH s.st q).isSome := by intro q; rw [wK]; cases dH s.st q <;> rfl
 have hI : C.I (kR r s.st) β w = C.I s.st β w := by
  funext b
  unfold Ctx.I
  simp only [hs]
 have hx : Ext (C.I s.st β w) (C.I (kR r s.st) β w) s.st (kR r s.st) β β w w :=
  ⟨fun b h => by rw [hI]; exact h, fun _ _ => rfl, fun q h => ⟨by rw [← hs]; exact h, rfl⟩, fun _ _ _ _ cur ety hh => ⟨cur, hh, rfl⟩⟩
 refine ⟨⟨hR.ok.kept, fun q g hg => ?_, fun q q' b h h' => hR.ok.inj q q' b (by rw [← hs]; exact h) (by rw [← hs]; exact h'), fun q b h => hR.ok.uX q b (by rw [← hs]; exact h), fun q b h => hR.ok.yO q b (by rw [← hs]; exact h)⟩, hR.defers, hR.size, fun i => ?_⟩
 ·rw [wK] at hg
  obtain ⟨g', hg', rfl⟩ := Option.map_eq_some_iff.1 hg
  have h1 := hR.ok.store q g' hg'
  unfold NG
  cases hp : g'.pure with
  | true =>
   simp only [cond_true]
   refine ⟨h1.1, ?_⟩
   have h2 := h1.2
   cases hb : β q with
   | none => rw [hb] at h2; exact h2
   | some b =>
    rw [hb] at h2
    obtain ⟨cur, ety, h3, h4, h5⟩ := h2
    exact ⟨cur, ety, h3, h4, fun j t hj => by obtain ⟨u, h6, h7⟩ := h5 j t hj; exact ⟨u, h6, jc.ext hx h7⟩⟩
  | false =>
   simp only [cond_false]
   refine ⟨(fun h => by cases h), ?_⟩
   have h2 := h1.2
   cases hb : β q with
   | none => rw [hb] at h2; simp only at h2 ⊢; rw [h2]; rfl
   | some b =>
    rw [hb] at h2
    obtain ⟨cur, ety, h3, h4, h5⟩ := h2
    refine ⟨cur, ety, h3, by simpa using h4, fun j t hj => ?_⟩
    simp only [List.getElem?_map] at hj
    obtain ⟨t', h8, rfl⟩ := Option.map_eq_some_iff.1 hj
    obtain ⟨u, h6, h7⟩ := h5 j t' h8
    exact ⟨u, h6, (jc.ext hx h7).kill r⟩
 ·show iy w (kR r s.st) β _ (jT (zh r s.env) i) _
  rw [NH]
  exact (iy.ext hx (hR.env i)).kill r
theorem O8 (r : Nat) : ∀ (e : Env), (zh r e).all (fun p => !p.2.has r) = true
 | [] => rfl
 | (i, x) :: l => by simp only [zh, List.all_cons, O7, O8 r l, Bool.not_false, Bool.and_self]
theorem wO (r q : Nat) : ∀ (st : Store), (yN (kR r st) q).all (fun p => p.2.pure || p.2.cs.all fun t => !t.has r) = true
 | [] => rfl
 | (k, g) :: l => by
  simp only [kR, yN]
  cases k == q
  ·simp only [cond_false, List.all_cons, wO r q l, Bool.and_true]
   unfold NG
   cases hp : g.pure
   ·simp only [cond_false, Bool.false_or, List.all_eq_true]
    intro t ht
    obtain ⟨t', _, rfl⟩ := List.mem_map.1 ht
    rw [IJ]; rfl
   ·simp only [cond_true, hp, Bool.true_or]
  ·exact wO r q l
theorem QS (r : Nat) (s : St) (hlt : Nat.blt r 100000 = true) : (⟨zh r s.env, yN (kR r s.st) r⟩ : St).fresh r = true := by
 simp only [St.fresh, hlt, yG, Option.isNone_none, O8, wO, Bool.and_self]
inductive Src (s : St) (k : Nat) : S → List T → Nat → Prop
 | sl {cs : List T} {m : Nat} (h : cs.length = m * k) : Src s k (.one (.sl cs m)) cs m
 | nil : Src s k (.one .nil) [] 0
 | own {r off m : Nat} {ap : Option (Nat × TypeId)} {g : Reg} {ys : List T} (hg : dH s.st r = some g) (hy : ∀ (j : Nat) (t : T), ys[j]? = some t → g.cs[off + j]? = some t) (h : ys.length = m * k) : Src s k (.one (.own r off m ap)) ys m
theorem Src.rel {C : Ctx} {s : St} {β : Nat → Option Nat} {a : Act} {w : World} {k : Nat} {x : S} {ys : List T} {m : Nat} {u : Value} (h : Src s k x ys m) (hk : k ≠ 0) (hR : R C s β a w) (hx : iy w s.st β (C.I s.st β w) x u) :
  ys.length = m * k ∧ ∃ A cap, u = .slice A m cap ∧ (m = 0 ∨ ∃ b off, A = some ⟨b, off, none⟩ ∧ AQ w s.st β (C.I s.st β w) b off ys) := by
 cases h with
 | sl h =>
  refine ⟨h, ?_⟩
  have h1 := hx.t
  cases h1 with
  | sl0 A cap => exact ⟨A, cap, rfl, .inl rfl⟩
  | sl us hI hc hr hn => exact ⟨_, _, rfl, .inr ⟨_, _, rfl, fun j t hj => ⟨_, hc j t hj, (hr j t hj).Ou⟩⟩⟩
 | nil =>
  have h1 := hx.t
  cases h1
  exact ⟨by simp, none, 0, rfl, .inl rfl⟩
 | own hg hy h =>
  rename_i r off ap g
  refine ⟨h, ?_⟩
  have h1 := hx.t (by rw [hg]; rfl)
  unfold sQ at h1
  cases hb : β r with
  | none => rw [hb] at h1; obtain ⟨rfl, rfl⟩ := h1; exact ⟨none, 0, rfl, .inl rfl⟩
  | some b =>
   rw [hb] at h1
   obtain ⟨A, cap, cur, ety, rfl, hh, hA, hn, _⟩ := h1
   refine ⟨A, cap, rfl, ?_⟩
   by_cases hm : m = 0
   ·exact .inl hm
   ·refine .inr ⟨b, off, hA (by omega), fun j t hj => ?_⟩
    have h2 := (hR.ok.store r g hg).2
    rw [hb] at h2
    obtain ⟨cur', aaz, h3, h4, h5⟩ := h2
    obtain ⟨u, h6, h7⟩ := h5 _ t (hy j t hj)
    exact ⟨u, by rw [DK h3]; exact h6, h7⟩
theorem R.drop {C : Ctx} {s : St} {β : Nat → Option Nat} {a : Act} {w : World} (hR : R C s β a w) {st' : Store} (h : ∀ r g, dH st' r = some g → dH s.st r = some g) : R C ⟨s.env, st'⟩ β a w := by
 have hs : ∀ r, (dH st' r).isSome = true → (dH s.st r).isSome = true := by
  intro r hr
  obtain ⟨g, hg⟩ := Option.isSome_iff_exists.1 hr
  rw [h r g hg]; rfl
 have hI : ∀ b, C.I s.st β w b → C.I st' β w b := by
  rintro b (h0 | ⟨h1, h2, h3⟩)
  ·exact .inl h0
  ·exact .inr ⟨h1, h2, fun r hr => h3 r (hs r hr)⟩
 have hx : Ext (C.I s.st β w) (C.I st' β w) s.st st' β β w w := ⟨hI, fun _ _ => rfl, fun r hr => ⟨hs r hr, rfl⟩, fun r b _ _ cur ety hh => ⟨cur, hh, rfl⟩⟩
 refine hR.turn (N := fun _ => False) ⟨hR.ok.kept, ?_, fun r r' b hr hr' => hR.ok.inj r r' b (hs r hr) (hs r' hr'), fun r b hr => hR.ok.uX r b (hs r hr), fun r b hr => hR.ok.yO r b (hs r hr)⟩ (hx.toN _) (fun _ hh => hh.elim)
 intro r g hg
 have := hR.ok.store r g (h r g hg)
 refine ⟨this.1, ?_⟩
 have h2 := this.2
 cases hb : β r with
 | none => rw [hb] at h2; exact h2
 | some b =>
  rw [hb] at h2
  obtain ⟨cur, ety, h3, h4, h5⟩ := h2
  refine ⟨cur, ety, h3, h4, fun j t hj => ?_⟩
  obtain ⟨u, h6, h7⟩ := h5 j t hj
  exact ⟨u, h6, jc.ext hx h7⟩
theorem R.aaA {C : Ctx} {s : St} {β : Nat → Option Nat} {a : Act} {w : World} (hR : R C s β a w) {st' : Store} (h : ∀ q, dH st' q = dH s.st q) : R C ⟨s.env, st'⟩ β a w := by
 have hI : C.I st' β w = C.I s.st β w := by funext b; unfold Ctx.I; simp only [h]
 have hx : Ext (C.I s.st β w) (C.I st' β w) s.st st' β β w w := ⟨fun b hb => by rw [hI]; exact hb, fun _ _ => rfl, fun r hr => ⟨by rw [← h]; exact hr, rfl⟩, fun _ _ _ _ cur ety hh => ⟨cur, hh, rfl⟩⟩
 refine hR.turn (N := fun _ => False) ⟨hR.ok.kept, fun r g hg => ?_, fun r r' b hr hr' => hR.ok.inj r r' b (by rw [← h]; exact hr) (by rw [← h]; exact hr'), fun r b hr => hR.ok.uX r b (by rw [← h]; exact hr), fun r b hr => hR.ok.yO r b (by rw [← h]; exact hr)⟩ (hx.toN _) (fun _ hh => hh.elim)
 have h1 := hR.ok.store r g (by rw [← h]; exact hg)
 refine ⟨h1.1, ?_⟩
 have h2 := h1.2
 cases hb : β r with
 | none => rw [hb] at h2; exact h2
 | some b =>
  rw [hb] at h2
  obtain ⟨cur, ety, h3, h4, h5⟩ := h2
  exact ⟨cur, ety, h3, h4, fun j t hj => by obtain ⟨u, h6, h7⟩ := h5 j t hj; exact ⟨u, h6, jc.ext hx h7⟩⟩
theorem ZA {C : Ctx} {st : Store} {β : Nat → Option Nat} {w : World} (r : Nat) : Ext (C.I st β w) (C.I (kR r st) β w) st (kR r st) β β w w := by
 have hs : ∀ q, (dH (kR r st) q).isSome = (dH st q).isSome := by intro q; rw [wK]; cases dH st q <;> rfl
 exact ⟨fun b h => by unfold Ctx.I at *; simpa only [hs] using h, fun _ _ => rfl, fun q h => ⟨by rw [← hs]; exact h, rfl⟩, fun _ _ _ _ cur ety hh => ⟨cur, hh, rfl⟩⟩
theorem R.drew {C : Ctx} {s : St} {β : Nat → Option Nat} {a : Act} {w : World} (hR : R C s β a w) : R C s β a w.drew := by
 have hx : Ext (C.I s.st β w) (C.I s.st β w.drew) s.st s.st β β w w.drew := ⟨fun _ h => h, fun _ _ => rfl, fun _ h => ⟨h, rfl⟩, fun _ _ _ _ cur ety hh => ⟨cur, hh, rfl⟩⟩
 have := hR.turn (st' := s.st) (β' := β) (w' := w.drew) (N := fun _ => False) ⟨⟨hR.ok.kept.os, hR.ok.kept.tape, hR.ok.kept.output, hR.ok.kept.size, hR.ok.kept.block, hR.ok.kept.shape⟩, fun r g hg => ?_, hR.ok.inj, hR.ok.uX, hR.ok.yO⟩ (hx.toN _) (fun _ hh => hh.elim)
 ·exact this
 ·have h1 := hR.ok.store r g hg
  refine ⟨h1.1, ?_⟩
  have h2 := h1.2
  cases hb : β r with
  | none => rw [hb] at h2; exact h2
  | some b =>
   rw [hb] at h2
   obtain ⟨cur, ety, h3, h4, h5⟩ := h2
   exact ⟨cur, ety, h3, h4, fun j t hj => by obtain ⟨u, h6, h7⟩ := h5 j t hj; exact ⟨u, h6, jc.ext hx h7⟩⟩
theorem Vx {r : Nat} {g : Reg} (h : (g.pure || g.cs.all fun t => !t.has r) = true) : NG r g = g := by
 unfold NG
 cases hp : g.pure with
 | true => rfl
 | false =>
  rw [hp] at h
  simp only [Bool.false_or, List.all_eq_true] at h
  simp only [cond_false]
  have : g.cs.map (DT r) = g.cs := by
   conv => rhs; rw [← List.map_id g.cs]
   apply List.map_congr_left
   intro t ht
   have := h t ht
   unfold DT
   simp only [Bool.not_eq_true'] at this
   rw [this]; rfl
  rw [this, ← hp]
theorem ZB {C : Ctx} {s : St} {d : Option Nat} {t e k bytes r n m : Nat} {x y : Operand} {g : Reg} {ys : List T} {z : S} (hx : s.ev x = .one (.own r 0 n (some (k, e)))) (hg : dH s.st r = some g) (hgl : g.cs.length = n * k) (hgs : (g.pure || g.cs.all fun t => !t.has r) = true)
  (hy : s.ev y = z) (hsrc : Src s k z ys m) (hlive : ys.all (Nv s.st) = true) (hself : ys.all (fun t => !t.has r) = true) (hbytes : (n + m) * bytes ≤ 140737488355328) (hlt : Nat.blt r 100000 = true) :
  Does C (.app t e k bytes x y) d s false (· = (⟨zh r s.env, (r, ⟨g.pure && gG ys, g.cs ++ ys⟩) :: yN (kR r s.st) r⟩ : St).put d (.one (.own r 0 (n + m) (some (k, e))))) := by
 refine Ag fun o ho β a w hR => ?_
 obtain ⟨i, zv, ho, hu, hi, hz, rfl, rfl, hk0, hzk, afd⟩ := ho
 have hrs : (dH s.st r).isSome = true := by rw [hg]; rfl
 have hown := (hx ▸ hR.ev x).t hrs
 obtain ⟨hyl, A, c, hvy, hcells⟩ := hsrc.rel hk0 hR (hy ▸ hR.ev y)
 have hpos : 0 < i.bytes := by omega
 have hnm : n + m ≤ 140737488355328 := Nat.le_trans (Nat.le_mul_of_pos_right _ hpos) hbytes
 have hRk := hR.kill r
 have hgk : dH (kR r s.st) r = some g := by rw [wK, hg]; simp only [Option.map_some]; rw [Vx hgs]
 have Vy : ∀ t ∈ ys, t.has r = false := fun t ht => by have := List.all_eq_true.1 hself t ht; simpa using this
 have ZC : ∀ t u, t.has r = false → jc w s.st β (C.I s.st β w) t u → jc w (kR r s.st) β (C.I (kR r s.st) β w) t u := fun t u _ h => jc.ext (ZA r) h
 have hp' : (g.pure && gG ys) = true → ∀ t ∈ g.cs ++ ys, t.isPure = true ∨ (g.pure = true ∧ t ∈ g.cs) := by
  intro h t ht
  simp only [Bool.and_eq_true] at h
  rcases List.mem_append.1 ht with h1 | h1
  ·exact .inr ⟨h.1, h1⟩
  ·exact .inl (kK h.2 t h1)
 have ac7 : m ≠ 0 → ∃ (ad : Addr) (us : List Value), A = some ad ∧ us.length = m * i.size ∧ (∀ j u, us[j]? = some u → w.cell? (ad.add j) = some u) ∧ (∀ u ∈ us, u.oneCell' = true) ∧ ∀ (j : Nat) (t : T), ys[j]? = some t → ∃ u, us[j]? = some u ∧ jc w s.st β (C.I s.st β w) t u := by
  intro hm
  rcases hcells with h | ⟨b, off, hA, hc⟩
  ·exact absurd h hm
  ·have hex : ∀ j : Nat, ∃ u : Value, ∀ t, ys[j]? = some t → w.cell? ⟨b, off + j, none⟩ = some u ∧ jc w s.st β (C.I s.st β w) t u := by
    intro j
    cases hj : ys[j]? with
    | none => exact ⟨undef, fun t ht => by cases ht⟩
    | some t => obtain ⟨u, h1, h2⟩ := hc j t hj; exact ⟨u, fun t' ht => by injection ht with ht; subst ht; exact ⟨h1, h2⟩⟩
   let f : Nat → Value := fun j => (hex j).choose
   have hf : ∀ j t, ys[j]? = some t → w.cell? ⟨b, off + j, none⟩ = some (f j) ∧ jc w s.st β (C.I s.st β w) t (f j) := fun j => (hex j).choose_spec
   have hfu : ∀ j u, ((List.range ys.length).map f)[j]? = some u → ∃ t, ys[j]? = some t ∧ u = f j := by
    intro j u hj
    rw [List.getElem?_map] at hj
    obtain ⟨j', hj', rfl⟩ := Option.map_eq_some_iff.1 hj
    have hlt : j < ys.length := by have := (List.getElem?_eq_some_iff.1 hj').1; simpa using this
    rw [List.getElem?_range hlt] at hj'
    injection hj' with hj'; subst hj'
    exact ⟨ys[j], List.getElem?_eq_getElem hlt, rfl⟩
   refine ⟨_, (List.range ys.length).map f, hA, by simp [hyl], fun j u hj => ?_, fun u hu => ?_, fun j t hj => ?_⟩
   ·obtain ⟨t, ht, rfl⟩ := hfu j u hj
    rw [addr_add]; exact (hf j t ht).1
   ·obtain ⟨j, hj⟩ := List.mem_iff_getElem?.1 hu
    obtain ⟨t, ht, rfl⟩ := hfu j u hj
    exact AV (List.all_eq_true.1 hlive t (List.mem_of_getElem? ht)) (hf j t ht).2
   ·have hlt := (List.getElem?_eq_some_iff.1 hj).1
    exact ⟨f j, by rw [List.getElem?_map, List.getElem?_range hlt]; rfl, (hf j t hj).2⟩
 have NI : ∀ v w', (Builtin.append_ #[t, t] o.type #[a.eval x, a.eval y]).run C.P w = .ok v w' → (execOp a.eval o).run C.P w = .ok (.value v) w' := by
  intro v w' h
  simp only [execOp, ho, resolve, Sem.run_bind, Sem.run_pure, Result.andThen_ok, invoke, builtin]
  have he : (#[x, y] : Array Operand).map a.eval = #[a.eval x, a.eval y] := by simp
  rw [he, h]
  rfl
 by_cases hm0 : m = 0
 ·subst hm0
  obtain rfl : ys = [] := List.eq_nil_of_length_eq_zero (by simpa using hyl)
  have hst : ∀ q, dH ((r, (⟨g.pure && gG [], g.cs ++ []⟩ : Reg)) :: yN (kR r s.st) r) q = dH (kR r s.st) q := by
   intro q
   by_cases hq : r = q
   ·subst hq; rw [gU, hgk]; simp [gG]
   ·rw [kU _ _ hq, uT _ hq]
  refine ⟨a.eval x, w, β, NI _ _ ?_, hRk.aaA hst, .one fun _ => ?_, fun h => by cases h⟩
  ·unfold sQ at hown
   cases hb : β r with
   | none =>
    rw [hb] at hown
    obtain ⟨rfl, hvx⟩ := hown
    rw [hvx, hvy]
    simp [Builtin.append_, run_underlying hu, sizeOf, typeInfo, hi, Builtin.lenOf]
    cases A <;> simp [Builtin.firstCells, loadCells, loadCellsFrom]
   | some b =>
    rw [hb] at hown
    obtain ⟨A', cap, cur, ety, hvx, hh, hA', hn, hap⟩ := hown
    obtain ⟨_, hA2, _⟩ := hap _ _ rfl
    subst hA2
    rw [hvx, hvy]
    simp [Builtin.append_, run_underlying hu, sizeOf, typeInfo, hi, Builtin.lenOf, hn]
    cases A <;> simp [Builtin.firstCells, loadCells, loadCellsFrom, storeCells]
  ·simp only [Nat.add_zero]; exact hown
 ·obtain ⟨ad, us, rfl, hul, NJ, hu1, Wp⟩ := ac7 hm0
  have hgrow : ∀ (olds : List Value) (w2 : World), w2 = w.drew → (∀ (j : Nat) (t : T), g.cs[j]? = some t → ∃ u, olds[j]? = some u ∧ jc w s.st β (C.I s.st β w) t u) → olds.length = n * i.size → ∀ (rest : Array Value) (cap' : Nat), n + m ≤ cap' → cap' ≤ maxLen → (olds.toArray ++ us.toArray ++ rest).size = cap' * i.size →
    ∃ β', R C ⟨zh r s.env, (r, ⟨g.pure && gG ys, g.cs ++ ys⟩) :: yN (kR r s.st) r⟩ β' a (w2.alloc (.cells (olds.toArray ++ us.toArray ++ rest) e)) ∧
     iy (w2.alloc (.cells (olds.toArray ++ us.toArray ++ rest) e)) ((r, ⟨g.pure && gG ys, g.cs ++ ys⟩) :: yN (kR r s.st) r) β' (C.I ((r, ⟨g.pure && gG ys, g.cs ++ ys⟩) :: yN (kR r s.st) r) β' (w2.alloc (.cells (olds.toArray ++ us.toArray ++ rest) e))) (.one (.own r 0 (n + m) (some (i.size, e)))) (.slice (some ⟨w2.heap.size, 0, none⟩) (n + m) cap') := by
   intro olds w2 hw2 hold hol rest cap' hc1 hc2 hsz
   subst hw2
   have hRd : R C ⟨zh r s.env, yN (kR r s.st) r⟩ β a w := hRk.drop (st' := yN (kR r s.st) r) (fun q g' hq => by
    by_cases h : r = q
    ·subst h; rw [yG] at hq; cases hq
    ·rw [uT _ h] at hq; exact hq)
   have ae1 := hRd.drew
   have hext : ∀ t u, t.has r = false → jc w s.st β (C.I s.st β w) t u → jc w.drew (yN (kR r s.st) r) β (C.I (yN (kR r s.st) r) β w.drew) t u := by
    intro t u ht h
    have h1 := ZC t u ht h
    refine jc.DI (N := (· = r)) (w := w) (w' := w.drew) ⟨fun b hb => ?_, fun _ _ => rfl, fun q hq hs => ⟨?_, rfl⟩, fun _ _ _ _ _ cur ety hh => ⟨cur, hh, rfl⟩⟩ (fun q hq => by subst hq; exact ht) h1
    ·rcases hb with h0 | ⟨h2, h3, h4⟩
     ·exact .inl h0
     ·refine .inr ⟨h2, h3, fun q hq => h4 q ?_⟩
      by_cases hqr : r = q
      ·subst hqr; rw [yG] at hq; cases hq
      ·rwa [uT _ hqr] at hq
    ·by_cases hqr : r = q
     ·exact absurd hqr.symm hq
     ·rwa [uT _ hqr] at hs
   have hal := ae1.alloc (QS r s hlt) (olds.toArray ++ us.toArray ++ rest) e ⟨g.pure && gG ys, g.cs ++ ys⟩ (by
     rw [hsz]; simp only [List.length_append, hgl, hyl, ← Nat.add_mul]; exact Nat.mul_le_mul_right _ hc1)
    (fun h t ht => by
     rcases hp' h t ht with h1 | ⟨h1, h2⟩
     ·exact h1
     ·
      exact (hR.ok.store r g hg).1 h1 t h2)
    (fun j t hj => by
     have hcs : g.cs.length = olds.length := by rw [hgl, hol]
     by_cases hjl : j < g.cs.length
     ·rw [List.getElem?_append_left hjl] at hj
      obtain ⟨u, h1, h2⟩ := hold j t hj
      refine ⟨u, ?_, hext t u ?_ h2, ?_⟩
      ·rw [Array.append_assoc, Array.getElem?_append_left (by simp; omega)]; simpa using h1
      ·exact (by
        rcases Bool.or_eq_true _ _ ▸ hgs with h3 | h3
        ·exact T.yH ((hR.ok.store r g hg).1 h3 t (List.mem_of_getElem? hj)) r
        ·have := List.all_eq_true.1 h3 t (List.mem_of_getElem? hj); simpa using this)
      ·exact (by
        rcases Bool.or_eq_true _ _ ▸ hgs with h3 | h3
        ·exact T.yH ((hR.ok.store r g hg).1 h3 t (List.mem_of_getElem? hj)) r
        ·have := List.all_eq_true.1 h3 t (List.mem_of_getElem? hj); simpa using this)
     ·rw [List.getElem?_append_right (by omega)] at hj
      obtain ⟨u, h1, h2⟩ := Wp _ t hj
      have hlt := (List.getElem?_eq_some_iff.1 h1).1
      refine ⟨u, ?_, hext t u (Vy t (List.mem_of_getElem? hj)) h2, Vy t (List.mem_of_getElem? hj)⟩
      rw [Array.getElem?_append_left (by simp; omega), Array.getElem?_append_right (by simp; omega)]
      simp only [List.size_toArray, ← hcs]
      simpa using h1)
   refine ⟨_, hal, .one fun _ => ?_⟩
   simp only [if_true]
   refine ⟨_, cap', _, e, rfl, heap_alloc_new w.drew _, fun _ => rfl, hc1, fun k' e' he => ?_⟩
   injection he with he
   injection he with h6 h7
   subst h6; subst h7
   exact ⟨rfl, rfl, hsz, hc2, rfl⟩
  have hbig : n + m ≤ maxLen := by simp only [maxLen]; omega
  unfold sQ at hown
  cases hb : β r with
  | none =>
   rw [hb] at hown
   obtain ⟨rfl, hvx⟩ := hown
   have hgc : g.cs = [] := List.eq_nil_of_length_eq_zero (by simpa using hgl)
   have hrun := run_append_nil (P := C.P) w t o.type e i zv hu hi hz ad m c us hul NJ (by omega) (by omega) (by simp only [Nat.zero_add] at hbytes; omega)
   obtain ⟨β', h1, h2⟩ := hgrow [] w.drew rfl (fun j t hj => by rw [hgc] at hj; simp at hj) (by simp) (Builtin.zeroCells zv.cells (grownCap w m 0 e - m)) (grownCap w m 0 e) (by simp only [Nat.zero_add]; exact grownCap_ge w m 0 e) (grownCap_le_maxLen w m 0 e (by simp only [Nat.zero_add] at hbig; exact hbig))
    (by
     have h3 := grownCap_ge w m 0 e
     simp only [Array.size_append, List.size_toArray, List.length_nil, size_zeroCells, hzk, hul, ← Nat.add_mul, Nat.zero_add]
     congr 1; omega)
   have he0 : ([] : List Value).toArray = #[] := rfl
   simp only [he0, Array.empty_append] at h1 h2
   refine ⟨_, _, β', NI _ _ ?_, h1, h2, fun h => by cases h⟩
   rw [hvx, hvy, hrun]
   simp
  | some b =>
   rw [hb] at hown
   obtain ⟨A', cap, cur, ety, hvx, hh, _, hn, hap⟩ := hown
   obtain ⟨_, hA2, hcs, hcm, rfl⟩ := hap _ _ rfl
   subst hA2
   obtain ⟨_, h2⟩ := hR.ok.store r g hg
   rw [hb] at h2
   obtain ⟨cur', aaz, h3, afe, h5⟩ := h2
   rw [hh] at h3; injection h3 with h3; injection h3 with h3 _; subst h3
   have hold : ∀ (j : Nat) (t : T), g.cs[j]? = some t → ∃ u, (cur.toList.take (n * i.size))[j]? = some u ∧ jc w s.st β (C.I s.st β w) t u := by
    intro j t hj
    have hjl := (List.getElem?_eq_some_iff.1 hj).1
    obtain ⟨u, h6, h7⟩ := h5 j t hj
    exact ⟨u, by rw [List.getElem?_take_of_lt (by omega)]; simpa using h6, h7⟩
   have hnc : n * i.size ≤ cur.size := by rw [hcs]; exact Nat.mul_le_mul_right _ hn
   by_cases hroom : n + m ≤ cap
   ·have hfit : n * i.size + us.length ≤ cur.size := by rw [hul, hcs, ← Nat.add_mul]; exact Nat.mul_le_mul_right _ hroom
    have hrun := run_append_room (P := C.P) w t o.type ety i hu hi b n cap cur hh ad m c us hul NJ hu1 hroom hfit
    have hwr := hRk.write hgk hb (cur.toList.take (n * i.size) ++ us ++ cur.toList.drop (n * i.size + us.length)).toArray ⟨g.pure && gG ys, g.cs ++ ys⟩
     (by simp [hgl, hyl, hul]; omega) (fun c' e' hc' => by rw [hh] at hc'; injection hc' with hc'; injection hc' with hc' _; subst hc'; simp; omega) hp'
     (fun j t hj => by
      rw [List.getElem?_toArray, vU _ _ _ (by simpa using hfit)]
      by_cases hj1 : j < n * i.size
      ·rw [if_pos hj1]
       rw [List.getElem?_append_left (by rw [hgl]; exact hj1)] at hj
       obtain ⟨u, h6, h7⟩ := h5 j t hj
       refine ⟨u, by simpa using h6, ZC t u ?_ h7⟩
       rcases Bool.or_eq_true _ _ ▸ hgs with h8 | h8
       ·exact T.yH ((hR.ok.store r g hg).1 h8 t (List.mem_of_getElem? hj)) r
       ·have := List.all_eq_true.1 h8 t (List.mem_of_getElem? hj); simpa using this
      ·rw [if_neg hj1]
       rw [List.getElem?_append_right (by omega), hgl] at hj
       obtain ⟨u, h6, h7⟩ := Wp _ t hj
       have hlt := (List.getElem?_eq_some_iff.1 h6).1
       rw [if_pos (by omega)]
       exact ⟨u, h6, ZC t u (Vy t (List.mem_of_getElem? hj)) h7⟩)
    have hst : ∀ q, dH ((r, (⟨g.pure && gG ys, g.cs ++ ys⟩ : Reg)) :: yN (kR r s.st) r) q = dH (sset (kR r s.st) r ⟨g.pure && gG ys, g.cs ++ ys⟩) q := by
     intro q
     by_cases hq : r = q
     ·subst hq; rw [gU, nV _ _ _ (by rw [hgk]; rfl)]
     ·rw [kU _ _ hq, uT _ hq, qG _ _ hq]
    refine ⟨_, _, β, NI _ _ (by rw [hvx, hvy]; exact hrun), hwr.aaA hst, .one fun _ => ?_, fun h => by cases h⟩
    rw [hb]
    refine ⟨_, cap, _, ety, rfl, setRow_heap w b cur _ ety _ hh, fun _ => rfl, hroom, fun k' e' he => ?_⟩
    injection he with he
    injection he with h6 h7
    subst h6; subst h7
    refine ⟨rfl, rfl, ?_, hcm, rfl⟩
    simp only [List.size_toArray, List.length_append, List.length_take, List.length_drop, Array.length_toList]
    omega
   ·have holds : ∀ j u, (cur.toList.take (n * i.size))[j]? = some u → w.cell? ((⟨b, 0, none⟩ : Addr).add j) = some u := by
     intro j u hj
     rw [addr_add, Nat.zero_add, DK hh]
     have hjl : j < n * i.size := by have := (List.getElem?_eq_some_iff.1 hj).1; simp at this; omega
     rw [List.getElem?_take_of_lt hjl] at hj
     simpa using hj
    have hrun := run_append_grow (P := C.P) w t o.type ety i zv hu hi hz ⟨b, 0, none⟩ n cap (cur.toList.take (n * i.size)) (by simp; omega) holds ad m c us hul NJ (by omega) (by omega) (growslice_fits (by omega) hbytes)
    obtain ⟨β', h1, h2⟩ := hgrow (cur.toList.take (n * i.size)) w.drew rfl hold (by simp; omega) (Builtin.zeroCells zv.cells (grownCap w (n + m) cap ety - (n + m))) (grownCap w (n + m) cap ety) (grownCap_ge ..) (grownCap_le_maxLen _ _ _ _ hbig)
     (by
      have h3 := grownCap_ge w (n + m) cap ety
      have h4 : (cur.toList.take (n * i.size)).length = n * i.size := by simp; omega
      simp only [Array.size_append, List.size_toArray, h4, size_zeroCells, hzk, hul, ← Nat.add_mul]
      congr 1; omega)
    refine ⟨_, _, β', NI _ _ ?_, h1, h2, fun h => by cases h⟩
    rw [hvx, hvy, hrun]
    simp
end Go.V
set_option linter.unusedVariables false
set_option linter.unusedSimpArgs false
namespace Go.V
open Go.RowKit
structure VOp where
 i : VI
 d : Option Nat
 g : Option (Option Nat × Bool)
def guardOf (ops : Array Oper) (o : Oper) : Option (Option Nat × Bool) := o.guard.map fun p => ((ops[p.1]?).bind (·.dst), p.2)
def Ej (P : Program) (nt : Nat) (ops : Array Oper) (o : Oper) : Option VOp :=
 if o.dst.all (Nat.blt · nt) then some ⟨(DJ P o).getD .bad, o.dst, guardOf ops o⟩ else none
structure O9 (P : Program) (nt : Nat) (ops : Array Oper) (o : Oper) (v : VOp) : Prop where
 spec : Spec P o v.i
 dst : o.dst = v.d
 lt : ∀ j, v.d = some j → j < nt
 gd : guardOf ops o = v.g
theorem TR {P : Program} {nt : Nat} {ops : Array Oper} {o : Oper} {v : VOp} (h : Ej P nt ops o = some v) : O9 P nt ops o v := by
 unfold Ej at h
 split at h
 ·rename_i hd
  injection h with h
  subst h
  refine ⟨?_, rfl, fun j hj => ?_, rfl⟩
  ·show Spec P o ((DJ P o).getD .bad)
   cases hi : DJ P o with
   | none => trivial
   | some i => exact aax hi
  have hj' : o.dst = some j := hj
  rw [hj'] at hd
  simpa [Nat.blt_eq] using hd
 ·cases h
def WL (C : Ctx) (l : List VOp) (s : St) (K : St → Prop) : Prop :=
 ∀ (ops : Array Oper) (idx : List Nat), idx.length = l.length → (∀ (k i : Nat) (v : VOp), idx[k]? = some i → l[k]? = some v → ∃ o, ops[i]? = some o ∧ O9 C.P C.nt ops o v) →
  ∀ β a w, R C s β a w → ∀ Q : Exit → Act → World → Prop, (∀ s' β' a' w', K s' → R C s' β' a' w' → Q .normal a' w') → wpOps C.P ops Q idx a w
section
variable {C : Ctx} {s : St} {K : St → Prop} {l : List VOp}
theorem bW (h : K s) : WL C [] s K := by
 intro ops idx hl _ β a w hR Q hK
 obtain rfl : idx = [] := List.eq_nil_of_length_eq_zero hl
 exact hK _ _ _ _ h hR
theorem uh {ops : Array Oper} {j gd : Nat} {β : Nat → Option Nat} {a : Act} {w : World} (hR : R C s β a w) (hd : (ops[j]?).bind (·.dst) = some gd) {b : Bool} (hb : jT s.env gd = .one (.v (.bool b))) : yielded ops a.tmps j = some b := by
 have h1 := (hb ▸ hR.env gd).plain
 unfold yielded
 rw [hd]
 simp only [Option.bind_some]
 have : a.tmps[gd]? = some (.bool b) := by
  rw [Array.getD_eq_getD_getElem?] at h1
  cases h : a.tmps[gd]? with
  | none => rw [h] at h1; cases h1
  | some v => rw [h] at h1; simp only [Option.getD_some] at h1; rw [h1]
 rw [this]
theorem EU {ops : Array Oper} {j gd : Nat} {β : Nat → Option Nat} {a : Act} {w : World} (hR : R C s β a w) (hd : (ops[j]?).bind (·.dst) = some gd) {l : List S} (hb : jT s.env gd = .tup l) : yielded ops a.tmps j = none := by
 have h1 := hb ▸ hR.env gd
 unfold yielded
 rw [hd]
 simp only [Option.bind_some]
 generalize hv : a.tmps.getD gd undef = v at h1
 rw [Array.getD_eq_getD_getElem?] at hv
 cases h : a.tmps[gd]? with
 | none => rfl
 | some u =>
  rw [h] at hv
  simp only [Option.getD_some] at hv
  subst hv
  cases h1
  rfl
theorem Vz {P : Program} {ops : Array Oper} {Q : Exit → Act → World → Prop} {i : Nat} {rest : List Nat} {a : Act} {w : World} {o : Oper} (ho : ops[i]? = some o)
  (h1 : Region.wanted o (yielded ops a.tmps) = true → o.wp P a w (wpOps P ops Q rest) Q) (h2 : Region.wanted o (yielded ops a.tmps) = false → wpOps P ops Q rest (a.put o.dst undef) w) : wpOps P ops Q (i :: rest) a w := by
 simp only [wpOps, ho]
 split
 ·rename_i h; exact .inl (h1 h)
 ·rename_i h; exact h2 (by simpa using h)
theorem Pe {i : VI} {d : Option Nat} {g : Option (Option Nat × Bool)} (b : Bool)
  (hg : ∀ (ops : Array Oper) (o : Oper), guardOf ops o = g → ∀ β a w, R C s β a w → Region.wanted o (yielded ops a.tmps) = b)
  (h1 : b = true → ∃ k K', Does C i d s k K' ∧ ∀ s', K' s' → WL C l s' K) (h2 : b = false → WL C l (s.put d (.tup [])) K) : WL C (⟨i, d, g⟩ :: l) s K := by
 intro ops idx hl hrel β a w hR Q hK
 cases idx with
 | nil => simp at hl
 | cons i0 rest =>
  obtain ⟨o, ho, hr⟩ := hrel 0 i0 _ rfl rfl
  have hrest : ∀ (k j : Nat) (v : VOp), rest[k]? = some j → l[k]? = some v → ∃ o, ops[j]? = some o ∧ O9 C.P C.nt ops o v := fun k j v h3 h4 => hrel (k + 1) j v (by simpa using h3) (by simpa using h4)
  have hw := hg ops o hr.gd β a w hR
  refine Vz ho (fun h => ?_) (fun h => ?_)
  ·rw [hw] at h
   obtain ⟨k, K', hdo, hk⟩ := h1 h
   exact hdo o hr.spec hr.dst hr.lt β a w hR _ Q fun s' β' a' w' hs' hR' _ => hk s' hs' ops rest (by simpa using hl) hrest β' a' w' hR' Q hK
  ·rw [hw] at h
   rw [hr.dst]
   exact h2 h ops rest (by simpa using hl) hrest β _ w (hR.rQ (.tup rfl (fun i s u h => by simp at h)) hr.lt) Q hK
theorem FY {ops : Array Oper} {o : Oper} (h : guardOf ops o = none) (y : Nat → Option Bool) : Region.wanted o y = true := by
 unfold guardOf at h
 unfold Region.wanted
 cases hg : o.guard with
 | none => rfl
 | some p => rw [hg] at h; cases h
theorem rU {ops : Array Oper} {o : Oper} {gd : Nat} {want : Bool} (h : guardOf ops o = some (some gd, want)) (y : Nat → Option Bool) : ∃ j, (ops[j]?).bind (·.dst) = some gd ∧ Region.wanted o y = (y j == some want) := by
 unfold guardOf at h
 obtain ⟨p, hp, he⟩ := Option.map_eq_some_iff.1 h
 injection he with h1 h2
 refine ⟨p.1, h1, ?_⟩
 unfold Region.wanted
 rw [hp]
 simp only
 rw [h2]
theorem aat {i : VI} {d : Option Nat} {k : Bool} {K' : St → Prop} (h1 : Does C i d s k K') (h2 : ∀ s', K' s' → WL C l s' K) : WL C (⟨i, d, none⟩ :: l) s K :=
 Pe true (fun ops o h β a w _ => FY h _) (fun _ => ⟨_, K', h1, h2⟩) (fun h => by cases h)
theorem WQ {i : VI} {d : Option Nat} {x : S} (h1 : Quiet C i s x) (h2 : WL C l (s.put d x) K) : WL C (⟨i, d, none⟩ :: l) s K :=
 aat h1.does fun _ h => h ▸ h2
theorem W1 {i : VI} {d : Option Nat} {k : Bool} {s' : St} (h1 : Does C i d s k (· = s')) (h2 : WL C l s' K) : WL C (⟨i, d, none⟩ :: l) s K :=
 aat h1 fun _ h => h ▸ h2
theorem ae2 {i : VI} {d : Option Nat} {gd : Nat} {want : Bool} {u : List S} (hg : jT s.env gd = .tup u) (h : WL C l (s.put d (.tup [])) K) : WL C (⟨i, d, some (some gd, want)⟩ :: l) s K :=
 Pe false (fun ops o hgd β a w hR => by
  obtain ⟨j, hj, hw⟩ := rU hgd (yielded ops a.tmps)
  rw [hw, EU hR hj hg]
  rfl) (fun h => by cases h) (fun _ => h)
theorem aF {i : VI} {d : Option Nat} {gd : Nat} {want b : Bool} {x : S} (hg : jT s.env gd = .one (.v (.bool b))) (h1 : b = want → Quiet C i s x) (h2 : WL C l (s.put d (bif b == want then x else .tup [])) K) : WL C (⟨i, d, some (some gd, want)⟩ :: l) s K :=
 Pe (b == want) (fun ops o hgd β a w hR => by
  obtain ⟨j, hj, hw⟩ := rU hgd (yielded ops a.tmps)
  rw [hw, uh hR hj hg]
  simp) (fun h => ⟨_, _, (h1 (by simpa using h)).does, fun s' hs' => by subst hs'; rw [h] at h2; exact h2⟩) (fun h => by rw [h] at h2; exact h2)
end
end Go.V
set_option linter.unusedVariables false
set_option linter.unusedSimpArgs false
namespace Go.V
open Go.RowKit
section
variable {P : Program} {ops : Array Oper} {Q : Exit → Act → World → Prop} {qs : List Nat} {Z : World → Prop}
inductive Reach (ops : Array Oper) : Nat → Nat → Prop
 | one {j : Nat} {oj : Oper} {e : Edge} (ho : ops[j]? = some oj) (he : e ∈ oj.after) (hb : Region.binds .any e = true) : Reach ops j e.on
 | step {j q : Nat} {oj : Oper} {e : Edge} (ho : ops[j]? = some oj) (he : e ∈ oj.after) (hb : Region.binds .any e = true) (h : Reach ops e.on q) : Reach ops j q
def Closed (ops : Array Oper) (listed : Array Bool) : Prop := ∀ (j : Nat) (oj : Oper), ops[j]? = some oj → listed.getD j false = true → ∀ e ∈ oj.after, Region.binds .any e = true → listed.getD e.on false = true
theorem Closed.reach {ops : Array Oper} {listed : Array Bool} (h : Closed ops listed) {j q : Nat} (hr : Reach ops j q) (hj : ∀ oj, ops[j]? = some oj → ∀ e ∈ oj.after, Region.binds .any e = true → listed.getD e.on false = true) : listed.getD q false = true := by
 induction hr with
 | one ho he hb => exact hj _ ho _ he hb
 | step ho he hb _ ih => exact ih fun oj' ho' => h _ oj' ho' (hj _ ho _ he hb)
theorem Ov {listed : Array Bool} {i k : Nat} (h : listed.getD k false = true) : (listed.setIfInBounds i true).getD k false = true := by
 rw [Array.getD_eq_getD_getElem?] at h ⊢
 rw [Array.getElem?_setIfInBounds]
 split
 ·rename_i e; subst e
  split
  ·rfl
  ·rename_i hlt; rw [Array.getElem?_eq_none (by omega)] at h; exact h
 ·exact h
theorem Closed.set {ops : Array Oper} {listed : Array Bool} (h : Closed ops listed) {i : Nat} (hi : ∀ oi, ops[i]? = some oi → ∀ e ∈ oi.after, Region.binds .any e = true → listed.getD e.on false = true) : Closed ops (listed.setIfInBounds i true) := by
 intro j oj ho hl e he hb
 refine Ov ?_
 by_cases hij : i = j
 ·subst hij; exact hi oj ho e he hb
 ·refine h j oj ho ?_ e he hb
  rw [Array.getD_eq_getD_getElem?] at hl ⊢
  rwa [Array.getElem?_setIfInBounds_ne hij] at hl
theorem AY {ops : Array Oper} {listed : Array Bool} {j : Nat} (hj : j ∈ Region.ready .any ops listed) : ∀ oj, ops[j]? = some oj → ∀ e ∈ oj.after, Region.binds .any e = true → listed.getD e.on false = true := by
 obtain ⟨hun, oj, hoj, hall⟩ := mem_ready.1 hj
 intro oj' ho' e he hb
 rw [hoj] at ho'; injection ho' with ho'; subst ho'
 exact hall e he hb
def Loose (ops : Array Oper) (qs : List Nat) (listed : Array Bool) (j : Nat) : Prop := ∃ q ∈ qs, q ≠ j ∧ ¬ Reach ops j q ∧ ∀ j', listed.getD j' false = true → j' ∉ qs → ¬ Reach ops j' q
def AnyX (P : Program) (ops : Array Oper) (Q : Exit → Act → World → Prop) (qs : List Nat) (Z : World → Prop) : Nat → Array Bool → Act → World → Prop
 | 0, listed, a, w => Region.ready .any ops listed = [] ∧ Q .normal a w
 | n + 1, listed, a, w => (Region.ready .any ops listed = [] → Q .normal a w) ∧
   ∀ i ∈ Region.ready .any ops listed, wpOp P ops Q i (fun a' w' => (Loose ops qs listed i → Z w') ∧ AnyX P ops Q qs Z n (listed.setIfInBounds i true) a' w') a w
theorem TS : ∀ (n : Nat) (listed : Array Bool) (a : Act) (w : World), AnyX P ops Q qs Z n listed a w → wpAny P .any ops Q n listed a w
 | 0, _, _, _, h => h
 | n + 1, _, _, _, h => ⟨h.1, fun i hi => wpOp_mono (fun _ _ h' => TS n _ _ _ h'.2) (h.2 i hi)⟩
def Gives (P : Program) (ops : Array Oper) (Z : World → Prop) (o : Oper) (v : Value) (a : Act) : Prop :=
 (Region.wanted o (yielded ops a.tmps) = true ∧ ∀ w, Z w → (execOp a.eval o).run P w = .ok (.value v) w) ∨ (Region.wanted o (yielded ops a.tmps) = false ∧ v = undef)
theorem Gives.wpOp {i : Nat} {o : Oper} {v : Value} {a : Act} (ho : ops[i]? = some o) (h : Gives P ops Z o v a) {K : Act → World → Prop} {w : World} (hz : Z w) (hk : K (a.put o.dst v) w) : wpOp P ops Q i K a w := by
 unfold Go.wpOp
 simp only [ho]
 rcases h with ⟨hw, hv⟩ | ⟨hw, rfl⟩
 ·rw [if_pos hw]
  refine .inl ?_
  unfold Oper.wp
  rw [hv w hz]
  exact hk
 ·rw [if_neg (by rw [hw]; exact Bool.false_ne_true)]
  exact hk
theorem XC {j : Nat} {oi oj : Oper} {v : Value} (hj : ops[j]? = some oj) (hap : oi.apart ops oj = true) (hsi : ∀ cs b, oi.op ≠ .select cs b) (hsj : ∀ cs b, oj.op ≠ .select cs b)
  (hQ : ∀ c a w, Q (.panic c) (a.put oi.dst v) w → Q (.panic c) a w) {K : Act → World → Prop} {a : Act} {w : World} (hg : Gives P ops Z oi v a) (h : wpOp P ops Q j K (a.put oi.dst v) w) :
  wpOp P ops Q j (fun a' w' => Gives P ops Z oi v a' ∧ K (a'.put oi.dst v) w') a w := by
 obtain ⟨p1, p2, p3⟩ := Oper.apart_spec hap
 have stay : ∀ (a : Act) (u : Value), Gives P ops Z oi v a → Gives P ops Z oi v (a.put oj.dst u) := by
  intro a u hg
  unfold Gives at *
  rw [execOp_put oi hsi a oj.dst u p3, wanted_put oi a oj.dst u p3]
  exact hg
 have fin : ∀ (a : Act) (u : Value) (w : World), Gives P ops Z oi v a → K ((a.put oi.dst v).put oj.dst u) w → Gives P ops Z oi v (a.put oj.dst u) ∧ K ((a.put oj.dst u).put oi.dst v) w :=
  fun a u w hg hk => ⟨stay a u hg, by rw [← Act.put_comm a v u p2]; exact hk⟩
 unfold Go.wpOp at *
 simp only [hj] at *
 rw [wanted_put oj a oi.dst v p1] at h
 by_cases hw : Region.wanted oj (yielded ops a.tmps) = true
 ·rw [if_pos hw] at h ⊢
  rcases h with h | ⟨h1, h2⟩
  ·refine .inl ?_
   unfold Oper.wp at *
   rw [execOp_put oj hsj a oi.dst v p1] at h
   cases hr : (execOp a.eval oj).run P w with
   | ok n w' =>
    rw [hr] at h
    cases n with
    | value u => exact fin a u w' hg h
    | skip => exact fin a undef w' hg h
    | defer d =>
     have hg' : Gives P ops Z oi v { a with defers := d :: a.defers } := hg
     have he : ({ a.put oi.dst v with defers := d :: (a.put oi.dst v).defers } : Act) = ({ a with defers := d :: a.defers } : Act).put oi.dst v := by cases oi.dst <;> rfl
     refine fin _ undef w' hg' ?_
     rw [Oper.upon_defer, he] at h
     exact h
    | enter f args =>
     refine Calls.mono h fun e w'' he => ?_
     cases e with
     | returned u => exact fin a u w'' hg he
     | panicked c => exact hQ _ _ _ he
     | outgrown => exact he
    | row r args => exact Rows.mono h fun u w'' he => fin a u w'' hg he
    | _ => exact h
   | halt x w' =>
    rw [hr] at h
    cases x with
    | panic u => exact hQ _ _ _ h
    | _ => exact h
  ·refine .inr ⟨?_, h2⟩
   unfold Oper.asks at *
   rw [execOp_put oj hsj a oi.dst v p1] at h1
   exact h1
 ·rw [if_neg hw] at h ⊢
  exact fin a undef w hg h
theorem aaB {i : Nat} {oi : Oper} {v : Value} (ho : ops[i]? = some oi) (hs : ∀ (j : Nat) (o : Oper) cs b, ops[j]? = some o → o.op ≠ .select cs b) (hq : i ∈ qs)
  (hQ : ∀ c a w, Q (.panic c) (a.put oi.dst v) w → Q (.panic c) a w) : ∀ (n : Nat) (listed : Array Bool) (a : Act) (w : World),
   (∀ (j : Nat) (oj : Oper), ops[j]? = some oj → j ≠ i → listed.getD j true = false → (∀ e ∈ oj.after, Region.binds .any e = true → e.on ≠ i) → oi.apart ops oj = true) →
   i ∈ Region.ready .any ops listed → Closed ops listed → Gives P ops Z oi v a → Z w → AnyX P ops Q qs Z n (listed.setIfInBounds i true) (a.put oi.dst v) w → AnyX P ops Q qs Z (n + 1) listed a w := by
 intro n
 induction n with
 | zero =>
  intro listed a w _ hr hcl hg hz H
  refine ⟨(fun h => by rw [h] at hr; cases hr), fun j hj => ?_⟩
  by_cases e : j = i
  ·subst e; exact hg.wpOp ho hz ⟨fun _ => hz, H⟩
  ·have := ready_mono hj e
   rw [H.1] at this
   cases this
 | succ n ih =>
  intro listed a w hfree hr hcl hg hz H
  refine ⟨(fun h => by rw [h] at hr; cases hr), fun j hj => ?_⟩
  by_cases e : j = i
  ·subst e; exact hg.wpOp ho hz ⟨fun _ => hz, H⟩
  ·obtain ⟨hun, oj, hoj, hall⟩ := mem_ready.1 hj
   have aaC : listed.getD i true = false := (mem_ready.1 hr).1
   have hno : ∀ ed ∈ oj.after, Region.binds .any ed = true → ed.on ≠ i := by
    intro ed hed hb he
    have h1 := hall ed hed hb
    rw [he] at h1
    rcases Nat.lt_or_ge i listed.size with h' | h'
    ·simp [h'] at aaC h1; rw [aaC] at h1; cases h1
    ·simp [Array.getElem?_eq_none h'] at h1
   have hnl : ¬ listed.getD i false = true := fun h1 => by
    rcases Nat.lt_or_ge i listed.size with h' | h'
    ·simp [h'] at aaC h1; rw [aaC] at h1; cases h1
    ·simp [Array.getElem?_eq_none h'] at h1
   have hl : Loose ops qs (listed.setIfInBounds i true) j := ⟨i, hq, fun h => e h.symm, fun hre => hnl (hcl.reach hre (AY hj)), fun j' hj' hnq hre => by
    by_cases hij : i = j'
    ·subst hij; exact hnq hq
    ·have h2 : listed.getD j' false = true := by
      rw [Array.getD_eq_getD_getElem?] at hj' ⊢
      rwa [Array.getElem?_setIfInBounds_ne hij] at hj'
     exact hnl (hcl.reach hre (fun oj ho => hcl j' oj ho h2))⟩
   have hsw := XC hoj (hfree j oj hoj e hun hno) (fun cs b => hs i oi cs b ho) (fun cs b => hs j oj cs b hoj) hQ hg (H.2 j (ready_mono hj e))
   refine wpOp_mono (fun a' w' h3 => ?_) hsw
   obtain ⟨hg', hz', hX⟩ := h3
   refine ⟨fun _ => hz' hl, ih (listed.setIfInBounds j true) a' w' (fun k ok hk hki ac8 ae3 => hfree k ok hk hki ?_ ae3) (ready_mono hr (fun h => e h.symm)) (hcl.set (AY hj)) hg' (hz' hl) ?_⟩
   ·by_cases hjk : j = k
    ·subst hjk; exact hun
    ·rw [getD_set_ne true hjk] at ac8; exact ac8
   ·rw [Array.setIfInBounds_comm _ _ e]
    exact hX
theorem acn {listed : Array Bool} {a : Act} {w : World} (hr : Region.ready .any ops listed = []) (h : Q .normal a w) : ∀ n, AnyX P ops Q qs Z n listed a w
 | 0 => ⟨hr, h⟩
 | _ + 1 => ⟨fun _ => h, by rw [hr]; simp⟩
end
abbrev DOp := VOp × List Nat
def AZ (o : Oper) : List Nat := (o.after.toList.filter (Region.binds .any)).map (·.on)
def xH (P : Program) (nt : Nat) (ops : Array Oper) : List Oper → Option (List DOp)
 | [] => some []
 | o :: l => (Ej P nt ops o).bind fun v => (xH P nt ops l).map ((v, AZ o) :: ·)
theorem EX {P : Program} {nt : Nat} {ops : Array Oper} : ∀ {l : List Oper} {vs : List DOp}, xH P nt ops l = some vs → vs.length = l.length ∧ ∀ (k : Nat) (o : Oper) (v : DOp), l[k]? = some o → vs[k]? = some v → O9 P nt ops o v.1 ∧ v.2 = AZ o
 | [], vs, h => by simp [xH] at h; subst h; simp
 | o :: l, vs, h => by
  simp only [xH] at h
  obtain ⟨v, hv, h⟩ := Option.bind_eq_some_iff.1 h
  obtain ⟨vs', hvs, rfl⟩ := Option.map_eq_some_iff.1 h
  obtain ⟨h1, h2⟩ := EX hvs
  refine ⟨by simp [h1], fun k o' v' h3 h4 => ?_⟩
  cases k with
  | zero => simp at h3 h4; subst h3; subst h4; exact ⟨TR hv, rfl⟩
  | succ k => exact h2 k o' v' (by simpa using h3) (by simpa using h4)
def ae4 (done : List Bool) (i : Nat) (x : Bool) : Bool := done.getD i x
def zG (l : List DOp) (done : List Bool) (i : Nat) : Bool := match l[i]? with | some v => !(done.getD i true) && v.2.all (fun j => done.getD j false) | none => false
def yJ (l : List DOp) (done : List Bool) : List Nat := (List.range l.length).filter (zG l done)
def FZ (l : List DOp) : Nat → Nat → Nat → Bool
 | 0, _, _ => false
 | n + 1, i, q => match l[i]? with | some v => v.2.any (fun j => j == q || FZ l n j q) | none => false
def IK (l : List DOp) (qs : List Nat) (done : List Bool) (i : Nat) : Bool := match l[i]? with | some v => qs.any fun q => q != i && (!(FZ l 6 i q) && (List.range l.length).all fun j => !(done.getD j false) || (qs.contains j || !(FZ l 6 j q))) | none => true
def H8 (ops : Array Oper) : Bool := (List.range ops.size).all fun i => (List.range ops.size).all fun j => i == j || match ops[i]?, ops[j]? with
 | some oi, some oj => (AZ oj).contains i || (AZ oi).contains j || oi.apart ops oj
 | _, _ => true
structure aaD (C : Ctx) (ops : Array Oper) (l : List DOp) : Prop where
 size : ops.size = l.length
 rel : ∀ (k : Nat) (o : Oper) (v : DOp), ops[k]? = some o → l[k]? = some v → O9 C.P C.nt ops o v.1 ∧ v.2 = AZ o
 apart : H8 ops = true
 sel : ∀ (j : Nat) (o : Oper) cs b, ops[j]? = some o → o.op ≠ .select cs b
theorem zk {o : Oper} {j : Nat} : j ∈ AZ o ↔ ∃ e ∈ o.after, Region.binds .any e = true ∧ e.on = j := by
 simp only [AZ, List.mem_map, List.mem_filter, Array.mem_toList_iff]
 constructor
 ·rintro ⟨e, ⟨h1, h2⟩, h3⟩; exact ⟨e, h1, h2, h3⟩
 ·rintro ⟨e, h1, h2, h3⟩; exact ⟨e, ⟨h1, h2⟩, h3⟩
theorem NK {C : Ctx} {ops : Array Oper} {l : List DOp} (h : aaD C ops l) : ∀ (n i q : Nat), FZ l n i q = true → Reach ops i q
 | 0, i, q, hr => by cases hr
 | n + 1, i, q, hr => by
  unfold FZ at hr
  cases hv : l[i]? with
  | none => rw [hv] at hr; cases hr
  | some v =>
   rw [hv] at hr
   obtain ⟨j, hj, hr⟩ := List.any_eq_true.1 hr
   have hil : i < l.length := (List.getElem?_eq_some_iff.1 hv).1
   have hlt : i < ops.size := by rw [h.size]; exact hil
   have ho : ops[i]? = some ops[i] := Array.getElem?_eq_getElem hlt
   obtain ⟨_, hw⟩ := h.rel i _ _ ho hv
   rw [hw] at hj
   obtain ⟨e, he, hb, rfl⟩ := zk.1 hj
   simp only [Bool.or_eq_true, beq_iff_eq] at hr
   rcases hr with rfl | hr
   ·exact .one ho he hb
   ·exact .step ho he hb (NK h n _ q hr)
theorem ready_eq {C : Ctx} {ops : Array Oper} {l : List DOp} (h : aaD C ops l) {done : List Bool} (hd : done.length = l.length) : Region.ready .any ops done.toArray = yJ l done := by
 unfold Region.ready yJ
 rw [h.size]
 apply List.filter_congr
 intro i hi
 have hi' : i < l.length := by simpa using hi
 have hlt : i < ops.size := by rw [h.size]; exact hi'
 have ho : ops[i]? = some ops[i] := Array.getElem?_eq_getElem hlt
 have hv : l[i]? = some l[i] := List.getElem?_eq_getElem hi'
 obtain ⟨_, hw⟩ := h.rel i _ _ ho hv
 unfold zG
 rw [ho, hv]
 simp only [Option.map_some, Option.getD_some]
 have e1 : done.toArray.getD i true = done.getD i true := by simp [Array.getD_eq_getD_getElem?, List.getD_eq_getElem?_getD]
 rw [e1, hw]
 congr 1
 rw [Bool.eq_iff_iff]
 simp only [Array.all_eq_true', List.all_eq_true, Bool.or_eq_true, Bool.not_eq_true']
 constructor
 ·intro h1 j hj
  obtain ⟨e, he, hb, rfl⟩ := zk.1 hj
  rcases h1 e he with h2 | h2
  ·rw [hb] at h2; cases h2
  ·simpa [Array.getD_eq_getD_getElem?, List.getD_eq_getElem?_getD] using h2
 ·intro h1 e he
  cases hb : Region.binds .any e with
  | false => exact .inl rfl
  | true =>
   have := h1 e.on (zk.2 ⟨e, he, hb, rfl⟩)
   exact .inr (by simpa [Array.getD_eq_getD_getElem?, List.getD_eq_getElem?_getD] using this)
def XW (C : Ctx) (l : List DOp) (qs : List Nat) (z : Bool) (done : List Bool) (s : St) (K : St → Prop) : Prop :=
 done.length = l.length → ∀ (ops : Array Oper), aaD C ops l → Closed ops done.toArray → ∀ β a w, R C s β a w → ∀ Z : World → Prop, (z = true → Z = Kept (fun _ => False) w) →
  ∀ Q : Exit → Act → World → Prop, (∀ c a w, ¬ Q (.panic c) a w) → (∀ s' β' a' w', K s' → R C s' β' a' w' → Q .normal a' w') →
   ∀ n, (done.filter (!·)).length ≤ n → AnyX C.P ops Q qs Z n done.toArray a w
theorem TT {P : Program} {ops : Array Oper} {Q : Exit → Act → World → Prop} {qs : List Nat} {Z Z' : World → Prop} (hz : ∀ w, Z' w → Z w) : ∀ (n : Nat) (listed : Array Bool) (a : Act) (w : World), AnyX P ops Q qs Z' n listed a w → AnyX P ops Q qs Z n listed a w
 | 0, _, _, _, h => h
 | n + 1, _, _, _, h => ⟨h.1, fun i hi => wpOp_mono (fun _ _ h' => ⟨fun hl => hz _ (h'.1 hl), TT hz n _ _ _ h'.2⟩) (h.2 i hi)⟩
theorem Kept.trans {a b c : World} (h : Kept (fun _ => False) a b) (k : Kept (fun _ => False) b c) : Kept (fun _ => False) a c :=
 ⟨k.os.trans h.os, k.tape.trans h.tape, k.output.trans h.output, Nat.le_trans h.size k.size, fun i hi hf => (k.block i (by have := h.size; omega) hf).trans (h.block i hi hf), fun b cur ety hh => by
  obtain ⟨c1, h1, h2⟩ := h.shape b cur ety hh
  obtain ⟨c2, h3, h4⟩ := k.shape b c1 ety h1
  exact ⟨c2, h3, h4.trans h2⟩⟩
theorem set_toArray (done : List Bool) (i : Nat) : done.toArray.setIfInBounds i true = (done.set i true).toArray := by simp
theorem count_set : ∀ (done : List Bool) (i : Nat), done.getD i true = false → ((done.set i true).filter (!·)).length + 1 = (done.filter (!·)).length
 | [], i, h => by simp at h
 | b :: l, 0, h => by simp at h; subst h; simp
 | b :: l, i + 1, h => by
  have := count_set l i (by simpa using h)
  cases b <;> simp [List.set_cons_succ] <;> omega
section
variable {C : Ctx} {l : List DOp} {qs : List Nat} {z : Bool} {done : List Bool} {s : St} {K : St → Prop}
theorem dL (hr : yJ l done = []) (h : K s) : XW C l qs z done s K := by
 intro hd ops hrel hcl β a w hR Z hz Q _ hK n _
 exact acn (by rw [ready_eq hrel hd]; exact hr) (hK _ _ _ _ h hR) n
theorem VA (i : Nat) {v : VOp} {ws : List Nat} {x : S} (hv : l[i]? = some (v, ws)) (hq : qs.contains i = true) (hr : zG l done i = true)
  (hg : ∃ b : Bool, (∀ (ops : Array Oper) (o : Oper), guardOf ops o = v.g → ∀ β a w, R C s β a w → Region.wanted o (yielded ops a.tmps) = b) ∧ (b = true → Quiet C v.i s x) ∧ (b = false → x = .tup []))
  (h : XW C l qs true (done.set i true) (s.put v.d x) K) : XW C l qs true done s K := by
 intro hd ops hrel hcl β a w hR Z hz Q hnp hK n hn
 obtain rfl := hz rfl
 have hil : i < l.length := (List.getElem?_eq_some_iff.1 hv).1
 have hlt : i < ops.size := by rw [hrel.size]; exact hil
 have ho : ops[i]? = some ops[i] := Array.getElem?_eq_getElem hlt
 obtain ⟨hop, hw⟩ := hrel.rel i _ _ ho hv
 have aco : done.getD i true = false := by
  unfold zG at hr
  rw [hv] at hr
  simp only [Bool.and_eq_true, Bool.not_eq_true'] at hr
  exact hr.1
 have hcount := count_set done i aco
 obtain ⟨m, rfl⟩ : ∃ m, n = m + 1 := ⟨n - 1, by omega⟩
 obtain ⟨b, hb, hb1, hb2⟩ := hg
 have hwant := hb ops ops[i] hop.gd β a w hR
 have KR : i ∈ Region.ready .any ops done.toArray := by
  rw [ready_eq hrel hd]
  unfold yJ
  simp only [List.mem_filter, List.mem_range]
  exact ⟨hil, hr⟩
 have hfree : ∀ (j : Nat) (oj : Oper), ops[j]? = some oj → j ≠ i → done.toArray.getD j true = false → (∀ e ∈ oj.after, Region.binds .any e = true → e.on ≠ i) → ops[i].apart ops oj = true := by
  intro j oj hoj hji hju hno
  have h1 := hrel.apart
  unfold H8 at h1
  have hjs : j < ops.size := (Array.getElem?_eq_some_iff.1 hoj).1
  have h2 := List.all_eq_true.1 (List.all_eq_true.1 h1 i (by simp [hrel.size, hil])) j (by simpa using hjs)
  rw [ho, hoj] at h2
  simp only [Bool.or_eq_true, beq_iff_eq, List.contains_iff_mem] at h2
  rcases h2 with h2 | (h2 | h2) | h2
  ·exact absurd h2.symm hji
  ·obtain ⟨e, he, hbe, heo⟩ := zk.1 h2
   exact absurd heo (hno e he hbe)
  ·
   rw [← hw] at h2
   unfold zG at hr
   rw [hv] at hr
   simp only [Bool.and_eq_true, List.all_eq_true] at hr
   have h3 := hr.2 j h2
   have hjd : j < done.length := by rw [hd, ← hrel.size]; exact hjs
   simp [List.getD_eq_getElem?_getD, List.getElem?_eq_getElem hjd] at h3
   simp [Array.getD_eq_getD_getElem?, List.getElem?_eq_getElem hjd] at hju
   rw [h3] at hju; cases hju
  ·exact h2
 have ac9 : ∃ u, Gives C.P ops (Kept (fun _ => False) w) ops[i] u a ∧ iy w s.st β (C.I s.st β w) x u := by
  cases b with
  | true =>
   obtain ⟨u, hu, hrl⟩ := hb1 rfl ops[i] hop.spec β a w hR
   exact ⟨u, .inl ⟨hwant, hu⟩, hrl⟩
  | false => exact ⟨undef, .inr ⟨hwant, rfl⟩, by rw [hb2 rfl]; exact .tup rfl (fun i s u h => by simp at h)⟩
 obtain ⟨u, hgu, hrl⟩ := ac9
 refine aaB ho hrel.sel (by simpa using hq) (fun c a w h => absurd h (hnp c _ w)) m done.toArray a w hfree KR hcl hgu (Kept.refl _ _) ?_
 rw [set_toArray]
 have hd' : (done.set i true).length = l.length := by simpa using hd
 rw [hop.dst]
 exact h hd' ops hrel (by rw [← set_toArray]; exact hcl.set (AY KR)) β _ w (hR.rQ hrl hop.lt) _ (fun _ => rfl) Q hnp hK m (by omega)
def DW (C : Ctx) (l : List DOp) (qs : List Nat) (z : Bool) (done : List Bool) (s : St) (K : St → Prop) (i : Nat) : Prop :=
 ∃ v ws, l[i]? = some (v, ws) ∧ ∃ b : Bool, (∀ (ops : Array Oper) (o : Oper), guardOf ops o = v.g → ∀ β a w, R C s β a w → Region.wanted o (yielded ops a.tmps) = b) ∧
  (b = true → ∃ k K', Does C v.i v.d s k K' ∧ (IK l qs done i = true → k = true ∧ z = true) ∧ ∀ s', K' s' → XW C l qs (z && k) (done.set i true) s' K) ∧
  (b = false → (IK l qs done i = true → z = true) ∧ XW C l qs z (done.set i true) (s.put v.d (.tup [])) K)
theorem VB {rs : List Nat} (hr : yJ l done = rs) (hne : rs ≠ []) (h : ∀ i ∈ rs, DW C l qs z done s K i) : XW C l qs z done s K := by
 intro hd ops hrel hcl β a w hR Z hz Q hnp hK n hn
 have hre := ready_eq hrel hd
 have hnn : ∃ m, n = m + 1 := by
  obtain ⟨i, rs', rfl⟩ := List.exists_cons_of_ne_nil hne
  have hi : i ∈ yJ l done := by rw [hr]; simp
  unfold yJ at hi
  simp only [List.mem_filter] at hi
  have h2 := hi.2
  unfold zG at h2
  have hun : done.getD i true = false := by
   cases hv : l[i]? with
   | none => rw [hv] at h2; cases h2
   | some v =>
    rw [hv] at h2
    simp only [Bool.and_eq_true, Bool.not_eq_true'] at h2
    exact h2.1
  have := count_set done i hun
  exact ⟨n - 1, by omega⟩
 obtain ⟨m, rfl⟩ := hnn
 refine ⟨fun h0 => absurd (by rw [hre, hr] at h0; exact h0) hne, fun i hi => ?_⟩
 rw [hre] at hi
 have hi' := hi
 rw [hr] at hi'
 obtain ⟨v, ws, hv, b, hb, hb1, hb2⟩ := h i hi'
 have hil : i < l.length := (List.getElem?_eq_some_iff.1 hv).1
 have hlt : i < ops.size := by rw [hrel.size]; exact hil
 have ho : ops[i]? = some ops[i] := Array.getElem?_eq_getElem hlt
 obtain ⟨hop, hw⟩ := hrel.rel i _ _ ho hv
 have hwant := hb ops ops[i] hop.gd β a w hR
 have aco : done.getD i true = false := by
  unfold yJ at hi
  simp only [List.mem_filter] at hi
  have h2 := hi.2
  unfold zG at h2
  rw [hv] at h2
  simp only [Bool.and_eq_true, Bool.not_eq_true'] at h2
  exact h2.1
 have hcount := count_set done i aco
 have hd' : (done.set i true).length = l.length := by simpa using hd
 have hcl' : Closed ops (done.set i true).toArray := by rw [← set_toArray]; exact hcl.set (AY (by rw [hre]; exact hi))
 have ZE : Loose ops qs done.toArray i → IK l qs done i = true := by
  rintro ⟨q, hq, hne', hno, hall⟩
  unfold IK
  rw [hv]
  simp only [List.any_eq_true]
  refine ⟨q, hq, ?_⟩
  simp only [Bool.and_eq_true, bne_iff_ne, Bool.not_eq_true', List.all_eq_true, Bool.or_eq_true, List.mem_range]
  refine ⟨hne', ?_, fun j hj => ?_⟩
  ·cases hc : FZ l 6 i q with
   | false => rfl
   | true => exact absurd (NK hrel _ _ _ hc) hno
  ·cases hd : done.getD j false with
   | false => exact .inl rfl
   | true =>
    cases hqc : qs.contains j with
    | true => exact .inr (.inl rfl)
    | false =>
     refine .inr (.inr ?_)
     cases hc : FZ l 6 j q with
     | false => rfl
     | true => exact absurd (NK hrel _ _ _ hc) (hall j (by simpa [Array.getD_eq_getD_getElem?, List.getD_eq_getElem?_getD] using hd) (by simpa using hqc))
 unfold wpOp
 simp only [ho]
 rw [set_toArray]
 cases b with
 | true =>
  rw [if_pos hwant]
  refine .inl ?_
  obtain ⟨k, K', hdo, hlk, hx⟩ := hb1 rfl
  refine hdo ops[i] hop.spec hop.dst hop.lt β a w hR _ Q fun s' β' a' w' hs' hR' hk => ⟨fun hl => ?_, ?_⟩
  ·obtain ⟨hk1, hz1⟩ := hlk (ZE hl)
   rw [hz hz1]
   exact hk hk1
  ·cases hzk : (z && k) with
   | false =>
    have := hx s' hs'
    rw [hzk] at this
    exact this hd' ops hrel hcl' β' a' w' hR' Z (fun h => by cases h) Q hnp hK m (by omega)
   | true =>
    have := hx s' hs'
    rw [hzk] at this
    simp only [Bool.and_eq_true] at hzk
    rw [hz hzk.1]
    exact TT (fun w2 h2 => (hk hzk.2).trans h2) m _ _ _ (this hd' ops hrel hcl' β' a' w' hR' _ (fun _ => rfl) Q hnp hK m (by omega))
 | false =>
  rw [if_neg (by rw [hwant]; exact Bool.false_ne_true)]
  obtain ⟨hlz, hx⟩ := hb2 rfl
  rw [hop.dst]
  refine ⟨fun hl => ?_, hx hd' ops hrel hcl' β _ w (hR.rQ (.tup rfl (fun i s u h => by simp at h)) hop.lt) Z hz Q hnp hK m (by omega)⟩
  rw [hz (hlz (ZE hl))]
  exact Kept.refl _ _
theorem XQ (i : Nat) {vi : VI} {d : Option Nat} {ws : List Nat} {x : S} (hv : l[i]? = some (⟨vi, d, none⟩, ws)) (hq : qs.contains i = true) (hr : zG l done i = true) (hx : Quiet C vi s x)
  (h : XW C l qs true (done.set i true) (s.put d x) K) : XW C l qs true done s K :=
 VA i hv hq hr ⟨true, fun ops o hg β a w _ => FY hg _, fun _ => hx, fun h => by cases h⟩ h
theorem fO (i : Nat) {vi : VI} {d : Option Nat} {gd : Nat} {want b : Bool} {ws : List Nat} {x : S} (hv : l[i]? = some (⟨vi, d, some (some gd, want)⟩, ws)) (hq : qs.contains i = true) (hr : zG l done i = true)
  (hg : jT s.env gd = .one (.v (.bool b))) (hx : b = want → Quiet C vi s x) (h : XW C l qs true (done.set i true) (s.put d (bif b == want then x else .tup [])) K) : XW C l qs true done s K :=
 VA i hv hq hr ⟨b == want, fun ops o hgd β a w hR => by
  obtain ⟨j, hj, hw⟩ := rU hgd (yielded ops a.tmps)
  rw [hw, uh hR hj hg]
  simp, fun h => by rw [h]; exact hx (by simpa using h), fun h => by rw [h]; rfl⟩ h
theorem XS {i : Nat} {vi : VI} {d : Option Nat} {ws : List Nat} {k : Bool} {K' : St → Prop} (hv : l[i]? = some (⟨vi, d, none⟩, ws)) (hx : Does C vi d s k K') (hl : IK l qs done i = true → k = true ∧ z = true)
  (h : ∀ s', K' s' → XW C l qs (z && k) (done.set i true) s' K) : DW C l qs z done s K i :=
 ⟨_, ws, hv, true, fun ops o hg β a w _ => FY hg _, fun _ => ⟨k, K', hx, hl, h⟩, fun h => by cases h⟩
end
end Go.V
set_option linter.unusedVariables false
set_option linter.unusedSimpArgs false
namespace Go.V
open Go.RowKit
inductive cO where
 | skip
 | ops (l : List VOp)
 | draw (l : List DOp)
 | seq (a b : cO)
 | cond (c : Operand) (a b : cO)
 | block (id : Nat) (c : cO)
 | loop (c : cO)
 | exit (id : Nat)
 | ret
 | scope (l : Nat) (a b : cO)
 | goto (l : Nat)
def EW (C : Ctx) (c : Code) (Q : Exit → St → Prop) (s : St) : Prop := ∀ β a w, R C s β a w → c.wp C.P (fun e a' w' => ∃ s' β', R C s' β' a' w' ∧ Q e s') a w
def vV (P : Program) (nt : Nat) (ops : Array Oper) : List Oper → Option (List VOp)
 | [] => some []
 | o :: l => (Ej P nt ops o).bind fun v => (vV P nt ops l).map (v :: ·)
def iJ (P : Program) (nt : Nat) : Code → Option cO
 | .skip => some .skip
 | .region _ ops draw => if draw then (if P.follows .mixedOrders && H8 ops && Region.noSelect ops then (xH P nt ops ops.toList).map .draw else none) else (vV P nt ops ops.toList).map .ops
 | .seq a b => (iJ P nt a).bind fun x => (iJ P nt b).map fun y => .seq x y
 | .cond c a b => (iJ P nt a).bind fun x => (iJ P nt b).map fun y => .cond c x y
 | .block id c => (iJ P nt c).map fun x => .block id x
 | .loop c => (iJ P nt c).map fun x => .loop x
 | .exit id => some (.exit id)
 | .ret => some .ret
 | .scope (.seq a (.seq (.label l) b)) => match findLabel a l with
  | none => (iJ P nt a).bind fun x => (iJ P nt b).map fun y => .scope l x y
  | some _ => none
 | .goto l => some (.goto l)
 | _ => none
def EV (C : Ctx) (v : cO) (Q : Exit → St → Prop) (s : St) : Prop := ∀ c, iJ C.P C.nt c = some v → EW C c Q s
theorem DX {P : Program} {nt : Nat} {ops : Array Oper} : ∀ {l : List Oper} {vs : List VOp}, vV P nt ops l = some vs → vs.length = l.length ∧ ∀ (k : Nat) (o : Oper) (v : VOp), l[k]? = some o → vs[k]? = some v → O9 P nt ops o v
 | [], vs, h => by simp [vV] at h; subst h; simp
 | o :: l, vs, h => by
  simp only [vV] at h
  obtain ⟨v, hv, h⟩ := Option.bind_eq_some_iff.1 h
  obtain ⟨vs', hvs, rfl⟩ := Option.map_eq_some_iff.1 h
  obtain ⟨h1, h2⟩ := DX hvs
  refine ⟨by simp [h1], fun k o' v' h3 h4 => ?_⟩
  cases k with
  | zero => simp at h3 h4; subst h3; subst h4; exact TR hv
  | succ k => exact h2 k o' v' (by simpa using h3) (by simpa using h4)
def zV (K : St → Prop) (Q : Exit → St → Prop) : Exit → St → Prop
 | .normal, s => K s
 | e, s => Q e s
def aaX (l : Nat) (K : St → Prop) (Q : Exit → St → Prop) : Exit → St → Prop
 | .goto l', s => l' = l ∧ K s
 | e, s => Q e s
def ada (K : St → Prop) (Q : Exit → St → Prop) : Exit → St → Prop
 | .normal, s => K s
 | .goto _, _ => False
 | e, s => Q e s
def zD (id : Nat) (Q : Exit → St → Prop) : Exit → St → Prop
 | .exit id', s => bif (id' == id) then Q .normal s else Q (.exit id') s
 | e, s => Q e s
def adb (P : Program) (nt : Nat) (c : Code) : cO → Prop
 | .skip => c = .skip
 | .ops l => ∃ id ops, c = .region id ops false ∧ vV P nt ops ops.toList = some l
 | .draw l => ∃ id ops, c = .region id ops true ∧ xH P nt ops ops.toList = some l ∧ P.follows .mixedOrders = true ∧ H8 ops = true ∧ Region.noSelect ops = true
 | .seq x y => ∃ a b, c = .seq a b ∧ iJ P nt a = some x ∧ iJ P nt b = some y
 | .cond o x y => ∃ a b, c = .cond o a b ∧ iJ P nt a = some x ∧ iJ P nt b = some y
 | .block id x => ∃ a, c = .block id a ∧ iJ P nt a = some x
 | .loop x => ∃ a, c = .loop a ∧ iJ P nt a = some x
 | .exit id => c = .exit id
 | .ret => c = .ret
 | .scope l x y => ∃ a b, c = .scope (.seq a (.seq (.label l) b)) ∧ findLabel a l = none ∧ iJ P nt a = some x ∧ iJ P nt b = some y
 | .goto l => c = .goto l
theorem rV {P : Program} {nt : Nat} {c : Code} {v : cO} (h : iJ P nt c = some v) : adb P nt c v := by
 cases c with
 | skip => simp only [iJ] at h; injection h with h; subst h; rfl
 | region id ops draw =>
  simp only [iJ] at h
  split at h
  ·rename_i hd
   subst hd
   split at h
   ·rename_i hb
    simp only [Bool.and_eq_true] at hb
    obtain ⟨l, hl, rfl⟩ := Option.map_eq_some_iff.1 h
    exact ⟨id, ops, rfl, hl, hb.1.1, hb.1.2, hb.2⟩
   ·cases h
  ·rename_i hd
   obtain ⟨l, hl, rfl⟩ := Option.map_eq_some_iff.1 h
   obtain rfl : draw = false := by simpa using hd
   exact ⟨id, ops, rfl, hl⟩
 | seq a b =>
  simp only [iJ, Option.bind_eq_some_iff, Option.map_eq_some_iff] at h
  obtain ⟨x, hx, y, hy, rfl⟩ := h
  exact ⟨a, b, rfl, hx, hy⟩
 | cond o a b =>
  simp only [iJ, Option.bind_eq_some_iff, Option.map_eq_some_iff] at h
  obtain ⟨x, hx, y, hy, rfl⟩ := h
  exact ⟨a, b, rfl, hx, hy⟩
 | block id a =>
  simp only [iJ, Option.map_eq_some_iff] at h
  obtain ⟨x, hx, rfl⟩ := h
  exact ⟨a, rfl, hx⟩
 | loop a =>
  simp only [iJ, Option.map_eq_some_iff] at h
  obtain ⟨x, hx, rfl⟩ := h
  exact ⟨a, rfl, hx⟩
 | exit id => simp only [iJ] at h; injection h with h; subst h; rfl
 | ret => simp only [iJ] at h; injection h with h; subst h; rfl
 | goto l => simp only [iJ] at h; injection h with h; subst h; rfl
 | scope b =>
  unfold iJ at h
  split at h
  all_goals first | (cases h; done) | skip
  all_goals first | (rename_i he; cases he; done) | skip
  rename_i a l b' he
  cases he
  split at h
  ·rename_i hf
   simp only [Option.bind_eq_some_iff, Option.map_eq_some_iff] at h
   obtain ⟨x, hx, y, hy, rfl⟩ := h
   exact ⟨a, b', rfl, hf, hx, hy⟩
  ·cases h
 | _ => simp [iJ] at h
section
variable {C : Ctx} {s : St} {Q : Exit → St → Prop}
theorem bf (h : Q .normal s) : EV C .skip Q s := by
 intro c hc
 obtain rfl := rV hc
 exact fun β a w hR => wp_skip ⟨s, β, hR, h⟩
theorem bD (h : Q .ret s) : EV C .ret Q s := by
 intro c hc
 obtain rfl := rV hc
 exact fun β a w hR => wp_ret ⟨s, β, hR, h⟩
theorem QK {l : Nat} (h : Q (.goto l) s) : EV C (.goto l) Q s := by
 intro c hc
 obtain rfl := rV hc
 exact fun β a w hR => wp_goto ⟨s, β, hR, h⟩
theorem gy {id : Nat} (h : Q (.exit id) s) : EV C (.exit id) Q s := by
 intro c hc
 obtain rfl := rV hc
 exact fun β a w hR => wp_exit ⟨s, β, hR, h⟩
theorem dO {l : List VOp} (h : WL C l s (Q .normal)) : EV C (.ops l) Q s := by
 intro c hc
 obtain ⟨id, ops, rfl, hl⟩ := rV hc
 obtain ⟨h1, h2⟩ := DX hl
 refine fun β a w hR => wp_region (h ops (List.range ops.size) (by simp [h1]) (fun k i v hk hv => ?_) β a w hR _ fun s' β' a' w' hs hR' => ⟨s', β', hR', hs⟩)
 have hlt : k < ops.size := by have := (List.getElem?_eq_some_iff.1 hk).1; simpa using this
 have hik : i = k := by
  rw [List.getElem?_range hlt] at hk
  injection hk with hk
  exact hk.symm
 subst hik
 have ho : ops.toList[i]? = some ops[i] := by simp [hlt]
 exact ⟨ops[i], by simp [hlt], h2 i ops[i] v ho hv⟩
theorem ig {l : List DOp} (qs : List Nat) (h : XW C l qs true (List.replicate l.length false) s (Q .normal)) : EV C (.draw l) Q s := by
 intro c hc
 obtain ⟨id, ops, rfl, hl, hm, hap, hns⟩ := rV hc
 obtain ⟨h1, h2⟩ := EX hl
 intro β a w hR
 have hk : Kept (fun _ => False) w { w with drawn := w.drawn + 1 } := ⟨rfl, rfl, rfl, Nat.le_refl _, fun _ _ _ => rfl, fun b cur ety hh => ⟨cur, hh, rfl⟩⟩
 have hR' : R C s β a { w with drawn := w.drawn + 1 } := by
  have hx : Ext (C.I s.st β w) (C.I s.st β { w with drawn := w.drawn + 1 }) s.st s.st β β w { w with drawn := w.drawn + 1 } :=
   ⟨fun _ h => h, fun _ _ => rfl, fun _ h => ⟨h, rfl⟩, fun _ _ _ _ cur ety hh => ⟨cur, hh, rfl⟩⟩
  exact ⟨⟨⟨hR.ok.kept.os, hR.ok.kept.tape, hR.ok.kept.output, hR.ok.kept.size, hR.ok.kept.block, hR.ok.kept.shape⟩, fun r g hg => by
   have := hR.ok.store r g hg
   refine ⟨this.1, ?_⟩
   have h3 := this.2
   cases hb : β r with
   | none => rw [hb] at h3; exact h3
   | some b =>
    rw [hb] at h3
    obtain ⟨cur, ety, h4, h5, h6⟩ := h3
    exact ⟨cur, ety, h4, h5, fun j t hj => by obtain ⟨u, h7, h8⟩ := h6 j t hj; exact ⟨u, h7, jc.ext hx h8⟩⟩, hR.ok.inj, hR.ok.uX, hR.ok.yO⟩, hR.defers, hR.size, fun i => iy.ext hx (hR.env i)⟩
 have hrel : aaD C ops l := by
  refine ⟨by simpa using h1.symm, fun k o v hk hv => h2 k o v (by simpa using hk) hv, hap, Region.noSelect_spec hns⟩
 have hX := h (by simp) ops hrel (fun j oj _ hl => by
  rw [Array.getD_eq_getD_getElem?, List.getElem?_toArray] at hl
  cases hj : (List.replicate l.length false)[j]? with
  | none => rw [hj] at hl; cases hl
  | some b =>
   have := (List.mem_replicate.1 (List.mem_of_getElem? hj)).2
   rw [hj] at hl; subst this; cases hl) β a _ hR' _ (fun _ => rfl) (fun e a' w' => match e with | .normal => ∃ s' β', R C s' β' a' w' ∧ Q .normal s' | _ => False) (fun c a w h => h) (fun s' β' a' w' hs hR => ⟨s', β', hR, hs⟩) ops.size
  (by rw [hrel.size]; simp)
 have hrep : (List.replicate l.length false).toArray = Array.replicate ops.size false := by rw [hrel.size]; simp
 rw [hrep] at hX
 refine wp_mono (wp_region_any hm (TS _ _ _ _ hX)) ?_
 rintro e a' w' hq
 cases e with
 | normal => exact hq
 | _ => exact hq.elim
theorem bG {x y : cO} (h : EV C x (zV (EV C y Q) Q) s) : EV C (.seq x y) Q s := by
 intro c hc
 obtain ⟨a, b, rfl, ha, hb⟩ := rV hc
 intro β ac w hR
 refine wp_seq (wp_mono (h a ha β ac w hR) ?_)
 rintro e a' w' ⟨s', β', hR', hq⟩
 cases e with
 | normal => exact hq b hb β' a' w' hR'
 | _ => exact ⟨s', β', hR', hq⟩
theorem FC {o : Operand} {x y : cO} {b : Bool} (ho : s.ev o = .one (.v (.bool b))) (h1 : b = true → EV C x Q s) (h2 : b = false → EV C y Q s) : EV C (.cond o x y) Q s := by
 intro c hc
 obtain ⟨ca, cb, rfl, ha, hb⟩ := rV hc
 intro β ac w hR
 have hv := (ho ▸ hR.ev o).plain
 refine wp_cond hv ?_
 cases b
 ·exact h2 rfl cb hb β ac w hR
 ·exact h1 rfl ca ha β ac w hR
theorem bT {id : Nat} {x : cO} (h : EV C x (zD id Q) s) : EV C (.block id x) Q s := by
 intro c hc
 obtain ⟨a, rfl, ha⟩ := rV hc
 intro β ac w hR
 refine wp_block (wp_mono (h a ha β ac w hR) ?_)
 rintro e a' w' ⟨s', β', hR', hq⟩
 cases e with
 | exit id' =>
  simp only [zD] at hq
  simp only [Exit.inBlock]
  split
  ·rename_i he; subst he; simp only [beq_self_eq_true, cond_true] at hq; exact ⟨s', β', hR', hq⟩
  ·rename_i he; rw [vS he, cond_false] at hq; exact ⟨s', β', hR', hq⟩
 | _ => exact ⟨s', β', hR', hq⟩
def Le (s s' : St) : Prop := ∀ (C : Ctx) β a w, R C s β a w → R C s' β a w
theorem acp {x : cO} {Q' : Exit → St → Prop} (h : EV C x Q' s) (hq : ∀ e s, Q' e s → Q e s) : EV C x Q s :=
 fun c hc β a w hR => wp_mono (h c hc β a w hR) fun e a' w' ⟨s', β', hR', h'⟩ => ⟨s', β', hR', hq e s' h'⟩
end
def Wq (e : Env) : Env → Prop
 | [] => True
 | (i, x) :: l => (jT e i = x) ∧ Wq e l
def l9 (st : Store) : Store → Prop
 | [] => True
 | (r, g) :: l => (dH st r = some g) ∧ l9 st l
theorem Pg {e : Env} : ∀ {l : Env}, Wq e l → ∀ i, jT l i = jT e i ∨ jT l i = .one .dead
 | [], _, i => .inr rfl
 | (k, x) :: l, h, i => by
  simp only [jT]
  cases hb : (k == i) with
  | true =>
   have : k = i := eq_of_beq hb
   subst this
   exact .inl h.1.symm
  | false => exact Pg h.2 i
theorem H9 {st : Store} : ∀ {l : Store}, l9 st l → ∀ r g, dH l r = some g → dH st r = some g
 | [], _, r, g, h => by cases h
 | (k, x) :: l, h, r, g, hg => by
  simp only [dH] at hg
  cases hb : (k == r) with
  | true =>
   have : k = r := eq_of_beq hb
   subst this
   rw [hb] at hg; injection hg with hg; subst hg
   exact h.1
  | false => rw [hb] at hg; exact H9 h.2 r g hg
theorem ade {s s' : St} (h1 : Wq s.env s'.env) (h2 : l9 s.st s'.st) : Le s s' := by
 intro C β a w hR
 have hR1 := hR.drop (st' := s'.st) (H9 h2)
 refine ⟨hR1.ok, hR1.defers, hR1.size, fun i => ?_⟩
 rcases Pg h1 i with h | h
 ·rw [h]; exact hR1.env i
 ·rw [h]; exact .one trivial
inductive RV where
 | tmp (t : Nat)
 | cell (agg : Bool) (n t : Nat)
def oN (P : Program) : List ResultVar → Option (List RV)
 | [] => some []
 | .tmp t :: l => (oN P l).map (.tmp t :: ·)
 | .cell t ty :: l => (szP P ty).bind fun n => (sU P ty).bind fun ag => if ag = false ∧ n ≠ 1 then none else (oN P l).map (.cell ag n t :: ·)
def NM (s : St) : List RV → List S → Prop
 | [], xs => xs = []
 | .tmp t :: l, xs => ∃ ys, xs = jT s.env t :: ys ∧ NM s l ys
 | .cell true n t :: l, xs => ∃ ts ys, At s (jT s.env t) ts ∧ ts.length = n ∧ xs = .agg ts :: ys ∧ NM s l ys
 | .cell false n t :: l, xs => ∃ u ys, At s (jT s.env t) [u] ∧ xs = .one u :: ys ∧ NM s l ys
def NP : List S → S
 | [x] => x
 | xs => .tup xs
def AC (P : Program) (f : FuncId) (args : List S) (st : Store) (Q : S → Store → Prop) : Prop :=
 ∀ (w : World) (E I0 : Nat → Prop) (i0 : ∀ b, I0 b → b < w.heap.size ∧ ¬ E b) (fix : Nat → Option (Option Nat)) (fx : ∀ r, Nat.blt r 100000 = true → fix r = none) (β : Nat → Option Nat) (vs : Array Value),
  let C : Ctx := ⟨P, 0, E, w, I0, i0, fix, fx⟩
  Cj C st β w → vs.size = args.length → (∀ (i : Nat) (x : S) (v : Value), args[i]? = some x → vs[i]? = some v → iy w st β (C.I st β w) x v) →
  Calls P f vs w (fun e w' => ∃ v x st' β', e = .returned v ∧ Cj C st' β' w' ∧ iy w' st' β' (C.I st' β' w') x v ∧ Q x st')
def enum : Nat → List S → Env
 | _, [] => []
 | i, x :: l => (i, x) :: enum (i + 1) l
theorem IL : ∀ (l : List S) (k i : Nat), jT (enum k l) i = if k ≤ i then (l[i - k]?).getD (.one .dead) else .one .dead
 | [], k, i => by simp [enum, jT]
 | x :: l, k, i => by
  simp only [enum, jT]
  cases hb : (k == i) with
  | true =>
   have : k = i := eq_of_beq hb
   subst this
   simp
  | false =>
   have hne : k ≠ i := fun e => by subst e; simp at hb
   rw [cond_false, IL l (k + 1) i]
   by_cases h : k ≤ i
   ·rw [if_pos h, if_pos (by omega)]
    have : i - k = (i - (k + 1)) + 1 := by omega
    rw [this, List.getElem?_cons_succ]
   ·rw [if_neg h, if_neg (by omega)]
def resV (tmps : Array Value) : ResultVar → Sem Value
 | .tmp t => pure (tmps.getD t undef)
 | .cell p t => do loadVar t (← asAddr (tmps.getD p undef))
theorem QT {P : Program} {w : World} (tmps : Array Value) (t : Nat) : (resV tmps (.tmp t)).run P w = .ok (tmps.getD t undef) w := rfl
theorem Kw {C : Ctx} {s : St} {β : Nat → Option Nat} {a : Act} {w : World} (hR : R C s β a w) : ∀ {l : List ResultVar} {rs : List RV} {xs : List S}, oN C.P l = some rs → NM s rs xs →
  ∃ vs : List Value, (l.mapM (resV a.tmps)).run C.P w = .ok vs w ∧ vs.length = xs.length ∧
   ∀ (i : Nat) (x : S) (v : Value), xs[i]? = some x → vs[i]? = some v → iy w s.st β (C.I s.st β w) x v
 | [], rs, xs, hc, hx => by
  simp only [oN] at hc; injection hc with hc; subst hc
  simp only [NM] at hx; subst hx
  exact ⟨[], rfl, rfl, fun i x v h => by simp at h⟩
 | .tmp t :: l, rs, xs, hc, hx => by
  simp only [oN] at hc
  obtain ⟨rs', hc', rfl⟩ := Option.map_eq_some_iff.1 hc
  obtain ⟨ys, rfl, hy⟩ := hx
  obtain ⟨vs, h1, h2, h3⟩ := Kw hR hc' hy
  refine ⟨a.tmps.getD t undef :: vs, by simp only [List.mapM_cons, Sem.run_bind, QT, Sem.run_pure, Result.andThen_ok, h1], by simp [h2], fun i x v hi hv => ?_⟩
  cases i with
  | zero =>
   simp only [List.getElem?_cons_zero, Option.some.injEq] at hi hv
   subst hi; subst hv; exact hR.env t
  | succ i => exact h3 i x v (by simpa using hi) (by simpa using hv)
 | .cell p ty :: l, rs, xs, hc, hx => by
  simp only [oN] at hc
  obtain ⟨n, hn, hc⟩ := Option.bind_eq_some_iff.1 hc
  obtain ⟨ag, hag, hc⟩ := Option.bind_eq_some_iff.1 hc
  split at hc
  ·cases hc
  ·rename_i h01
   obtain ⟨rs', hc', rfl⟩ := Option.map_eq_some_iff.1 hc
   cases ag with
   | true =>
    obtain ⟨ts, ys, hat, hts, rfl, hy⟩ := hx
    obtain ⟨vs, h1, h2, h3⟩ := Kw hR hc' hy
    obtain ⟨b, off, hu, hcl⟩ := hat.cells hR (hR.env p)
    obtain ⟨us, h4', h5, h6⟩ := hcl.load (P := C.P)
    have h4 := h4' w (Kept.refl _ _)
    subst hts
    have hrv : (resV a.tmps (.cell p ty)).run C.P w = .ok (.agg us) w := by
     simp only [resV, Sem.run_bind, hu, asAddr, Sem.run_pure, Result.andThen_ok, loadVar, Ah hag, nX hn, if_true, h4]
    refine ⟨.agg us :: vs, by simp only [List.mapM_cons, Sem.run_bind, hrv, Sem.run_pure, Result.andThen_ok, h1], by simp [h2], fun i x v hi hv => ?_⟩
    cases i with
    | zero => simp at hi hv; subst hi; subst hv; exact .agg h5 h6
    | succ i => exact h3 i x v (by simpa using hi) (by simpa using hv)
   | false =>
    obtain ⟨t, ys, hat, rfl, hy⟩ := hx
    obtain ⟨vs, h1, h2, h3⟩ := Kw hR hc' hy
    obtain ⟨b, off, hu, hcl⟩ := hat.cells hR (hR.env p)
    obtain ⟨u, h4, h5⟩ := hcl 0 t rfl
    rw [Nat.add_zero] at h4
    have hrv : (resV a.tmps (.cell p ty)).run C.P w = .ok u w := by
     simp only [resV, Sem.run_bind, hu, asAddr, Sem.run_pure, Result.andThen_ok, loadVar, Ah hag, Bool.false_eq_true, if_false, run_load, h4]
    refine ⟨u :: vs, by simp only [List.mapM_cons, Sem.run_bind, hrv, Sem.run_pure, Result.andThen_ok, h1], by simp [h2], fun i x v hi hv => ?_⟩
    cases i with
    | zero => simp at hi hv; subst hi; subst hv; exact .one h5
    | succ i => exact h3 i x v (by simpa using hi) (by simpa using hv)
def one1 : List Value → Value
 | [u] => u
 | us => .tuple us.toArray
theorem VD (fn : Func) (tmps : Array Value) : results fn tmps = (do let vs ← fn.results.mapM (resV tmps); pure (if h : vs.size = 1 then vs[0] else .tuple vs)) := by
 unfold results
 have : (fun x : ResultVar => match x with | .tmp t => (pure (tmps.getD t undef) : Sem Value) | .cell a t => do loadVar t (← asAddr (tmps.getD a undef))) = resV tmps := by
  funext x; cases x <;> rfl
 exact congrArg (fun f => (do let vs ← fn.results.mapM f; pure (if h : vs.size = 1 then vs[0] else .tuple vs) : Sem Value)) this
theorem JD {P : Program} {w : World} {fn : Func} {tmps : Array Value} {us : List Value} (h : (fn.results.toList.mapM (resV tmps)).run P w = .ok us w) : (results fn tmps).run P w = .ok (one1 us) w := by
 rw [VD, Array.mapM_eq_mapM_toList]
 simp only [map_eq_pure_bind, Sem.run_bind, h, Result.andThen_ok, Sem.run_pure]
 match us with
 | [] => rfl
 | [u] => rfl
 | u :: v :: us => simp [one1]
theorem XD {P : Program} {f : FuncId} {fn : Func} {c : Code} {vc : cO} {rs : List RV} {args : List S} {st : Store} {Q : S → Store → Prop} (hf : P.funcs[f]? = some fn) (hb : fn.body = some c)
  (hc : iJ P fn.ntmps c = some vc) (hrs : oN P fn.results.toList = some rs) (hn : args.length ≤ fn.ntmps)
  (h : ∀ C : Ctx, C.P = P → EV C vc (fun e s => (e = .normal ∨ e = .ret) ∧ ∃ xs, NM s rs xs ∧ Q (NP xs) s.st) ⟨enum 0 args, st⟩) : AC P f args st Q := by
 intro w E I0 i0 fix fx β vs C hok hsz hrel
 let C' : Ctx := ⟨P, fn.ntmps, E, w, I0, i0, fix, fx⟩
 have hok' : Cj C' st β w := ⟨hok.kept, hok.store, hok.inj, hok.uX, hok.yO⟩
 have hR : R C' ⟨enum 0 args, st⟩ β { tmps := vs ++ Array.replicate (fn.ntmps - vs.size) undef, defers := [] } w := by
  refine ⟨hok', rfl, ?_, fun i => ?_⟩
  ·show (vs ++ Array.replicate (fn.ntmps - vs.size) undef).size = fn.ntmps
   simp; omega
  show iy w st β (C.I st β w) (jT (enum 0 args) i) _
  rw [IL]
  simp only [Nat.zero_le, if_true, Nat.sub_zero]
  cases ha : args[i]? with
  | none => exact .one trivial
  | some x =>
   have hlt : i < vs.size := by
    have := (List.getElem?_eq_some_iff.1 ha).1
    omega
   have hg : (vs ++ Array.replicate (fn.ntmps - vs.size) undef).getD i undef = vs[i] := by
    simp [Array.getD_eq_getD_getElem?, Array.getElem?_append_left hlt, Array.getElem?_eq_getElem hlt]
   simp only [Option.getD_some]
   show iy _ _ _ _ _ ((vs ++ Array.replicate (fn.ntmps - vs.size) undef).getD i undef)
   rw [hg]
   exact hrel i x _ ha (Array.getElem?_eq_getElem hlt)
 refine calls_of_wp hf hb (wp_mono (h C' rfl c hc β _ w hR) ?_)
 rintro e a' w' ⟨s', β', hR', he, xs, hxs, hq⟩
 obtain ⟨us, h1, h2, h3⟩ := Kw hR' hrs hxs
 have hrun := JD (fn := fn) h1
 have aaY : iy w' s'.st β' (C.I s'.st β' w') (NP xs) (one1 us) := by
  match us, xs, h2, h3 with
  | [], [], _, h3 => exact .tup rfl (fun i s u h => by simp at h)
  | [u], [x], _, h3 => exact h3 0 x u rfl rfl
  | u :: v :: us, x :: y :: xs, h2, h3 => exact .tup (by simpa using h2) (fun i s u' hs hu => h3 i s u' hs (by simpa using hu))
 have hok2 : Cj C s'.st β' w' := ⟨hR'.ok.kept, hR'.ok.store, hR'.ok.inj, hR'.ok.uX, hR'.ok.yO⟩
 rcases he with rfl | rfl
 ·exact ⟨hR'.defers, _, hrun, _, _, _, _, rfl, hok2, aaY, hq⟩
 ·exact ⟨hR'.defers, _, hrun, _, _, _, _, rfl, hok2, aaY, hq⟩
def Fits (P : Program) (f : FuncId) (n : Nat) (vc : cO) (rs : List RV) : Prop :=
 ∃ fn c, P.funcs[f]? = some fn ∧ fn.body = some c ∧ iJ P fn.ntmps c = some vc ∧ oN P fn.results.toList = some rs ∧ n.ble fn.ntmps = true
theorem aaE {P : Program} {f : FuncId} {n : Nat} {vc : cO} {rs : List RV} {fn : Func} (hf : P.funcs[f]? = some fn) (h : (fn.body.bind (iJ P fn.ntmps)) = some vc) (hr : oN P fn.results.toList = some rs) (hn : n.ble fn.ntmps = true) : Fits P f n vc rs := by
 obtain ⟨c, hc, hv⟩ := Option.bind_eq_some_iff.1 h
 exact ⟨fn, c, hf, hc, hv, hr, hn⟩
theorem TU {P : Program} {f : FuncId} {n : Nat} {vc : cO} {rs : List RV} {args : List S} {st : Store} {Q : S → Store → Prop} (hf : Fits P f n vc rs) (hn : args.length = n)
  (h : ∀ C : Ctx, C.P = P → EV C vc (fun e s => (e = .normal ∨ e = .ret) ∧ ∃ xs, NM s rs xs ∧ Q (NP xs) s.st) ⟨enum 0 args, st⟩) : AC P f args st Q := by
 obtain ⟨fn, c, h1, h2, h3, h4, h5⟩ := hf
 exact XD h1 h2 h3 h4 (by rw [hn]; simpa [Nat.ble_eq] using h5) h
end Go.V
set_option linter.unusedVariables false
set_option linter.unusedSimpArgs false
namespace Go.V
open Go.RowKit
theorem R.later {C : Ctx} {s : St} {β : Nat → Option Nat} {a : Act} {w w' : World} (hR : R C s β a w) (hk : Kept (fun _ => False) w w') : R C s β a w' ∧ Ext (C.I s.st β w) (C.I s.st β w') s.st s.st β β w w' := by
 have hb : ∀ b, b < w.heap.size → w'.heap[b]? = w.heap[b]? := fun b hb => hk.block b hb (fun h => h)
 have hI : ∀ b, C.I s.st β w b → C.I s.st β w' b := by
  rintro b (h0 | ⟨h1, h2, h3⟩)
  ·exact .inl h0
  ·exact .inr ⟨h1, by have := hk.size; omega, h3⟩
 have hx : Ext (C.I s.st β w) (C.I s.st β w') s.st s.st β β w w' :=
  ⟨hI, fun b h => hb b (C.Hy hR.ok.kept h), fun r hr => ⟨hr, rfl⟩, fun r b hr hrb cur ety hh => ⟨cur, (hb b (hR.ok.lt hr hrb)).trans hh, rfl⟩⟩
 refine ⟨⟨⟨?_, ?_, hR.ok.inj, hR.ok.uX, hR.ok.yO⟩, hR.defers, hR.size, fun i => iy.ext hx (hR.env i)⟩, hx⟩
 ·have h0 := hR.ok.kept
  refine ⟨hk.os.trans h0.os, hk.tape.trans h0.tape, hk.output.trans h0.output, Nat.le_trans h0.size hk.size, fun b hlt hE => (hb b (by have := h0.size; omega)).trans (h0.block b hlt hE), fun b cur ety hh => ?_⟩
  obtain ⟨c1, h1, h2⟩ := h0.shape b cur ety hh
  exact ⟨c1, (hb b (Array.getElem?_eq_some_iff.1 h1).1).trans h1, h2⟩
 ·intro r g hg
  have := hR.ok.store r g hg
  refine ⟨this.1, ?_⟩
  have h2 := this.2
  cases hrb : β r with
  | none => rw [hrb] at h2; exact h2
  | some b =>
   rw [hrb] at h2
   obtain ⟨cur, ety, h3, h4, h5⟩ := h2
   refine ⟨cur, ety, (hb b (hR.ok.lt (by rw [hg]; rfl) hrb)).trans h3, h4, fun j t hj => ?_⟩
   obtain ⟨u, h6, h7⟩ := h5 j t hj
   exact ⟨u, h6, jc.ext hx h7⟩
def S.isPure : S → Bool
 | .one t => t.isPure
 | .agg ts => gG ts
 | .tup l => DV l
where DV : List S → Bool
 | [] => true
 | s :: l => S.isPure s && DV l
theorem S.xG {l : List S} (h : S.isPure.DV l = true) {i : Nat} {s : S} (hi : l[i]? = some s) : s.isPure = true := by
 induction l generalizing i with
 | nil => simp at hi
 | cons x l ih =>
  simp only [S.isPure.DV, Bool.and_eq_true] at h
  cases i with
  | zero => simp at hi; subst hi; exact h.1
  | succ i => exact ih h.2 (by simpa using hi)
theorem iy.pure {w : World} {st st' : Store} {β β' : Nat → Option Nat} {I I' : Nat → Prop} (hI : ∀ b, I b → I' b) {x : S} {u : Value} (h : iy w st β I x u) (hp : x.isPure = true) : iy w st' β' I' x u := by
 have ht : ∀ (t : T) (u : Value), jc w st β I t u → t.isPure = true → jc w st' β' I' t u := fun t u h hp => (Rep.mono (fun _ _ => rfl) hI (T.yI hp w st β I u h)).Ou
 induction h with
 | one h => exact .one (ht _ _ h hp)
 | agg hs h => exact .agg hs fun i t u h1 h2 => ht t u (h i t u h1 h2) (kK hp t (List.mem_of_getElem? h1))
 | tup hs h ih => exact .tup hs fun i s u h1 h2 => ih i s u h1 h2 (S.xG hp h1)
theorem Ai {P : Program} {w : World} {a : Act} {o : Oper} {f : FuncId} {args : Array Operand} {ats : Array TypeId} (ho : o.op = .call { callee := .value (.func f), args := args, argTypes := ats }) (hc : Ji P f = true) :
  (execOp a.eval o).run P w = .ok (.enter f (args.map a.eval)) w := by
 unfold Ji at hc
 cases hf : P.funcs[f]? with
 | none => rw [hf] at hc; cases hc
 | some fn =>
  rw [hf] at hc
  simp only [Bool.and_eq_true] at hc
  have h1 : fn.body.isNone = false := by
   cases h : fn.body with
   | none => rw [h] at hc; simp at hc
   | some _ => rfl
  have h2 : (fn.name == "runtime.NumGoroutine") = false := by simpa [bne] using hc.2
  have h3 : ¬ fn.name = "runtime.NumGoroutine" := by simpa using h2
  have h4 : fn.body ≠ none := by intro e; rw [e] at h1; cases h1
  simp [execOp, ho, resolve, Act.eval, Deferred.ofValue, invoke, callFunc, hf, h3, h4]
section
variable {C : Ctx} {s : St} {d : Option Nat}
theorem XB {f : FuncId} {xs : List Operand} {ps : List S} {Q : S → Prop} (hx : xs.map s.ev = ps) (hp : S.isPure.DV ps = true) (hAC : AC C.P f ps [] (fun x st' => Q x ∧ st' = [])) (hq' : ∀ x, Q x → x.isPure = true) :
  Does C (.call f xs) d s true (fun s' => ∃ x, Q x ∧ s' = s.put d x) := by
 intro o ho hd hn β a w hR next R' hK
 obtain ⟨args, ats, ho, rfl, hc⟩ := ho
 unfold Oper.wp
 rw [Ai ho hc, Oper.upon_enter]
 have h0 : ∀ b, C.I s.st β w b → b < w.heap.size ∧ ¬ False := fun b hb => ⟨C.Hy hR.ok.kept hb, fun h => h⟩
 refine (hAC w (fun _ => False) (C.I s.st β w) h0 (fun _ => none) (fun _ _ => rfl) (fun _ => none) (args.map a.eval) ⟨Kept.refl _ _, fun r g h => (by cases h), fun r r' b h => (by cases h), fun r b h => (by cases h), fun r b h => (by cases h)⟩ ?_ ?_).mono ?_
 ·subst hx; simp
 ·intro i x v h1 h2
  subst hx
  rw [List.getElem?_map] at h1
  obtain ⟨y, hy, rfl⟩ := Option.map_eq_some_iff.1 h1
  have hv : v = a.eval y := by
   rw [Array.getElem?_map] at h2
   have hy' : args[i]? = some y := by simpa using hy
   rw [hy'] at h2
   simpa using h2.symm
  subst hv
  have h3 : (args.toList.map s.ev)[i]? = some (s.ev y) := by rw [List.getElem?_map, hy]; rfl
  exact iy.pure (I := C.I s.st β w) (fun b hb => .inl hb) (hR.ev y) (S.xG hp h3)
 ·rintro e w' ⟨v, x, st', β', rfl, hok, hrel, hq, rfl⟩
  have hk : Kept (fun _ => False) w w' := hok.kept
  obtain ⟨hR', hx'⟩ := hR.later hk
  refine hK (s.put d x) β (a.put o.dst v) w' ⟨x, hq, rfl⟩ ?_ (fun _ => hk)
  rw [hd]
  refine hR'.rQ ?_ hn
  refine iy.pure (fun b hb => ?_) hrel (hq' x hq)
  rcases hb with h1 | ⟨h1 | h1, h2, _⟩
  ·exact hx'.imm b h1
  ·exact h1.elim
  ·refine .inr ⟨.inr (by have := hR.ok.kept.size; replace h1 : w.heap.size ≤ b := h1; omega), h2, fun r hr hrb => ?_⟩
   have := hR.ok.lt hr hrb
   replace h1 : w.heap.size ≤ b := h1
   omega
end
end Go.V
set_option linter.unusedVariables false
set_option linter.unusedSimpArgs false
namespace Go.V
open Go.RowKit
def Fin (rs : List RV) (Q : S → Store → Prop) : Exit → St → Prop := fun e s => (e = .normal ∨ e = .ret) ∧ ∃ xs, NM s rs xs ∧ Q (NP xs) s.st
theorem dN {rs : List RV} {Q : S → Store → Prop} {s : St} {xs : List S} (h : NM s rs xs) (hq : Q (NP xs) s.st) : Fin rs Q .ret s := ⟨.inr rfl, xs, h, hq⟩
theorem QG {rs : List RV} {Q : S → Store → Prop} {s : St} {xs : List S} (h : NM s rs xs) (hq : Q (NP xs) s.st) : Fin rs Q .normal s := ⟨.inl rfl, xs, h, hq⟩
theorem aaF {P : Program} {f : FuncId} {args : List S} {st : Store} {Q : S → Store → Prop} (h : AC P f args st Q) (hp : ∀ x st', Q x st' → x.isPure = true) : AC P f args st (fun x st' => (∃ st0, Q x st0) ∧ st' = []) := by
 intro w E I0 i0 fix fx β vs C hok hsz hrel
 refine (h w E I0 i0 fix fx β vs hok hsz hrel).mono ?_
 rintro e w' ⟨v, x, st', β', rfl, hok', hr, hq⟩
 refine ⟨v, x, [], β', rfl, ⟨hok'.kept, fun r g h => (by cases h), fun r r' b h => (by cases h), fun r b h => (by cases h), fun r b h => (by cases h)⟩, iy.pure (fun b hb => ?_) hr (hp x st' hq), ⟨st', hq⟩, rfl⟩
 rcases hb with h0 | ⟨h1, h2, _⟩
 ·exact .inl h0
 ·exact .inr ⟨h1, h2, fun r hr => by cases hr⟩
def PC (P : Program) (f : FuncId) (args : List S) (X : S) : Prop := AC P f args [] (fun x st' => x = X ∧ st' = [])
theorem eu {P : Program} {f : FuncId} {n : Nat} {vc : cO} {rs : List RV} {args : List S} {X : S} (hf : Fits P f n vc rs) (hn : args.length = n) (hX : X.isPure = true)
  (h : ∀ C : Ctx, C.P = P → EV C vc (Fin rs (fun x _ => x = X)) ⟨enum 0 args, []⟩) : PC P f args X := by
 have := aaF (TU (Q := fun x _ => x = X) hf hn h) (fun x _ hx => by subst hx; exact hX)
 intro w E I0 i0 fix fx β vs C hok hsz hrel
 refine (this w E I0 i0 fix fx β vs hok hsz hrel).mono ?_
 rintro e w' ⟨v, x, st', β', rfl, hok', hr, ⟨st0, hx⟩, hst⟩
 exact ⟨v, x, st', β', rfl, hok', hr, hx, hst⟩
def F5 : List Nat → Nat → Bool
 | [], _ => false
 | a :: l, k => bif a == k then true else F5 l k
def NQ : List Nat → Nat → List Nat
 | [], _ => []
 | a :: l, k => bif a == k then l else a :: NQ l k
theorem TV {l : List Nat} {j k : Nat} (h : F5 l k = false) : F5 (NQ l j) k = false := by
 induction l with
 | nil => rfl
 | cons a l ih =>
  simp only [F5] at h
  cases ha : a == k with
  | true => rw [ha] at h; cases h
  | false =>
   rw [ha] at h
   simp only [NQ]
   cases a == j
   ·simp only [cond_false, F5, ha]; exact ih h
   ·exact h
def BL (ks : List Nat) : Env → Env
 | [] => []
 | (i, x) :: l => bif F5 ks i then (i, x) :: BL (NQ ks i) l else BL ks l
theorem XE (e : Env) (ks : List Nat) (i : Nat) : jT (BL ks e) i = jT e i ∨ jT (BL ks e) i = .one .dead := by
 induction e generalizing ks with
 | nil => exact .inr rfl
 | cons p l ih =>
  obtain ⟨k, x⟩ := p
  simp only [BL]
  cases hk : F5 ks k with
  | true =>
   simp only [cond_true, jT]
   cases hb : k == i with
   | true => exact .inl rfl
   | false => exact ih _
  | false =>
   simp only [cond_false, jT]
   cases hb : k == i with
   | true =>
    have hki : k = i := eq_of_beq hb
    subst hki
    refine .inr ?_
    clear ih
    have : ∀ (l : Env) (ks : List Nat), F5 ks k = false → jT (BL ks l) k = .one .dead := by
     intro l
     induction l with
     | nil => intro ks _; rfl
     | cons q l ih =>
      intro ks hks
      obtain ⟨j, y⟩ := q
      simp only [BL]
      cases hj : F5 ks j with
      | true =>
       have hjk : (j == k) = false := by
        cases hjk : j == k with
        | false => rfl
        | true => have := eq_of_beq hjk; subst this; rw [hj] at hks; cases hks
       simp only [cond_true, jT, hjk, cond_false]
       exact ih _ (TV hks)
      | false => simp only [cond_false]; exact ih ks hks
    exact this l ks hk
   | false => exact ih _
def aaZ (ks : List Nat) (s : St) : St := ⟨BL ks s.env, s.st⟩
theorem R.keep {C : Ctx} {s : St} {β : Nat → Option Nat} {a : Act} {w : World} (ks : List Nat) (hR : R C s β a w) : R C (aaZ ks s) β a w :=
 ⟨hR.ok, hR.defers, hR.size, fun i => by
  rcases XE s.env ks i with h | h
  ·show iy w s.st β _ (jT (BL ks s.env) i) _; rw [h]; exact hR.env i
  ·show iy w s.st β _ (jT (BL ks s.env) i) _; rw [h]; exact .one trivial⟩
def keepR (rs : List Nat) : Store → Store
 | [] => []
 | (r, g) :: l => bif F5 rs r then (r, g) :: keepR rs l else keepR rs l
theorem IQ (rs : List Nat) : ∀ (st : Store) (r : Nat) (g : Reg), dH (keepR rs st) r = some g → dH st r = some g ∨ F5 rs r = false
 | [], r, g, h => by cases h
 | (k, x) :: l, r, g, h => by
  simp only [keepR] at h
  cases hk : F5 rs k with
  | true =>
   rw [hk] at h
   simp only [cond_true, dH] at h ⊢
   cases hb : k == r with
   | true => rw [hb] at h; exact .inl h
   | false => rw [hb] at h; exact IQ rs l r g h
  | false =>
   rw [hk] at h
   simp only [cond_false] at h
   simp only [dH]
   cases hb : k == r with
   | true => have := eq_of_beq hb; subst this; exact .inr hk
   | false => exact IQ rs l r g h
theorem F6 (rs : List Nat) : ∀ (st : Store) (r : Nat), F5 rs r = false → dH (keepR rs st) r = none
 | [], r, _ => rfl
 | (k, x) :: l, r, h => by
  simp only [keepR]
  cases hk : F5 rs k with
  | true =>
   simp only [cond_true, dH]
   cases hb : k == r with
   | true => have := eq_of_beq hb; subst this; rw [hk] at h; cases h
   | false => exact F6 rs l r h
  | false => exact F6 rs l r h
theorem R.keepR {C : Ctx} {s : St} {β : Nat → Option Nat} {a : Act} {w : World} (rs : List Nat) (hR : R C s β a w) : R C ⟨s.env, keepR rs s.st⟩ β a w :=
 hR.drop fun r g h => by
  rcases IQ rs s.st r g h with h1 | h1
  ·exact h1
  ·rw [F6 rs s.st r h1] at h; cases h
def ZF (ks rs : List Nat) (s : St) : St := ⟨BL ks s.env, keepR rs s.st⟩
theorem aX (ks rs : List Nat) {C : Ctx} {v : cO} {Q : Exit → St → Prop} {s : St} (h : EV C v Q (ZF ks rs s)) : EV C v Q s :=
 fun c hc β a w hR => h c hc β a w ((hR.keepR rs).keep ks)
section
variable {C : Ctx} {s : St} {K : St → Prop} {l : List VOp} {d : Option Nat}
theorem yu {P : Program} {f : FuncId} {xs : List Operand} {ps : List S} {X : S} (hP : C.P = P) (hAC : PC P f ps X) (hx : xs.map s.ev = ps) (hp : S.isPure.DV ps = true) (hX : X.isPure = true) :
  Does C (.call f xs) d s true (· = s.put d X) := by
 subst hP
 intro o ho hd hn β a w hR next R' hK
 exact XB hx hp hAC (fun x hx => by subst hx; exact hX) o ho hd hn β a w hR next R' (fun s' β' a' w' ⟨x, hx, hs'⟩ => hK s' β' a' w' (by rw [hs', hx]))
theorem iM {i : VI} {gd : Nat} {want b k : Bool} {x : S} (hg : jT s.env gd = .one (.v (.bool b))) (h1 : b = want → Does C i d s k (· = s.put d x)) (h2 : WL C l (s.put d (bif b == want then x else .tup [])) K) : WL C (⟨i, d, some (some gd, want)⟩ :: l) s K :=
 Pe (b == want) (fun ops o hgd β a w hR => by
  obtain ⟨j, hj, hw⟩ := rU hgd (yielded ops a.tmps)
  rw [hw, uh hR hj hg]
  simp) (fun h => ⟨_, _, h1 (by simpa using h), fun s' hs' => by subst hs'; rw [h] at h2; exact h2⟩) (fun h => by rw [h] at h2; exact h2)
theorem ZG {c x y : Operand} {b u : Bool} (hc : s.ev c = .one (.v (.bool b))) (hx : s.ev x = bif b == true then .one (.v (.bool u)) else .tup []) (hy : s.ev y = .one (.v (.bool false))) : Quiet C (.pick c x y) s (.one (.v (.bool (b && u)))) := by
 have := Ei (C := C) hc hx hy
 cases b <;> exact this
theorem aaG {c x y : Operand} {b u : Bool} (hc : s.ev c = .one (.v (.bool b))) (hx : s.ev x = .one (.v (.bool true))) (hy : s.ev y = bif b == false then .one (.v (.bool u)) else .tup []) : Quiet C (.pick c x y) s (.one (.v (.bool (b || u)))) := by
 have := Ei (C := C) hc hx hy
 cases b <;> exact this
end
section
variable {C : Ctx} {l : List DOp} {qs : List Nat} {z : Bool} {done : List Bool} {s : St} {K : St → Prop}
theorem X1 {i : Nat} (hr : yJ l done = [i]) (h : DW C l qs z done s K i) : XW C l qs z done s K :=
 VB hr (by simp) fun j hj => by
  have : j = i := by simpa using hj
  subst this; exact h
theorem X2 {i j : Nat} (hr : yJ l done = [i, j]) (h1 : DW C l qs z done s K i) (h2 : DW C l qs z done s K j) : XW C l qs z done s K :=
 VB hr (by simp) fun k hk => by
  have : k = i ∨ k = j := by simpa using hk
  rcases this with rfl | rfl
  ·exact h1
  ·exact h2
theorem XK {i : Nat} {vi : VI} {d : Option Nat} {ws : List Nat} {s' : St} (hv : l[i]? = some (⟨vi, d, none⟩, ws)) (hx : Does C vi d s true (· = s')) (h : XW C l qs true (done.set i true) s' K) : DW C l qs true done s K i :=
 XS hv hx (fun _ => ⟨rfl, rfl⟩) fun _ hs => hs ▸ h
theorem XT {i : Nat} {vi : VI} {d : Option Nat} {ws : List Nat} {k : Bool} {s' : St} (hv : l[i]? = some (⟨vi, d, none⟩, ws)) (hl : IK l qs done i = false) (hx : Does C vi d s k (· = s')) (h : XW C l qs (z && k) (done.set i true) s' K) : DW C l qs z done s K i :=
 XS hv hx (fun h => by rw [hl] at h; cases h) fun _ hs => hs ▸ h
theorem AB {i : Nat} {vi : VI} {d : Option Nat} {gd : Nat} {want b : Bool} {ws : List Nat} {x : S} (hv : l[i]? = some (⟨vi, d, some (some gd, want)⟩, ws)) (hg : jT s.env gd = .one (.v (.bool b))) (hx : b = want → Does C vi d s true (· = s.put d x))
  (h : XW C l qs true (done.set i true) (s.put d (bif b == want then x else .tup [])) K) : DW C l qs true done s K i :=
 ⟨_, ws, hv, b == want, fun ops o hgd β a w hR => by
  obtain ⟨j, hj, hw⟩ := rU hgd (yielded ops a.tmps)
  rw [hw, uh hR hj hg]
  simp, fun hb => ⟨true, _, hx (by simpa using hb), fun _ => ⟨rfl, rfl⟩, fun s' hs' => by subst hs'; rw [hb] at h; exact h⟩, fun hb => ⟨fun _ => rfl, by rw [hb] at h; exact h⟩⟩
end
theorem lN {P : Program} {f : FuncId} {n : Nat} {vc : cO} {rs : List RV} {args : List S} {st : Store} {Q : S → Store → Prop} (hf : Fits P f n vc rs) (hn : args.length = n)
  (h : ∀ C : Ctx, C.P = P → EV C vc (Fin rs Q) ⟨enum 0 args, st⟩) : AC P f args st Q := TU hf hn h
theorem uQ {s : St} {r : Nat} {g : Reg} (hg : dH s.st r = some g) (hn : g.cs ≠ []) : At s (.one (.ptr r 0)) g.cs := .ptr hg (fun j t h => by simpa using h) hn
abbrev ti (n : Int) : T := .v (.int .i64 n)
abbrev tu (n : Int) : T := .v (.int .u64 n)
abbrev tb (b : Bool) : T := .v (.bool b)
abbrev si (n : Int) : S := .one (.v (.int .i64 n))
abbrev su (n : Int) : S := .one (.v (.int .u64 n))
abbrev sb (b : Bool) : S := .one (.v (.bool b))
attribute [simp] wJ zF zh uF kR NG DT uF.DU T.has T.isPure gG F5 NQ St.put aci St.ev jT ofConst kQ enum BL keepR ZF aaZ dH sset yN splice S.cells
end Go.V
set_option linter.unusedVariables false
set_option linter.unusedSimpArgs false
namespace Go.V
open Go.RowKit
def oZ (f : T → T) : S → S
 | .one t => .one (f t)
 | .agg ts => .agg (ts.map f)
 | .tup l => .tup (QU f l)
where QU (f : T → T) : List S → List S
 | [] => []
 | s :: l => oZ f s :: QU f l
def IU (f : T → T) : Env → Env
 | [] => []
 | (i, x) :: l => (i, oZ f x) :: IU f l
theorem DY (f : T → T) : ∀ (l : List S) (i : Nat), (oZ.QU f l)[i]? = (l[i]?).map (oZ f)
 | [], i => by simp [oZ.QU]
 | s :: l, 0 => by simp [oZ.QU]
 | s :: l, i + 1 => by simp [oZ.QU, DY f l i]
theorem DZ (f : T → T) : ∀ (l : List S), (oZ.QU f l).length = l.length
 | [] => rfl
 | s :: l => by simp [oZ.QU, DZ f l]
theorem IV (f : T → T) (hf : f .dead = .dead) : ∀ (e : Env) (i : Nat), jT (IU f e) i = oZ f (jT e i)
 | [], i => by simp [IU, jT, oZ, hf]
 | (k, x) :: l, i => by
  simp only [IU, jT]
  cases k == i
  ·exact IV f hf l i
  ·rfl
theorem iy.map {w w' : World} {st st' : Store} {β β' : Nat → Option Nat} {I I' : Nat → Prop} {f : T → T} (hf : ∀ t u, jc w st β I t u → jc w' st' β' I' (f t) u) {s : S} {u : Value} (h : iy w st β I s u) : iy w' st' β' I' (oZ f s) u := by
 induction h with
 | one h => exact .one (hf _ _ h)
 | agg hs h =>
  refine .agg (by simpa using hs) fun i t u h1 h2 => ?_
  rw [List.getElem?_map] at h1
  obtain ⟨t', h3, rfl⟩ := Option.map_eq_some_iff.1 h1
  exact hf _ _ (h i t' u h3 h2)
 | tup hs h ih =>
  refine .tup (by rw [DZ]; exact hs) fun i s u h1 h2 => ?_
  rw [DY] at h1
  obtain ⟨s', h3, rfl⟩ := Option.map_eq_some_iff.1 h1
  exact ih i s' u h3 h2
def XF (cs : List T) (off n : Nat) : Option (Nat × TypeId) → T
 | some _ => .sl (cs.drop off) n
 | none => bif n == 0 then .sl [] 0 else .sl (cs.drop off) n
def Ox (r : Nat) (cs : List T) : T → T
 | .own q off n ap => bif q == r then XF cs off n ap else .own q off n ap
 | .ptr q off => bif q == r then .psl cs off else .ptr q off
 | t => t
def aaH (r : Nat) (cs : List T) (g : Reg) : Reg := bif g.pure then g else ⟨gG (g.cs.map (Ox r cs)), g.cs.map (Ox r cs)⟩
def sZ (r : Nat) (cs : List T) : Store → Store
 | [] => []
 | (q, g) :: l => bif q == r then sZ r cs l else (q, aaH r cs g) :: sZ r cs l
theorem tJ (r : Nat) (cs : List T) : ∀ (st : Store), dH (sZ r cs st) r = none
 | [] => rfl
 | (k, g) :: l => by
  simp only [sZ]
  cases hk : k == r
  ·simp only [cond_false, dH, hk]; exact tJ r cs l
  ·exact tJ r cs l
theorem tq (r : Nat) (cs : List T) {q : Nat} (hq : q ≠ r) : ∀ (st : Store), dH (sZ r cs st) q = (dH st q).map (aaH r cs)
 | [] => rfl
 | (k, g) :: l => by
  simp only [sZ]
  cases hk : k == r
  ·simp only [cond_false, dH]
   cases hkq : k == q
   ·exact tq r cs hq l
   ·rfl
  ·have : k = r := eq_of_beq hk
   subst this
   simp only [cond_true, dH, vS (fun e => hq e.symm : k ≠ q), cond_false]
   exact tq k cs hq l
theorem Ws {w : World} {st : Store} {β : Nat → Option Nat} {I I' : Nat → Prop} {r off n : Nat} {ap : Option (Nat × TypeId)} {u : Value} {g : Reg} (hs : (dH st r).isSome = true) (ED : Zq w st β I (β r) g) (hp : g.pure = true) (hI : ∀ b, I b → I' b) (hb : ∀ b, β r = some b → I' b)
  (h : jc w st β I (.own r off n ap) u) : Rep w I' (XF g.cs off n ap) u := by
 have h1 := h hs
 obtain ⟨hpure, h2⟩ := ED
 unfold sQ at h1
 cases hbr : β r with
 | none =>
  rw [hbr] at h1 h2
  obtain ⟨rfl, rfl⟩ := h1
  have h2 : g.cs = [] := h2
  rw [h2]
  cases ap <;> simp [XF] <;> exact .sl0 _ _
 | some b =>
  rw [hbr] at h1 h2
  obtain ⟨A, cap, cur, ety, rfl, hh, hA, hn, hap⟩ := h1
  obtain ⟨cur', aaz, hh', hl, hc⟩ := h2
  rw [hh] at hh'; injection hh' with hh'; injection hh' with hh' _; subst hh'
  have main : A = some ⟨b, off, none⟩ → Rep w I' (.sl (g.cs.drop off) n) (.slice A n cap) := by
   rintro rfl
   have hex : ∀ j : Nat, ∃ u : Value, ∀ t, (g.cs.drop off)[j]? = some t → w.cell? ⟨b, off + j, none⟩ = some u ∧ Rep w I' t u := by
    intro j
    cases hj : (g.cs.drop off)[j]? with
    | none => exact ⟨undef, fun t ht => by cases ht⟩
    | some t =>
     rw [List.getElem?_drop] at hj
     obtain ⟨u, h3, h4⟩ := hc _ t hj
     refine ⟨u, fun t' ht => ?_⟩
     injection ht with ht; subst ht
     refine ⟨?_, Rep.mono (fun _ _ => rfl) hI (T.yI (hpure hp t (List.mem_of_getElem? hj)) w st β I u h4)⟩
     rw [DK hh]; exact h3
   exact .sl (fun j => (hex j).choose) (hb b hbr) (fun j t hj => ((hex j).choose_spec t hj).1) (fun j t hj => ((hex j).choose_spec t hj).2) hn
  cases ap with
  | some p => exact main ((hap p.1 p.2 rfl).1 ▸ (hap p.1 p.2 rfl).2.1)
  | none =>
   by_cases h0 : n = 0
   ·subst h0; exact .sl0 _ _
   ·have : (n == 0) = false := by simpa using h0
    simp only [XF, this, cond_false]
    exact main (hA (by omega))
theorem kY {s : St} {r : Nat} {g : Reg} (hg : dH s.st r = some g) (hp : g.pure = true) : Le s ⟨IU (Ox r g.cs) s.env, sZ r g.cs s.st⟩ := by
 intro C β a w hR
 have hrs : (dH s.st r).isSome = true := by rw [hg]; rfl
 have hsome : ∀ q, (dH (sZ r g.cs s.st) q).isSome = true → q ≠ r ∧ (dH s.st q).isSome = true := by
  intro q hq
  by_cases h : q = r
  ·subst h; rw [tJ] at hq; cases hq
  ·rw [tq _ _ h] at hq; exact ⟨h, by simpa using hq⟩
 have hI : ∀ b, C.I s.st β w b → C.I (sZ r g.cs s.st) β w b := by
  rintro b (h0 | ⟨h1, h2, h3⟩)
  ·exact .inl h0
  ·exact .inr ⟨h1, h2, fun q hq => h3 q (hsome q hq).2⟩
 have hb : ∀ b, β r = some b → C.I (sZ r g.cs s.st) β w b := by
  intro b hb
  refine .inr ⟨hR.ok.uX r b hrs hb, hR.ok.lt hrs hb, fun q hq hqb => ?_⟩
  obtain ⟨h1, h2⟩ := hsome q hq
  exact h1 (hR.ok.inj q r b h2 hrs hqb hb)
 have hf : ∀ t u, jc w s.st β (C.I s.st β w) t u → jc w (sZ r g.cs s.st) β (C.I (sZ r g.cs s.st) β w) (Ox r g.cs t) u := by
  intro t u h
  cases t with
  | v x => exact Rep.mono (fun _ _ => rfl) hI h
  | nil => exact Rep.mono (fun _ _ => rfl) hI h
  | sl cs n => exact Rep.mono (fun _ _ => rfl) hI h
  | clo f cs => exact Rep.mono (fun _ _ => rfl) hI h
  | dead => trivial
  | uO b m => exact ⟨hI _ h.1, h.2⟩
  | ptr q off =>
   simp only [Ox]
   cases hq : q == r with
   | false => exact fun hs => h (hsome q hs).2
   | true =>
    have : q = r := eq_of_beq hq
    subst this
    simp only [cond_true]
    obtain ⟨b, hbq, hu⟩ := h hrs
    have h2 := (hR.ok.store q g hg).2
    rw [hbq] at h2
    obtain ⟨cur, ety, h3, h4, h5⟩ := h2
    refine ⟨b, 0, fun j => cur.getD j undef, hb b hbq, by rw [hu]; simp, fun j t hj => ?_, fun j t hj => ?_⟩
    ·obtain ⟨u', h6, h7⟩ := h5 j t hj
     simp only [World.cell?, h3, Nat.zero_add, Option.isSome_none, Bool.false_eq_true, if_false]
     rw [h6]
     simp [Array.getD_eq_getD_getElem?, h6]
    ·obtain ⟨u', h6, h7⟩ := h5 j t hj
     have : cur.getD j undef = u' := by simp [Array.getD_eq_getD_getElem?, h6]
     show Rep w _ t (cur.getD j undef)
     rw [this]
     exact Rep.mono (fun _ _ => rfl) hI (T.yI ((hR.ok.store q g hg).1 hp t (List.mem_of_getElem? hj)) w _ _ _ u' h7)
  | psl cs off =>
   obtain ⟨b, o, us, h1, h2, h3, h4⟩ := h
   exact ⟨b, o, us, hI _ h1, h2, h3, fun j t hj => Rep.mono (fun _ _ => rfl) hI (h4 j t hj)⟩
  | own q off n ap =>
   simp only [Ox]
   cases hq : q == r with
   | false => exact fun hs => h (hsome q hs).2
   | true =>
    have : q = r := eq_of_beq hq
    subst this
    have := Ws (I' := C.I (sZ q g.cs s.st) β w) hrs (hR.ok.store q g hg) hp hI hb h
    simp only [cond_true]
    exact this.Ou
 refine ⟨⟨hR.ok.kept, fun q g' hq => ?_, fun q q' b h h' => hR.ok.inj q q' b (hsome q h).2 (hsome q' h').2, fun q b h => hR.ok.uX q b (hsome q h).2, fun q b h => hR.ok.yO q b (hsome q h).2⟩, hR.defers, hR.size, fun i => ?_⟩
 ·have hne := (hsome q (by rw [hq]; rfl)).1
  rw [tq _ _ hne] at hq
  obtain ⟨g0, hg0, rfl⟩ := Option.map_eq_some_iff.1 hq
  have h1 := hR.ok.store q g0 hg0
  unfold aaH
  cases hgp : g0.pure with
  | true =>
   simp only [cond_true]
   refine ⟨h1.1, ?_⟩
   have h2 := h1.2
   cases hbq : β q with
   | none => rw [hbq] at h2; exact h2
   | some b =>
    rw [hbq] at h2
    obtain ⟨cur, ety, h3, h4, h5⟩ := h2
    refine ⟨cur, ety, h3, h4, fun j t hj => ?_⟩
    obtain ⟨u, h6, h7⟩ := h5 j t hj
    exact ⟨u, h6, (Rep.mono (fun _ _ => rfl) hI (T.yI (h1.1 hgp t (List.mem_of_getElem? hj)) w _ _ _ u h7)).Ou⟩
  | false =>
   simp only [cond_false]
   refine ⟨(fun h t ht => kK h t ht), ?_⟩
   have h2 := h1.2
   cases hbq : β q with
   | none => rw [hbq] at h2; simp only at h2 ⊢; rw [h2]; rfl
   | some b =>
    rw [hbq] at h2
    obtain ⟨cur, ety, h3, h4, h5⟩ := h2
    refine ⟨cur, ety, h3, by simpa using h4, fun j t hj => ?_⟩
    simp only [List.getElem?_map] at hj
    obtain ⟨t', h8, rfl⟩ := Option.map_eq_some_iff.1 hj
    obtain ⟨u, h6, h7⟩ := h5 j t' h8
    exact ⟨u, h6, hf _ _ h7⟩
 ·show iy w (sZ r g.cs s.st) β _ (jT (IU (Ox r g.cs) s.env) i) _
  rw [IV _ rfl]
  exact iy.map hf (hR.env i)
theorem ZH {s : St} {i : Nat} {x : S} (h : ∀ w β I u, iy w s.st β I (jT s.env i) u → iy w s.st β I x u) : Le s ⟨(i, x) :: s.env, s.st⟩ := by
 intro C β a w hR
 refine ⟨hR.ok, hR.defers, hR.size, fun j => ?_⟩
 simp only [jT]
 cases hb : i == j with
 | true => have : i = j := eq_of_beq hb; subst this; exact h _ _ _ _ (hR.env i)
 | false => exact hR.env j
theorem R.acr {C : Ctx} {s : St} {β : Nat → Option Nat} {a : Act} {w : World} (hR : R C s β a w) {r : Nat} (hf : s.fresh r = true) :
  R C ⟨s.env, (r, ⟨true, []⟩) :: s.st⟩ (fun q => if q = r then none else β q) a w := by
 have hsome : ∀ q, (dH ((r, (⟨true, []⟩ : Reg)) :: s.st) q).isSome = true → q = r ∨ (q ≠ r ∧ (dH s.st q).isSome = true) := by
  intro q hq
  by_cases h : q = r
  ·exact .inl h
  ·rw [kU _ _ (fun e => h e.symm)] at hq; exact .inr ⟨h, hq⟩
 have hI : ∀ b, C.I s.st β w b → C.I ((r, ⟨true, []⟩) :: s.st) (fun q => if q = r then none else β q) w b := by
  rintro b (h0 | ⟨h1, h2, h3⟩)
  ·exact .inl h0
  ·refine .inr ⟨h1, h2, fun q hq => ?_⟩
   rcases hsome q hq with rfl | ⟨hne, hq'⟩
   ·simp
   ·simp only [hne, if_false]; exact h3 q hq'
 have hx : TI (· = r) (C.I s.st β w) (C.I ((r, ⟨true, []⟩) :: s.st) (fun q => if q = r then none else β q) w) s.st ((r, ⟨true, []⟩) :: s.st) β (fun q => if q = r then none else β q) w w := by
  refine ⟨hI, fun b hb => rfl, fun q hq hs => ?_, fun q b hq hs hb c e hh => ⟨c, hh, rfl⟩⟩
  rcases hsome q hs with h | ⟨_, h⟩
  ·exact absurd h hq
  ·exact ⟨h, by simp [show ¬ q = r from hq]⟩
 refine hR.turn (N := (· = r)) ⟨hR.ok.kept, ?_, ?_, ?_, fun q b hq hf' => by
  rcases hsome q hq with rfl | ⟨hne, h⟩
  ·rw [C.fx q (St.HY hf)] at hf'; cases hf'
  ·simp only [hne, if_false]; exact hR.ok.yO q b h hf'⟩ hx (by rintro q rfl i; exact St.Eh hf i)
 ·intro q g' hg
  by_cases hq : q = r
  ·subst hq
   rw [gU] at hg
   injection hg with hg
   subst hg
   exact ⟨fun _ t ht => by simp at ht, by simp⟩
  ·rw [kU _ _ (fun e => hq e.symm)] at hg
   have := hR.ok.store q g' hg
   refine ⟨this.1, ?_⟩
   have h2 := this.2
   simp only [hq, if_false]
   cases hb : β q with
   | none => rw [hb] at h2; exact h2
   | some b =>
    rw [hb] at h2
    obtain ⟨c, e, h3, h4, h5⟩ := h2
    refine ⟨c, e, h3, h4, fun j t hj => ?_⟩
    obtain ⟨u, h6, h7⟩ := h5 j t hj
    exact ⟨u, h6, jc.DI hx (fun q' hq' => by subst hq'; exact St.Hz hf hR.ok hg (List.mem_of_getElem? hj)) h7⟩
 ·intro q q' b hq hq' hb hb'
  rcases hsome q hq with rfl | ⟨hne, h⟩ <;> rcases hsome q' hq' with rfl | ⟨hne', h'⟩
  ·rfl
  ·simp at hb
  ·simp at hb'
  ·simp only [hne, if_false] at hb; simp only [hne', if_false] at hb'
   exact hR.ok.inj q q' b h h' hb hb'
 ·intro q b hq hb
  rcases hsome q hq with rfl | ⟨hne, h⟩
  ·simp at hb
  ·simp only [hne, if_false] at hb
   exact hR.ok.uX q b h hb
def LeB (s s' : St) : Prop := ∀ (C : Ctx) β a w, R C s β a w → ∃ β', R C s' β' a w
theorem Le.b {s s' : St} (h : Le s s') : LeB s s' := fun C β a w hR => ⟨β, h C β a w hR⟩
theorem fM {s s' s'' : St} (h : LeB s s') (h' : LeB s' s'') : LeB s s'' := fun C β a w hR => let ⟨β', h1⟩ := h C β a w hR; h' C β' a w h1
theorem nT {s : St} {i r : Nat} (k e : Nat) (h : jT s.env i = .one .nil) (hf : s.fresh r = true) : LeB s ⟨(i, .one (.own r 0 0 (some (k, e)))) :: s.env, (r, ⟨true, []⟩) :: s.st⟩ := by
 intro C β a w hR
 refine ⟨fun x => if x = r then none else β x, ?_⟩
 have h1 := hR.acr hf
 refine ⟨h1.ok, h1.defers, h1.size, fun j => ?_⟩
 simp only [jT]
 cases hb : i == j with
 | false => exact h1.env j
 | true =>
  have : i = j := eq_of_beq hb
  subst this
  have h2 := h1.env i
  replace h2 : iy w _ _ _ (jT s.env i) _ := h2
  rw [h] at h2
  generalize a.tmps.getD i undef = u at h2 ⊢
  cases h2 with
  | one h2 =>
   cases h2
   refine .one fun _ => ?_
   simp only [if_true]
   exact ⟨rfl, rfl⟩
theorem TW {s : St} {q j r : Nat} {g : Reg} (k e : Nat) (hg : dH s.st q = some g) (hj : g.cs[j]? = some .nil) (hf : s.fresh r = true) (hp : ∀ t ∈ g.cs, t.has r = false) :
  LeB s ⟨s.env, (r, ⟨true, []⟩) :: sset s.st q ⟨false, g.cs.set j (.own r 0 0 (some (k, e)))⟩⟩ := by
 intro C β a w hR
 refine ⟨fun x => if x = r then none else β x, ?_⟩
 have h1 := hR.acr hf
 have hqr : r ≠ q := by
  intro e; subst e
  have := St.FW hf
  rw [this] at hg; cases hg
 have hs : ∀ x, (dH ((r, (⟨true, []⟩ : Reg)) :: sset s.st q ⟨false, g.cs.set j (.own r 0 0 (some (k, e)))⟩) x).isSome = (dH ((r, (⟨true, []⟩ : Reg)) :: s.st) x).isSome := by
  intro x
  simp only [dH]
  cases r == x
  ·exact vT ..
  ·rfl
 have hI : C.I ((r, ⟨true, []⟩) :: sset s.st q ⟨false, g.cs.set j (.own r 0 0 (some (k, e)))⟩) (fun x => if x = r then none else β x) w = C.I ((r, ⟨true, []⟩) :: s.st) (fun x => if x = r then none else β x) w := by
  funext b; unfold Ctx.I; simp only [hs]
 have hx : Ext (C.I ((r, ⟨true, []⟩) :: s.st) (fun x => if x = r then none else β x) w) (C.I ((r, ⟨true, []⟩) :: sset s.st q ⟨false, g.cs.set j (.own r 0 0 (some (k, e)))⟩) (fun x => if x = r then none else β x) w) ((r, ⟨true, []⟩) :: s.st) ((r, ⟨true, []⟩) :: sset s.st q ⟨false, g.cs.set j (.own r 0 0 (some (k, e)))⟩) (fun x => if x = r then none else β x) (fun x => if x = r then none else β x) w w :=
  ⟨fun b hb => by rw [hI]; exact hb, fun _ _ => rfl, fun x hx => ⟨by rw [← hs]; exact hx, rfl⟩, fun _ _ _ _ cur ety hh => ⟨cur, hh, rfl⟩⟩
 refine ⟨⟨h1.ok.kept, fun x g' hgx => ?_, fun x x' b h h' => h1.ok.inj x x' b (by rw [← hs]; exact h) (by rw [← hs]; exact h'), fun x b h => h1.ok.uX x b (by rw [← hs]; exact h), fun x b h => h1.ok.yO x b (by rw [← hs]; exact h)⟩, h1.defers, h1.size, fun i => iy.ext hx (h1.env i)⟩
 have reg : ∀ g0, dH ((r, (⟨true, []⟩ : Reg)) :: s.st) x = some g0 → Zq w ((r, ⟨true, []⟩) :: sset s.st q ⟨false, g.cs.set j (.own r 0 0 (some (k, e)))⟩) (fun x => if x = r then none else β x) (C.I ((r, ⟨true, []⟩) :: sset s.st q ⟨false, g.cs.set j (.own r 0 0 (some (k, e)))⟩) (fun x => if x = r then none else β x) w) (if x = r then none else β x) g0 := by
  intro g0 h0
  have h2 := h1.ok.store x g0 h0
  refine ⟨h2.1, ?_⟩
  have h3 := h2.2
  simp only at h3
  cases hb : (if x = r then none else β x) with
  | none => rw [hb] at h3; exact h3
  | some b =>
   rw [hb] at h3
   obtain ⟨cur, ety, h4, h5, h6⟩ := h3
   exact ⟨cur, ety, h4, h5, fun j t hj => by obtain ⟨u, h7, h8⟩ := h6 j t hj; exact ⟨u, h7, jc.ext hx h8⟩⟩
 by_cases hxr : r = x
 ·subst hxr
  rw [gU] at hgx
  exact reg g' (by rw [gU]; exact hgx)
 ·rw [kU _ _ hxr] at hgx
  by_cases hxq : q = x
  ·subst hxq
   rw [nV _ _ _ (by rw [hg]; rfl)] at hgx
   injection hgx with hgx
   subst hgx
   have h2 := reg g (by rw [kU _ _ hxr]; exact hg)
   refine ⟨(fun h => by cases h), ?_⟩
   have h3 := h2.2
   simp only [if_neg (fun e => hxr e.symm : ¬ q = r)] at h3 ⊢
   cases hb : β q with
   | none => rw [hb] at h3; simp only at h3; rw [h3] at hj; cases hj
   | some b =>
    rw [hb] at h3
    obtain ⟨cur, ety, h4, h5, h6⟩ := h3
    refine ⟨cur, ety, h4, by simpa using h5, fun i t hi => ?_⟩
    by_cases hij : i = j
    ·subst hij
     have hlt : i < g.cs.length := (List.getElem?_eq_some_iff.1 hj).1
     simp [hlt] at hi
     subst hi
     obtain ⟨u, h7, h8⟩ := h6 i _ hj
     refine ⟨u, h7, fun _ => ?_⟩
     cases h8
     simp only [if_true]
     exact ⟨rfl, rfl⟩
    ·rw [List.getElem?_set_ne (fun e => hij e.symm)] at hi
     exact h6 i t hi
  ·rw [qG _ _ hxq] at hgx
   exact reg g' (by rw [kU _ _ hxr]; exact hgx)
section
variable {C : Ctx} {Q : Exit → St → Prop} {s s' : St} {K : St → Prop} {l : List VOp}
theorem dR {v : cO} (h : LeB s s') (hv : EV C v Q s') : EV C v Q s := fun c hc β a w hR => let ⟨β', h1⟩ := h C β a w hR; hv c hc β' a w h1
theorem aav (h : LeB s s') (hv : WL C l s' K) : WL C l s K := fun ops idx hl hr β a w hR => let ⟨β', h1⟩ := h C β a w hR; hv ops idx hl hr β' a w h1
end
attribute [simp] oZ IU oZ.QU XF Ox aaH sZ
end Go.V
set_option linter.unusedVariables false
set_option linter.unusedSimpArgs false
namespace Go.V
open Go.RowKit
section
variable {α : Type}
theorem acs (l : List α) : l.drop 0 = l := rfl
theorem acu (a : α) (l : List α) (n : Nat) : (a :: l).drop (n + 1) = l.drop n := rfl
theorem acv (l : List α) : l.take 0 = [] := rfl
theorem acw (a : α) (l : List α) (n : Nat) : (a :: l).take (n + 1) = a :: l.take n := rfl
theorem adf (l : List α) : [] ++ l = l := rfl
theorem adg (a : α) (l m : List α) : (a :: l) ++ m = a :: (l ++ m) := rfl
theorem adh (a b : α) (l : List α) : (a :: l).set 0 b = b :: l := rfl
theorem adi (a b : α) (l : List α) (n : Nat) : (a :: l).set (n + 1) b = a :: l.set n b := rfl
theorem adk {β : Type} (f : α → β) : [].map f = [] := rfl
theorem adl {β : Type} (f : α → β) (a : α) (l : List α) : (a :: l).map f = f a :: l.map f := rfl
theorem adn : ([] : List α).length = 0 := rfl
theorem ado (a : α) (l : List α) : (a :: l).length = l.length + 1 := rfl
end
attribute [simp] acs acu acv acw adf adg adh adi adk adl adn ado
def gd {α : Type} (c : Prop) [Decidable c] (x : Option α) : Option α := if c then x else none
theorem aQ {α : Type} {c : Prop} [Decidable c] {x : Option α} {r : α} (h : gd c x = some r) : c ∧ x = some r := by
 unfold gd at h; split at h
 ·rename_i hc; exact ⟨hc, h⟩
 ·cases h
def lz {α : Type} [Inhabited α] (c : Bool) (x : Option α) : Option α := bif c then x else some default
theorem aG {α β : Type} {x : Option α} {f : α → Option β} {r : β} (h : x.bind f = some r) : ∃ y, x = some y ∧ f y = some r := Option.bind_eq_some_iff.1 h
theorem jA {α : Type} [Inhabited α] {c : Bool} {x : Option α} {y : α} (h : lz c x = some y) (hc : c = true) : x = some y := by subst hc; exact h
theorem V9 {α : Type} {c : Bool} {x y : Option α} {r : α} (h : (bif c then x else y) = some r) (hc : c = true) : x = some r := by subst hc; exact h
theorem Wh {α : Type} {c : Bool} {x y : Option α} {r : α} (h : (bif c then x else y) = some r) (hc : c = false) : y = some r := by subst hc; exact h
def inI (n : Int) : Prop := -9223372036854775808 ≤ n ∧ n ≤ 9223372036854775807
instance (n : Int) : Decidable (inI n) := inferInstanceAs (Decidable (_ ∧ _))
def nth {α : Type} [Inhabited α] (l : List α) (i : Int) : α := l.getD i.toNat default
def dZ {α : Type} (l : List α) (i : Int) (v : α) : List α := l.set i.toNat v
def ix {α : Type} (l : List α) (i : Int) : Prop := 0 ≤ i ∧ i < (l.length : Nat)
instance {α : Type} (l : List α) (i : Int) : Decidable (ix l i) := inferInstanceAs (Decidable (_ ∧ _))
def cut {α : Type} (l : List α) (a b : Int) : List α := (l.drop a.toNat).take (b.toNat - a.toNat)
def flat {α : Type} (e : α → List T) (l : List α) : List T := l.flatMap e
theorem aj {α : Type} (l : List α) (i : Int) (v : α) : (dZ l i v).length = l.length := List.length_set
section
variable {α : Type} {e : α → List T} {k : Nat} (hk : ∀ x, (e x).length = k)
include hk
theorem uU (l : List α) : (flat e l).length = l.length * k := by
 unfold flat
 induction l with
 | nil => simp
 | cons x l ih => simp only [List.flatMap_cons, List.length_append, ih, hk, List.length_cons, Nat.add_mul, Nat.one_mul]; omega
theorem flat_get : ∀ (l : List α) (i : Nat) (x : α), l[i]? = some x → ∀ j, j < k → (flat e l)[i * k + j]? = (e x)[j]?
 | [], i, x, h, _, _ => by simp at h
 | y :: l, 0, x, h, j, hj => by
  simp only [List.getElem?_cons_zero, Option.some.injEq] at h; subst h
  simp only [flat, List.flatMap_cons, Nat.zero_mul, Nat.zero_add]
  rw [List.getElem?_append_left (by rw [hk]; exact hj)]
 | y :: l, i + 1, x, h, j, hj => by
  have h' : l[i]? = some x := by simpa using h
  have := flat_get l i x h' j hj
  simp only [flat, List.flatMap_cons]
  rw [List.getElem?_append_right (by rw [hk, Nat.add_mul, Nat.one_mul]; omega), hk]
  have e : (i + 1) * k + j - k = i * k + j := by rw [Nat.add_mul, Nat.one_mul]; omega
  rw [e]
  exact this
omit hk in
theorem Wu [Inhabited α] {l : List α} {i : Int} (h : ix l i) : l[i.toNat]? = some (nth l i) := by
 have hlt : i.toNat < l.length := by have := h.1; have := h.2; omega
 unfold nth
 rw [List.getD_eq_getElem?_getD, List.getElem?_eq_getElem hlt]; rfl
theorem QV [Inhabited α] {l : List α} {i : Int} (h : ix l i) {off j : Nat} (ho : off = i.toNat * k + j) {t : T} (ht : (e (nth l i))[j]? = some t) : (flat e l)[off]? = some t := by
 subst ho
 have hj : j < k := by rw [← hk (nth l i)]; exact (List.getElem?_eq_some_iff.1 ht).1
 rw [flat_get hk l _ _ (Wu h) j hj]; exact ht
theorem Ph [Inhabited α] {l : List α} {i : Int} (h : ix l i) {off j n : Nat} (ho : off = i.toNat * k + j) {ts : List T} (ht : ((e (nth l i)).drop j).take n = ts) (hn : ts.length = n) : ∀ (m : Nat) (t : T), ts[m]? = some t → (flat e l)[off + m]? = some t := by
 intro m t hm
 subst ho; subst ht
 have h1 := qU _ _ _ m t hm
 have := QV hk h (off := i.toNat * k + (j + m)) rfl h1
 rw [Nat.add_assoc]; exact this
theorem TY : ∀ (l : List α) (i : Nat) (x v : α) (j : Nat) (ys : List T), l[i]? = some x → e v = splice (e x) j ys → j + ys.length ≤ k → splice (flat e l) (i * k + j) ys = flat e (l.set i v)
 | [], i, x, v, j, ys, h, _, _ => by simp at h
 | y :: l, 0, x, v, j, ys, h, hv, hl => by
  simp only [List.getElem?_cons_zero, Option.some.injEq] at h; subst h
  simp only [flat, List.flatMap_cons, List.set_cons_zero, hv, splice, Nat.zero_mul, Nat.zero_add]
  rw [List.take_append_of_le_length (by rw [hk]; omega), List.drop_append_of_le_length (by rw [hk]; omega)]
  simp
 | y :: l, i + 1, x, v, j, ys, h, hv, hl => by
  have h' : l[i]? = some x := by simpa using h
  have := TY l i x v j ys h' hv hl
  simp only [flat, List.flatMap_cons, List.set_cons_succ]
  simp only [flat] at this
  rw [← this]
  have e1 : (i + 1) * k + j = (e y).length + (i * k + j) := by rw [hk, Nat.add_mul, Nat.one_mul]; omega
  simp only [splice]
  rw [e1, Nat.add_assoc, List.take_length_add_append, List.drop_length_add_append]
  simp
end
theorem Aj {α : Type} {e : α → List T} (he : ∀ x, gG (e x) = true) (l : List α) : gG (flat e l) = true :=
 Vt fun t ht => by
  obtain ⟨x, _, hx⟩ := List.mem_flatMap.1 ht
  exact kK (he x) t hx
theorem JE {α : Type} (e : α → List T) (l l2 : List α) : flat e (l ++ l2) = flat e l ++ flat e l2 := by simp [flat]
theorem D5 {α : Type} (e : α → List T) (z : α) (n : Nat) : (List.replicate n (e z)).flatten = flat e (List.replicate n z) := by
 induction n with
 | zero => rfl
 | succ n ih => simp only [List.replicate_succ, List.flatten_cons, ih, flat, List.flatMap_cons]
theorem IW {α : Type} {e : α → List T} {k : Nat} (hk : ∀ x, (e x).length = k) : ∀ (n : Nat) (l : List α), (flat e l).drop (n * k) = flat e (l.drop n)
 | 0, l => by simp
 | n + 1, [] => by simp [flat]
 | n + 1, x :: l => by
  have := IW hk n l
  simp only [List.drop_succ_cons, ← this]
  simp only [flat, List.flatMap_cons]
  have e1 : (n + 1) * k = (e x).length + n * k := by rw [hk, Nat.add_mul, Nat.one_mul]; omega
  rw [e1, List.drop_length_add_append]
theorem Ak {α : Type} {e : α → List T} {k : Nat} (hk : ∀ x, (e x).length = k) : ∀ (n : Nat) (l : List α), (flat e l).take (n * k) = flat e (l.take n)
 | 0, l => by simp [flat]
 | n + 1, [] => by simp [flat]
 | n + 1, x :: l => by
  have := Ak hk n l
  simp only [List.take_succ_cons]
  simp only [flat, List.flatMap_cons] at this ⊢
  have e1 : (n + 1) * k = (e x).length + n * k := by rw [hk, Nat.add_mul, Nat.one_mul]; omega
  rw [e1, List.take_length_add_append, this]
theorem ZI {l : List T} (h : gG l = true) (r : Nat) : l.all (fun t => !t.has r) = true := List.all_eq_true.2 fun t ht => by rw [T.yH (kK h t ht)]; rfl
theorem Em {l : List T} (h : gG l = true) (st : Store) : l.all (Nv st) = true := List.all_eq_true.2 fun t ht => by
 have := kK h t ht
 cases t <;> first | rfl | cases this
section
variable {C : Ctx} {s : St} {d : Option Nat} {α : Type} {e : α → List T} {k : Nat}
theorem Does.cast {i : VI} {b : Bool} {s1 s2 : St} (h : Does C i d s b (· = s1)) (he : s1 = s2) : Does C i d s b (· = s2) := he ▸ h
theorem Quiet.cast {i : VI} {x y : S} (h : Quiet C i s x) (he : x = y) : Quiet C i s y := he ▸ h
theorem CV [Inhabited α] {x : Operand} {l : List α} {off : Nat} {t : T} (hx : s.ev x = .one (.psl (flat e l) off)) (hk : ∀ x, (e x).length = k) {i : Int} (hi : ix l i) (j : Nat) (ho : off = i.toNat * k + j) (ht : (e (nth l i))[j]? = some t) : Quiet C (.load false 1 x) s (.one t) :=
 C9 hx (QV hk hi ho ht)
theorem CY [Inhabited α] {x : Operand} {l : List α} {off n : Nat} {ts : List T} (hx : s.ev x = .one (.psl (flat e l) off)) (hk : ∀ x, (e x).length = k) {i : Int} (hi : ix l i) (j : Nat) (ho : off = i.toNat * k + j) (ht : ((e (nth l i)).drop j).take n = ts) (hn : ts.length = n) : Quiet C (.load true n x) s (.agg ts) :=
 AU hx (.psl (Ph hk hi ho ht hn)) hn
theorem gB [Inhabited α] {x : Operand} {l : List α} {r off : Nat} {p : Bool} {t : T} (hx : s.ev x = .one (.ptr r off)) (hg : dH s.st r = some ⟨p, flat e l⟩) (hk : ∀ x, (e x).length = k) {i : Int} (hi : ix l i) (j : Nat) (ho : off = i.toNat * k + j) (ht : (e (nth l i))[j]? = some t) : Quiet C (.load false 1 x) s (.one t) :=
 DN hx hg (QV hk hi ho ht)
theorem uP [Inhabited α] {x : Operand} {l : List α} {r off n : Nat} {p : Bool} {ts : List T} (hx : s.ev x = .one (.ptr r off)) (hg : dH s.st r = some ⟨p, flat e l⟩) (hk : ∀ x, (e x).length = k) {i : Int} (hi : ix l i) (j : Nat) (ho : off = i.toNat * k + j) (ht : ((e (nth l i)).drop j).take n = ts) (hn : ts.length = n) (h0 : n ≠ 0) : Quiet C (.load true n x) s (.agg ts) :=
 AU hx (.ptr hg (Ph hk hi ho ht hn) (by intro e; subst e; simp at hn; omega)) hn
theorem dI [Inhabited α] {n r off : Nat} {x y : Operand} {l : List α} {p : Bool} {z : S} {ys : List T} (hx : s.ev x = .one (.ptr r off)) (hg : dH s.st r = some ⟨p, flat e l⟩) (hk : ∀ x, (e x).length = k) {i : Int} (hi : ix l i) (j : Nat) (ho : off = i.toNat * k + j)
  (hy : s.ev y = z) (hc : z.cells s.st = some ys) (hn : ys.length = n) (h0 : n ≠ 0) (v : α) (hv : e v = splice (e (nth l i)) j ys) (hj : j + n ≤ k) (hp : gG ys = true) :
  Does C (.store n x y) d s false (· = (⟨s.env, sset s.st r ⟨p, flat e (dZ l i v)⟩⟩ : St).put d (.tup [])) := by
 have hget := Wu hi
 have hlt : i.toNat < l.length := (List.getElem?_eq_some_iff.1 hget).1
 have hle : off + n ≤ (flat e l).length := by
  rw [uU hk, ho]
  have h1 : (i.toNat + 1) * k ≤ l.length * k := Nat.mul_le_mul_right _ hlt
  rw [Nat.add_mul, Nat.one_mul] at h1
  omega
 refine (Nw hx hg hy hc hn hle (Em hp _) h0).cast ?_
 simp only [hp, Bool.and_true]
 rw [ho, TY hk l _ _ v j ys hget hv (by omega)]
 rfl
theorem Src.lit {r m : Nat} {ap : Option (Nat × TypeId)} {p : Bool} {cs : List T} (l2 : List α) (hg : dH s.st r = some ⟨p, cs⟩) (hk : ∀ x, (e x).length = k) (h : cs = flat e l2) (hm : m = l2.length) : Src s k (.one (.own r 0 m ap)) (flat e l2) m := by
 subst hm
 exact .own hg (fun j t hj => by subst h; simpa using hj) (uU hk _)
theorem Src.slF (l2 : List α) (hk : ∀ x, (e x).length = k) : Src s k (.one (.sl (flat e l2) l2.length)) (flat e l2) l2.length := .sl (uU hk _)
theorem dY {t ety bytes r : Nat} {x y : Operand} {l l2 : List α} {z : S} (hx : s.ev x = .one (.own r 0 l.length (some (k, ety)))) (hg : dH s.st r = some ⟨true, flat e l⟩) (hk : ∀ x, (e x).length = k) (he : ∀ x, gG (e x) = true)
  (hy : s.ev y = z) (hsrc : Src s k z (flat e l2) l2.length) (hb : (l.length + l2.length) * bytes ≤ 140737488355328) (hlt : Nat.blt r 100000 = true) :
  Does C (.app t ety k bytes x y) d s false (· = (⟨zh r s.env, (r, ⟨true, flat e (l ++ l2)⟩) :: yN (kR r s.st) r⟩ : St).put d (.one (.own r 0 (l ++ l2).length (some (k, ety))))) := by
 have hp := Aj he l2
 refine (ZB hx hg (uU hk l) rfl hy hsrc (Em hp _) (ZI hp _) hb hlt).cast ?_
 simp only [hp, Bool.and_true, JE, List.length_append]
theorem nS {t ety bytes r : Nat} {zs : List T} {x y : Operand} {n c : Int} (z : α) (hx : s.ev x = .one (.v (.int .i64 n))) (hy : s.ev y = .one (.v (.int .i64 c))) (hz : zs = e z) (he : ∀ x, gG (e x) = true) (h0 : 0 ≤ n) (h1 : n ≤ c) (h2 : bytes * c ≤ 2 ^ 48) (h3 : c ≤ 9223372036854775807) (hf : s.fresh r = true) :
  Does C (.mk t ety k bytes zs x y) (some r) s true (· = (⟨s.env, (r, ⟨true, flat e (List.replicate n.toNat z)⟩) :: s.st⟩ : St).put (some r) (.one (.own r 0 (List.replicate n.toNat z).length (some (k, ety))))) := by
 subst hz
 refine (Wn hx hy h0 h1 h2 h3 hf (List.all_eq_true.2 fun t ht => by
  have := kK (he z) t ht
  rw [this, T.yH this]; rfl)).cast ?_
 rw [D5, List.length_replicate]
theorem lS {x : Operand} {lo hi : Option Operand} {l : List α} {a b : Int} (hx : s.ev x = .one (.sl (flat e l) l.length)) (hk : ∀ x, (e x).length = k) (hl : s.bnd lo 0 = some a) (hh : s.bnd hi l.length = some b) (h0 : 0 ≤ a) (h1 : a ≤ b) (h2 : b ≤ (l.length : Nat)) :
  Quiet C (.slc k x lo hi none) s (.one (.sl (flat e (cut l a b)) (cut l a b).length)) := by
 refine (TQ hx hl hh h0 h1 h2).cast ?_
 rw [IW hk, Ak hk]
 have h3 : (cut l a b).length = b.toNat - a.toNat := by simp [cut]; omega
 rw [h3]
 rfl
theorem fK {r : Nat} {g g' : Reg} (hg : dH s.st r = some g) (he : g = g') : Le s ⟨s.env, sset s.st r g'⟩ := by
 subst he
 intro C β a w hR
 refine hR.aaA fun q => ?_
 by_cases h : r = q
 ·subst h; rw [nV _ _ _ (by rw [hg]; rfl), hg]
 ·rw [qG _ _ h]
end
end Go.V
set_option linter.unusedVariables false
set_option linter.unusedSimpArgs false
namespace Go.V
open Go.RowKit
inductive Kd where
 | int
 | bool
 | str
 deriving DecidableEq
def wP : Kd → Value → Value → Prop
 | .int, .int k _, .int k' _ => k = k'
 | .bool, .bool _, .bool _ => True
 | .str, .string _, .string _ => True
 | _, _, _ => False
theorem VE {u v : Value} (h : wP .int u v) : ∃ k a b, u = .int k a ∧ v = .int k b := by
 cases u <;> cases v <;> simp only [wP] at h <;> first | (subst h; exact ⟨_, _, _, rfl, rfl⟩) | exact h.elim
theorem Ua {u v : Value} (h : wP .bool u v) : ∃ a b, u = .bool a ∧ v = .bool b := by
 cases u <;> cases v <;> simp only [wP] at h <;> first | exact ⟨_, _, rfl, rfl⟩ | exact h.elim
theorem VF {u v : Value} (h : wP .str u v) : ∃ a b, u = .string a ∧ v = .string b := by
 cases u <;> cases v <;> simp only [wP] at h <;> first | exact ⟨_, _, rfl, rfl⟩ | exact h.elim
def eqv : Value → Value → Bool
 | .int _ a, .int _ b => a == b
 | .bool a, .bool b => a == b
 | .string a, .string b => a.toList == b.toList
 | _, _ => false
def eqL : List Value → List Value → Bool
 | u :: us, v :: vs => eqv u v && eqL us vs
 | _, _ => true
def kf (P : Program) (rec : TypeId → Option (List Kd)) : List Field → Nat → Option (List Kd)
 | [], _ => some []
 | f :: fs, off => if f.name = "_" ∨ f.offset ≠ off then none else (rec f.type).bind fun ks => if szP P f.type = some ks.length then (kf P rec fs (off + ks.length)).map (ks ++ ·) else none
def kinds (P : Program) : Nat → TypeId → Option (List Kd)
 | 0, _ => none
 | d + 1, t => match P.underlying t with
  | some (.int _) => some [.int]
  | some .bool => some [.bool]
  | some .string => some [.str]
  | some (.struct fs) => if P.stoodInHeld t = true then none else kf P (kinds P d) fs.toList 0
  | some (.array n e) => (kinds P d e).bind fun ks => if szP P e = some ks.length then some (List.replicate n ks).flatten else none
  | _ => none
theorem Ub {P : Program} {w : World} {t : TypeId} {us : List Value} {xs : Array Value} {off : Nat} {ag : Bool} (hs : szP P t = some us.length) (ha : sU P t = some ag) (h1 : ag = false → us.length = 1) (hx : ∀ j u, us[j]? = some u → xs[off + j]? = some u) :
  (part t xs off).run P w = .ok (bif ag then .agg us.toArray else us.headD undef) w := by
 unfold part
 simp only [Sem.run_bind, Ah ha, Result.andThen_ok]
 cases ag with
 | true =>
  simp only [if_true, Sem.run_bind, nX hs, Result.andThen_ok, Sem.run_pure, cond_true]
  congr 2
  apply Array.ext_getElem?
  intro i
  rw [Array.getElem?_extract]
  by_cases hi : i < us.length
  ·have := hx i _ (List.getElem?_eq_getElem hi)
   have hlt := (Array.getElem?_eq_some_iff.1 this).1
   rw [if_pos (by omega), this]
   simp [hi]
  ·have : us.toArray[i]? = none := by simp; omega
   rw [this, if_neg (by omega)]
 | false =>
  have h2 := h1 rfl
  obtain ⟨u, rfl⟩ : ∃ u, us = [u] := by
   match us, h2 with
   | [u], _ => exact ⟨u, rfl⟩
  have := hx 0 u rfl
  simp only [Nat.add_zero] at this
  simp only [Bool.false_eq_true, if_false, this, Sem.run_pure, cond_false, List.headD_cons]
theorem F7 : ∀ (as bs cs ds : List Value), as.length = bs.length → eqL (as ++ cs) (bs ++ ds) = (eqL as bs && eqL cs ds)
 | [], [], cs, ds, _ => by simp [eqL]
 | a :: as, b :: bs, cs, ds, h => by simp only [List.cons_append, eqL, F7 as bs cs ds (by simpa using h), Bool.and_assoc]
 | [], b :: bs, _, _, h => by simp at h
 | a :: as, [], _, _, h => by simp at h
def Am (P : Program) (t : TypeId) : Bool := (sU P t).getD false
def Ia (P : Program) (t : TypeId) (us : List Value) : Value := bif Am P t then .agg us.toArray else us.headD undef
theorem acy {P : Program} : ∀ (d : Nat) (t : TypeId) (ks : List Kd), kinds P d t = some ks → ∀ (us vs : List Value), us.length = ks.length → vs.length = ks.length →
  (∀ (i : Nat) (k : Kd) (u v : Value), ks[i]? = some k → us[i]? = some u → vs[i]? = some v → wP k u v) → ∀ (m : Nat) (w : World), (Op.equalIn (d + m) t (Ia P t us) (Ia P t vs)).run P w = .ok (eqL us vs) w := by
 intro d
 induction d with
 | zero => intro t ks h; cases h
 | succ d ih =>
  intro t ks h us vs hu hv hok m w
  have hag : ∀ (t : TypeId) (ks : List Kd), kinds P d t = some ks → ∃ ag, sU P t = some ag ∧ (ag = false → ks.length = 1) := by
   intro t ks h
   cases d with
   | zero => cases h
   | succ d =>
    unfold kinds at h
    unfold sU
    split at h <;> rename_i hun <;> (try simp only [hun, Option.map_some])
    ·injection h with h; subst h; exact ⟨false, rfl, fun _ => rfl⟩
    ·injection h with h; subst h; exact ⟨false, rfl, fun _ => rfl⟩
    ·injection h with h; subst h; exact ⟨false, rfl, fun _ => rfl⟩
    ·exact ⟨true, rfl, fun h => by cases h⟩
    ·exact ⟨true, rfl, fun h => by cases h⟩
    ·cases h
  have item : ∀ (t : TypeId) (ks : List Kd), kinds P d t = some ks → szP P t = some ks.length → ∀ (us vs : List Value) (xs ys : Array Value) (off : Nat), us.length = ks.length → vs.length = ks.length →
    (∀ (i : Nat) (k : Kd) (u v : Value), ks[i]? = some k → us[i]? = some u → vs[i]? = some v → wP k u v) → (∀ j u, us[j]? = some u → xs[off + j]? = some u) → (∀ j u, vs[j]? = some u → ys[off + j]? = some u) →
    ∃ a b, (∀ w, (part t xs off).run P w = .ok a w) ∧ (∀ w, (part t ys off).run P w = .ok b w) ∧ ∀ w, (Op.equalIn (d + m) t a b).run P w = .ok (eqL us vs) w := by
   intro t ks hk hs us vs xs ys off hu hv hok hx hy
   obtain ⟨ag, ha, h1⟩ := hag t ks hk
   refine ⟨_, _, fun w => Ub (by rw [hu]; exact hs) ha (fun h => by rw [hu]; exact h1 h) hx, fun w => Ub (by rw [hv]; exact hs) ha (fun h => by rw [hv]; exact h1 h) hy, fun w => ?_⟩
   have := ih t ks hk us vs hu hv hok m w
   unfold Ia Am at this
   rw [ha] at this
   exact this
  have hadd : d + 1 + m = (d + m) + 1 := by omega
  rw [hadd]
  unfold kinds at h
  split at h
  ·rename_i k0 hun
   injection h with h; subst h
   have ha : Am P t = false := by unfold Am sU; rw [hun]; rfl
   match us, vs, hu, hv with
   | [u], [v], _, _ =>
    obtain ⟨k, a, b, rfl, rfl⟩ := VE (hok 0 .int u v rfl rfl rfl)
    simp only [Ia, ha, cond_false, List.headD_cons, eqL, eqv, Bool.and_true]
    exact run_equalIn_int w _ t _ _ _ _ hun
  ·rename_i hun
   injection h with h; subst h
   have ha : Am P t = false := by unfold Am sU; rw [hun]; rfl
   match us, vs, hu, hv with
   | [u], [v], _, _ =>
    obtain ⟨a, b, rfl, rfl⟩ := Ua (hok 0 .bool u v rfl rfl rfl)
    simp only [Ia, ha, cond_false, List.headD_cons, eqL, eqv, Bool.and_true]
    exact run_equalIn_bool' w _ t _ _ hun
  ·rename_i hun
   injection h with h; subst h
   have ha : Am P t = false := by unfold Am sU; rw [hun]; rfl
   match us, vs, hu, hv with
   | [u], [v], _, _ =>
    obtain ⟨a, b, rfl, rfl⟩ := VF (hok 0 .str u v rfl rfl rfl)
    simp only [Ia, ha, cond_false, List.headD_cons, eqL, eqv, Bool.and_true]
    exact run_equalIn_string w _ t _ _ hun
  ·rename_i fs hun
   split at h
   ·cases h
   ·rename_i hst
    have ha : Am P t = true := by unfold Am sU; rw [hun]; rfl
    have hfo : P.fieldsOf t = fs := by unfold Program.fieldsOf; rw [hun]
    simp only [Ia, ha, cond_true]
    rw [run_equalIn_struct w _ t _ _ (by rw [hfo]; exact hun) (by simpa using hst), hfo]
    have go : ∀ (l : List Field) (off : Nat) (ks : List Kd), kf P (kinds P d) l off = some ks → ∀ (us vs : List Value) (xs ys : Array Value), us.length = ks.length → vs.length = ks.length →
      (∀ (i : Nat) (k : Kd) (u v : Value), ks[i]? = some k → us[i]? = some u → vs[i]? = some v → wP k u v) → (∀ j u, us[j]? = some u → xs[off + j]? = some u) → (∀ j u, vs[j]? = some u → ys[off + j]? = some u) →
      (Op.eqFields (d + m) xs ys l).run P w = .ok (eqL us vs) w := by
     intro l
     induction l with
     | nil =>
      intro off ks h us vs xs ys hu hv hok hx hy
      simp only [kf, Option.some.injEq] at h
      subst h
      obtain rfl : us = [] := List.eq_nil_of_length_eq_zero hu
      simp [Op.eqFields, eqL]
     | cons f l ihl =>
      intro off ks h us vs xs ys hu hv hok hx hy
      simp only [kf] at h
      split at h
      ·cases h
      ·rename_i hcond
       obtain ⟨k1, hk1, h⟩ := Option.bind_eq_some_iff.1 h
       split at h
       ·rename_i hsz
        obtain ⟨k2, hk2, rfl⟩ := Option.map_eq_some_iff.1 h
        simp only [List.length_append] at hu hv
        have hoff : f.offset = off := by
         by_cases e : f.offset = off
         ·exact e
         ·exact absurd (.inr e) hcond
        have hname : f.name ≠ "_" := fun e => hcond (.inl e)
        obtain ⟨a, b, pa, pb, pe⟩ := item f.type k1 hk1 hsz (us.take k1.length) (vs.take k1.length) xs ys off (by simp; omega) (by simp; omega) (fun i k u v h1 h2 h3 => by
         have hi : i < k1.length := (List.getElem?_eq_some_iff.1 h1).1
         rw [List.getElem?_take_of_lt hi] at h2 h3
         exact hok i k u v (by rw [List.getElem?_append_left hi]; exact h1) h2 h3)
         (fun j u hj => by
          have hi : j < k1.length := by have := (List.getElem?_eq_some_iff.1 hj).1; simp at this; omega
          rw [List.getElem?_take_of_lt hi] at hj; exact hx j u hj)
         (fun j u hj => by
          have hi : j < k1.length := by have := (List.getElem?_eq_some_iff.1 hj).1; simp at this; omega
          rw [List.getElem?_take_of_lt hi] at hj; exact hy j u hj)
        have hrest := ihl (off + k1.length) k2 hk2 (us.drop k1.length) (vs.drop k1.length) xs ys (by simp; omega) (by simp; omega) (fun i k u v h1 h2 h3 => by
         rw [List.getElem?_drop] at h2 h3
         exact hok (k1.length + i) k u v (by rw [List.getElem?_append_right (by omega)]; simpa using h1) h2 h3)
         (fun j u hj => by rw [List.getElem?_drop] at hj; have := hx _ u hj; rw [Nat.add_assoc]; exact this)
         (fun j u hj => by rw [List.getElem?_drop] at hj; have := hy _ u hj; rw [Nat.add_assoc]; exact this)
        have hsplit : eqL us vs = (eqL (us.take k1.length) (vs.take k1.length) && eqL (us.drop k1.length) (vs.drop k1.length)) := by
         conv => lhs; rw [← List.take_append_drop k1.length us, ← List.take_append_drop k1.length vs]
         rw [F7 _ _ _ _ (by simp; omega)]
        simp only [Op.eqFields]
        rw [if_pos hname, hoff]
        simp only [Sem.run_bind, pa, pb, pe, Result.andThen_ok]
        rw [hsplit]
        cases hb : eqL (us.take k1.length) (vs.take k1.length)
        ·simp
        ·simpa using hrest
       ·cases h
    exact go fs.toList 0 ks h us vs _ _ hu hv hok (fun j u hj => by simpa using hj) (fun j u hj => by simpa using hj)
  ·rename_i n e hun
   obtain ⟨k1, hk1, h⟩ := Option.bind_eq_some_iff.1 h
   split at h
   ·rename_i hsz
    injection h with h; subst h
    have ha : Am P t = true := by unfold Am sU; rw [hun]; rfl
    obtain ⟨inf, adp, hsz'⟩ := Option.map_eq_some_iff.1 hsz
    simp only [Ia, ha, cond_true]
    rw [run_equalIn_array w _ _ _ hun adp]
    have hco : P.cellsOf e = k1.length := by unfold Program.cellsOf; rw [adp]; exact hsz'
    rw [hco]
    have go : ∀ (n j : Nat) (us vs : List Value) (xs ys : Array Value), us.length = n * k1.length → vs.length = n * k1.length →
      (∀ (i : Nat) (k : Kd) (u v : Value), ((List.replicate n k1).flatten)[i]? = some k → us[i]? = some u → vs[i]? = some v → wP k u v) → (∀ i u, us[i]? = some u → xs[j * k1.length + i]? = some u) → (∀ i u, vs[i]? = some u → ys[j * k1.length + i]? = some u) →
      (Op.eqItems (d + m) e k1.length xs ys (List.range' j n)).run P w = .ok (eqL us vs) w := by
     intro n
     induction n with
     | zero =>
      intro j us vs xs ys hu hv hok hx hy
      obtain rfl : us = [] := List.eq_nil_of_length_eq_zero (by simpa using hu)
      simp [Op.eqItems, eqL]
     | succ n ihn =>
      intro j us vs xs ys hu hv hok hx hy
      rw [Nat.add_mul, Nat.one_mul] at hu hv
      have hrep : (List.replicate (n + 1) k1).flatten = k1 ++ (List.replicate n k1).flatten := by rw [List.replicate_succ, List.flatten_cons]
      rw [hrep] at hok
      obtain ⟨a, b, pa, pb, pe⟩ := item e k1 hk1 hsz (us.take k1.length) (vs.take k1.length) xs ys (j * k1.length) (by simp; omega) (by simp; omega) (fun i k u v h1 h2 h3 => by
       have hi : i < k1.length := (List.getElem?_eq_some_iff.1 h1).1
       rw [List.getElem?_take_of_lt hi] at h2 h3
       exact hok i k u v (by rw [List.getElem?_append_left hi]; exact h1) h2 h3)
       (fun i u hi' => by
        have hi : i < k1.length := by have := (List.getElem?_eq_some_iff.1 hi').1; simp at this; omega
        rw [List.getElem?_take_of_lt hi] at hi'; exact hx i u hi')
       (fun i u hi' => by
        have hi : i < k1.length := by have := (List.getElem?_eq_some_iff.1 hi').1; simp at this; omega
        rw [List.getElem?_take_of_lt hi] at hi'; exact hy i u hi')
      have hrest := ihn (j + 1) (us.drop k1.length) (vs.drop k1.length) xs ys (by simp; omega) (by simp; omega) (fun i k u v h1 h2 h3 => by
       rw [List.getElem?_drop] at h2 h3
       exact hok (k1.length + i) k u v (by rw [List.getElem?_append_right (by omega)]; simpa using h1) h2 h3)
       (fun i u hi => by rw [List.getElem?_drop] at hi; have := hx _ u hi; rw [Nat.add_mul, Nat.one_mul, Nat.add_assoc]; exact this)
       (fun i u hi => by rw [List.getElem?_drop] at hi; have := hy _ u hi; rw [Nat.add_mul, Nat.one_mul, Nat.add_assoc]; exact this)
      have hsplit : eqL us vs = (eqL (us.take k1.length) (vs.take k1.length) && eqL (us.drop k1.length) (vs.drop k1.length)) := by
       conv => lhs; rw [← List.take_append_drop k1.length us, ← List.take_append_drop k1.length vs]
       rw [F7 _ _ _ _ (by simp; omega)]
      simp only [List.range'_succ, Op.eqItems, Sem.run_bind, pa, pb, pe, Result.andThen_ok]
      rw [hsplit]
      cases hb : eqL (us.take k1.length) (vs.take k1.length)
      ·simp
      ·simpa using hrest
    have hlen : ((List.replicate n k1).flatten).length = n * k1.length := by simp
    rw [List.range_eq_range']
    exact go n 0 us vs _ _ (by rw [hu, hlen]) (by rw [hv, hlen]) hok (fun i u hi => by simpa using hi) (fun i u hi => by simpa using hi)
   ·cases h
  ·cases h
structure P9 (P : Program) (t : TypeId) (ks : List Kd) : Prop where
 kinds : kinds P 9 t = some ks
 agg : sU P t = some true
 guard : P.eqGuardType P.depth t = false
def adq : T → Option Value
 | .v x => some x
 | _ => none
def VG : List T → Option (List Value)
 | [] => some []
 | t :: l => match adq t, VG l with
  | some x, some xs => some (x :: xs)
  | _, _ => none
def QW : List Kd → List Value → List Value → Prop
 | [], [], [] => True
 | k :: ks, u :: us, v :: vs => wP k u v ∧ QW ks us vs
 | _, _, _ => False
theorem JF : ∀ {ks : List Kd} {us vs : List Value}, QW ks us vs → us.length = ks.length ∧ vs.length = ks.length ∧ ∀ (i : Nat) (k : Kd) (u v : Value), ks[i]? = some k → us[i]? = some u → vs[i]? = some v → wP k u v
 | [], [], [], _ => ⟨rfl, rfl, fun i k u v h => by simp at h⟩
 | k :: ks, u :: us, v :: vs, h => by
  obtain ⟨h1, h2, h3⟩ := JF h.2
  refine ⟨by simp [h1], by simp [h2], fun i k' u' v' hk hu hv => ?_⟩
  cases i with
  | zero => simp at hk hu hv; subst hk; subst hu; subst hv; exact h.1
  | succ i => exact h3 i k' u' v' (by simpa using hk) (by simpa using hu) (by simpa using hv)
theorem Uc : ∀ {ts : List T} {us : List Value}, VG ts = some us → us.length = ts.length ∧ ∀ (i : Nat) (t : T), ts[i]? = some t → ∃ u, us[i]? = some u ∧ t = .v u
 | [], us, h => by simp only [VG, Option.some.injEq] at h; subst h; exact ⟨rfl, fun i t h => by simp at h⟩
 | t :: l, us, h => by
  simp only [VG] at h
  split at h
  ·rename_i x xs h1 h2
   injection h with h; subst h
   obtain ⟨h3, h4⟩ := Uc h2
   have ht : t = .v x := by cases t <;> simp [adq] at h1; subst h1; rfl
   refine ⟨by simp [h3], fun i t' hi => ?_⟩
   cases i with
   | zero => simp at hi; subst hi; exact ⟨x, rfl, ht⟩
   | succ i => obtain ⟨u, h5, h6⟩ := h4 i t' (by simpa using hi); exact ⟨u, by simpa using h5, h6⟩
  ·cases h
section
variable {C : Ctx} {s : St}
theorem rJ {P : Program} {neg : Bool} {t : TypeId} {x y : Operand} {ks : List Kd} {as bs : List T} {us vs : List Value} (hP : C.P = P) (hE : P9 P t ks) (hx : s.ev x = .agg as) (hy : s.ev y = .agg bs) (hu : VG as = some us) (hv : VG bs = some vs) (hok : QW ks us vs) :
  Quiet C (.eqA neg t x y) s (.one (.v (.bool (bif neg then !eqL us vs else eqL us vs)))) := by
 subst hP
 refine fun o ho β ac w hR => ?_
 obtain ⟨t', ho⟩ := ho
 have val : ∀ (z : Operand) (cs : List T) (zs : List Value), s.ev z = .agg cs → VG cs = some zs → ac.eval z = .agg zs.toArray := by
  intro z cs zs hz hl
  have h := hz ▸ hR.ev z
  generalize ac.eval z = v at h
  obtain ⟨h3, h4⟩ := Uc hl
  cases h with
  | agg hs h =>
   rename_i a
   congr 1
   apply Array.ext_getElem?
   intro i
   by_cases hi : i < cs.length
   ·obtain ⟨u, h5, h6⟩ := h4 i _ (List.getElem?_eq_getElem hi)
    have hi' : i < a.size := by omega
    have := h i _ a[i] (List.getElem?_eq_getElem hi) (by simp [hi'])
    rw [h6] at this
    cases this
    simp [h5, hi']
   ·have : a[i]? = none := by simp; omega
    rw [this]
    simp; omega
 have h1 := val x as us hx hu
 have h2 := val y bs vs hy hv
 obtain ⟨k1, k2, k3⟩ := JF hok
 have he : ∀ w, (Op.equalIn 10000 t (.agg us.toArray) (.agg vs.toArray)).run C.P w = .ok (eqL us vs) w := by
  intro w
  have := acy 9 t ks hE.kinds us vs k1 k2 k3 9991 w
  unfold Ia Am at this
  rw [hE.agg] at this
  exact this
 refine ⟨_, fun w' hk' => ?_, .v rfl⟩
 cases neg <;> simp only [execOp, ho, h1, h2, Sem.run_bind, run_eqGuard_agg _ _ _ _ _ _ _ hE.guard, Result.andThen_ok, Bool.false_eq_true, if_false, if_true, run_eql_struct, run_neq_struct, he, Sem.run_pure, cond_true, cond_false]
end
end Go.V
