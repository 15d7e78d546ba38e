/- The V-layer, part D: calls. No premises. -/
import Derived.Test.YteocabneaenpeaaGreatVF
set_option linter.unusedVariables false
set_option linter.unusedSimpArgs false
namespace Go.V
open Go.RowKit

/-- Where all that was there is as it was, a state stands as it did. -/
theorem R.later {C : Ctx} {s : St} {β : Nat → Option Nat} {a : Act} {w w' : World} (hR : R C s β a w) (hk : Kept (fun _ => False) w w') : R C s β a w' ∧ Ext (C.I s.st β w) (C.I s.st β w') s.st s.st β β w w' := by
  have hb : ∀ b, b < w.heap.size → w'.heap[b]? = w.heap[b]? := fun b hb => hk.block b hb (fun h => h)
  have hI : ∀ b, C.I s.st β w b → C.I s.st β w' b := by
    rintro b (h0 | ⟨h1, h2, h3⟩)
    · exact .inl h0
    · exact .inr ⟨h1, by have := hk.size; omega, h3⟩
  have hx : Ext (C.I s.st β w) (C.I s.st β w') s.st s.st β β w w' :=
    ⟨hI, fun b h => hb b (C.I_lt hR.ok.kept h), fun r hr => ⟨hr, rfl⟩, fun r b hr hrb cur ety hh => ⟨cur, (hb b (hR.ok.lt hr hrb)).trans hh, rfl⟩⟩
  refine ⟨⟨⟨?_, ?_, hR.ok.inj, hR.ok.wher, hR.ok.fixd⟩, hR.defers, hR.size, fun i => RelS.ext hx (hR.env i)⟩, hx⟩
  · have h0 := hR.ok.kept
    refine ⟨hk.os.trans h0.os, hk.tape.trans h0.tape, hk.output.trans h0.output, Nat.le_trans h0.size hk.size, fun b hlt hE => (hb b (by have := h0.size; omega)).trans (h0.block b hlt hE), fun b cur ety hh => ?_⟩
    obtain ⟨c1, h1, h2⟩ := h0.shape b cur ety hh
    exact ⟨c1, (hb b (Array.getElem?_eq_some_iff.1 h1).1).trans h1, h2⟩
  · intro r g hg
    have := hR.ok.store r g hg
    refine ⟨this.1, ?_⟩
    have h2 := this.2
    cases hrb : β r with
    | none => rw [hrb] at h2; exact h2
    | some b =>
      rw [hrb] at h2
      obtain ⟨cur, ety, h3, h4, h5⟩ := h2
      refine ⟨cur, ety, (hb b (hR.ok.lt (by rw [hg]; rfl) hrb)).trans h3, h4, fun j t hj => ?_⟩
      obtain ⟨u, h6, h7⟩ := h5 j t hj
      exact ⟨u, h6, RelT.ext hx h7⟩

/-- The same with nothing owned: what a value says where only unwritten memory counts. -/
def S.isPure : S → Bool
  | .one t => t.isPure
  | .agg ts => allPure ts
  | .tup l => pureL l
where pureL : List S → Bool
  | [] => true
  | s :: l => S.isPure s && pureL l
theorem S.pureL_get {l : List S} (h : S.isPure.pureL l = true) {i : Nat} {s : S} (hi : l[i]? = some s) : s.isPure = true := by
  induction l generalizing i with
  | nil => simp at hi
  | cons x l ih =>
    simp only [S.isPure.pureL, Bool.and_eq_true] at h
    cases i with
    | zero => simp at hi; subst hi; exact h.1
    | succ i => exact ih h.2 (by simpa using hi)
theorem RelS.pure {w : World} {st st' : Store} {β β' : Nat → Option Nat} {I I' : Nat → Prop} (hI : ∀ b, I b → I' b) {x : S} {u : Value} (h : RelS w st β I x u) (hp : x.isPure = true) : RelS w st' β' I' x u := by
  have ht : ∀ (t : T) (u : Value), RelT w st β I t u → t.isPure = true → RelT w st' β' I' t u := fun t u h hp => (Rep.mono (fun _ _ => rfl) hI (T.pure_rep hp w st β I u h)).relT
  induction h with
  | one h => exact .one (ht _ _ h hp)
  | agg hs h => exact .agg hs fun i t u h1 h2 => ht t u (h i t u h1 h2) (allPure_mem hp t (List.mem_of_getElem? h1))
  | tup hs h ih => exact .tup hs fun i s u h1 h2 => ih i s u h1 h2 (S.pureL_get hp h1)

theorem run_call {P : Program} {w : World} {a : Act} {o : Oper} {f : FuncId} {args : Array Operand} {ats : Array TypeId} (ho : o.op = .call { callee := .value (.func f), args := args, argTypes := ats }) (hc : callP P f = true) :
    (execOp a.eval o).run P w = .ok (.enter f (args.map a.eval)) w := by
  unfold callP at hc
  cases hf : P.funcs[f]? with
  | none => rw [hf] at hc; cases hc
  | some fn =>
    rw [hf] at hc
    simp only [Bool.and_eq_true] at hc
    have h1 : fn.body.isNone = false := by
      cases h : fn.body with
      | none => rw [h] at hc; simp at hc
      | some _ => rfl
    have h2 : (fn.name == "runtime.NumGoroutine") = false := by simpa [bne] using hc.2
    have h3 : ¬ fn.name = "runtime.NumGoroutine" := by simpa using h2
    have h4 : fn.body ≠ none := by intro e; rw [e] at h1; cases h1
    simp [execOp, ho, resolve, Act.eval, Deferred.ofValue, invoke, callFunc, hf, h3, h4]

section
variable {C : Ctx} {s : St} {d : Option Nat}
/-- A call that is handed plain data, and hands back plain data. -/
theorem does_call {f : FuncId} {xs : List Operand} {ps : List S} {Q : S → Prop} (hx : xs.map s.ev = ps) (hp : S.isPure.pureL ps = true) (hAC : AC C.P f ps [] (fun x st' => Q x ∧ st' = [])) (hq' : ∀ x, Q x → x.isPure = true) :
    Does C (.call f xs) d s true (fun s' => ∃ x, Q x ∧ s' = s.put d x) := by
  intro o ho hd hn β a w hR next R' hK
  obtain ⟨args, ats, ho, rfl, hc⟩ := ho
  unfold Oper.wp
  rw [run_call ho hc, Oper.upon_enter]
  have h0 : ∀ b, C.I s.st β w b → b < w.heap.size ∧ ¬ False := fun b hb => ⟨C.I_lt hR.ok.kept hb, fun h => h⟩
  refine (hAC w (fun _ => False) (C.I s.st β w) h0 (fun _ => none) (fun _ _ => rfl) (fun _ => none) (args.map a.eval) ⟨Kept.refl _ _, fun r g h => (by cases h), fun r r' b h => (by cases h), fun r b h => (by cases h), fun r b h => (by cases h)⟩ ?_ ?_).mono ?_
  · subst hx; simp
  · intro i x v h1 h2
    subst hx
    rw [List.getElem?_map] at h1
    obtain ⟨y, hy, rfl⟩ := Option.map_eq_some_iff.1 h1
    have hv : v = a.eval y := by
      rw [Array.getElem?_map] at h2
      have hy' : args[i]? = some y := by simpa using hy
      rw [hy'] at h2
      simpa using h2.symm
    subst hv
    have h3 : (args.toList.map s.ev)[i]? = some (s.ev y) := by rw [List.getElem?_map, hy]; rfl
    exact RelS.pure (I := C.I s.st β w) (fun b hb => .inl hb) (hR.ev y) (S.pureL_get hp h3)
  · rintro e w' ⟨v, x, st', β', rfl, hok, hrel, hq, rfl⟩
    have hk : Kept (fun _ => False) w w' := hok.kept
    obtain ⟨hR', hx'⟩ := hR.later hk
    refine hK (s.put d x) β (a.put o.dst v) w' ⟨x, hq, rfl⟩ ?_ (fun _ => hk)
    rw [hd]
    refine hR'.putAny ?_ hn
    refine RelS.pure (fun b hb => ?_) hrel (hq' x hq)
    rcases hb with h1 | ⟨h1 | h1, h2, _⟩
    · exact hx'.imm b h1
    · exact h1.elim
    · refine .inr ⟨.inr (by have := hR.ok.kept.size; replace h1 : w.heap.size ≤ b := h1; omega), h2, fun r hr hrb => ?_⟩
      have := hR.ok.lt hr hrb
      replace h1 : w.heap.size ≤ b := h1
      omega
end
end Go.V
