/- The V-layer, part F: code and functions. No premises. -/
import Derived.Test.YteocabneaenpeaaGreatVE
import Derived.ScopeJumps
import Derived.Deep.LoopGhost
set_option linter.unusedVariables false
set_option linter.unusedSimpArgs false
namespace Go.V
open Go.RowKit

/-! ### Code -/
inductive VCode where
  | skip
  | ops (l : List VOp)
  | draw (l : List DOp)
  | seq (a b : VCode)
  | cond (c : Operand) (a b : VCode)
  | block (id : Nat) (c : VCode)
  | loop (c : VCode)
  | exit (id : Nat)
  | ret

def EW (C : Ctx) (c : Code) (Q : Exit → St → Prop) (s : St) : Prop := ∀ β a w, R C s β a w → c.wp C.P (fun e a' w' => ∃ s' β', R C s' β' a' w' ∧ Q e s') a w

def compileOps (P : Program) (nt : Nat) (ops : Array Oper) : List Oper → Option (List VOp)
  | [] => some []
  | o :: l => (compileOp P nt ops o).bind fun v => (compileOps P nt ops l).map (v :: ·)
def compileC (P : Program) (nt : Nat) : Code → Option VCode
  | .skip => some .skip
  | .region _ ops draw => if draw then (if P.follows .mixedOrders && allApart ops && Region.noSelect ops then (compileDs P nt ops ops.toList).map .draw else none) else (compileOps P nt ops ops.toList).map .ops
  | .seq a b => (compileC P nt a).bind fun x => (compileC P nt b).map fun y => .seq x y
  | .cond c a b => (compileC P nt a).bind fun x => (compileC P nt b).map fun y => .cond c x y
  | .block id c => (compileC P nt c).map fun x => .block id x
  | .loop c => (compileC P nt c).map fun x => .loop x
  | .exit id => some (.exit id)
  | .ret => some .ret
  | _ => none

def EV (C : Ctx) (v : VCode) (Q : Exit → St → Prop) (s : St) : Prop := ∀ c, compileC C.P C.nt c = some v → EW C c Q s

theorem compileOps_rel {P : Program} {nt : Nat} {ops : Array Oper} : ∀ {l : List Oper} {vs : List VOp}, compileOps P nt ops l = some vs → vs.length = l.length ∧ ∀ (k : Nat) (o : Oper) (v : VOp), l[k]? = some o → vs[k]? = some v → OpRel P nt ops o v
  | [], vs, h => by simp [compileOps] at h; subst h; simp
  | o :: l, vs, h => by
    simp only [compileOps] at h
    obtain ⟨v, hv, h⟩ := Option.bind_eq_some_iff.1 h
    obtain ⟨vs', hvs, rfl⟩ := Option.map_eq_some_iff.1 h
    obtain ⟨h1, h2⟩ := compileOps_rel hvs
    refine ⟨by simp [h1], fun k o' v' h3 h4 => ?_⟩
    cases k with
    | zero => simp at h3 h4; subst h3; subst h4; exact opRel_of hv
    | succ k => exact h2 k o' v' (by simpa using h3) (by simpa using h4)

def QThen (K : St → Prop) (Q : Exit → St → Prop) : Exit → St → Prop
  | .normal, s => K s
  | e, s => Q e s
def QBlock (id : Nat) (Q : Exit → St → Prop) : Exit → St → Prop
  | .exit id', s => bif (id' == id) then Q .normal s else Q (.exit id') s
  | e, s => Q e s

/-- What is known of code that is read as this. -/
def CSpec (P : Program) (nt : Nat) (c : Code) : VCode → Prop
  | .skip => c = .skip
  | .ops l => ∃ id ops, c = .region id ops false ∧ compileOps P nt ops ops.toList = some l
  | .draw l => ∃ id ops, c = .region id ops true ∧ compileDs P nt ops ops.toList = some l ∧ P.follows .mixedOrders = true ∧ allApart ops = true ∧ Region.noSelect ops = true
  | .seq x y => ∃ a b, c = .seq a b ∧ compileC P nt a = some x ∧ compileC P nt b = some y
  | .cond o x y => ∃ a b, c = .cond o a b ∧ compileC P nt a = some x ∧ compileC P nt b = some y
  | .block id x => ∃ a, c = .block id a ∧ compileC P nt a = some x
  | .loop x => ∃ a, c = .loop a ∧ compileC P nt a = some x
  | .exit id => c = .exit id
  | .ret => c = .ret
theorem cspec_of {P : Program} {nt : Nat} {c : Code} {v : VCode} (h : compileC P nt c = some v) : CSpec P nt c v := by
  cases c with
  | skip => simp only [compileC] at h; injection h with h; subst h; rfl
  | region id ops draw =>
    simp only [compileC] at h
    split at h
    · rename_i hd
      subst hd
      split at h
      · rename_i hb
        simp only [Bool.and_eq_true] at hb
        obtain ⟨l, hl, rfl⟩ := Option.map_eq_some_iff.1 h
        exact ⟨id, ops, rfl, hl, hb.1.1, hb.1.2, hb.2⟩
      · cases h
    · rename_i hd
      obtain ⟨l, hl, rfl⟩ := Option.map_eq_some_iff.1 h
      obtain rfl : draw = false := by simpa using hd
      exact ⟨id, ops, rfl, hl⟩
  | seq a b =>
    simp only [compileC, Option.bind_eq_some_iff, Option.map_eq_some_iff] at h
    obtain ⟨x, hx, y, hy, rfl⟩ := h
    exact ⟨a, b, rfl, hx, hy⟩
  | cond o a b =>
    simp only [compileC, Option.bind_eq_some_iff, Option.map_eq_some_iff] at h
    obtain ⟨x, hx, y, hy, rfl⟩ := h
    exact ⟨a, b, rfl, hx, hy⟩
  | block id a =>
    simp only [compileC, Option.map_eq_some_iff] at h
    obtain ⟨x, hx, rfl⟩ := h
    exact ⟨a, rfl, hx⟩
  | loop a =>
    simp only [compileC, Option.map_eq_some_iff] at h
    obtain ⟨x, hx, rfl⟩ := h
    exact ⟨a, rfl, hx⟩
  | exit id => simp only [compileC] at h; injection h with h; subst h; rfl
  | ret => simp only [compileC] at h; injection h with h; subst h; rfl
  | _ => simp [compileC] at h

section
variable {C : Ctx} {s : St} {Q : Exit → St → Prop}
theorem E_skip (h : Q .normal s) : EV C .skip Q s := by
  intro c hc
  obtain rfl := cspec_of hc
  exact fun β a w hR => wp_skip ⟨s, β, hR, h⟩
theorem E_ret (h : Q .ret s) : EV C .ret Q s := by
  intro c hc
  obtain rfl := cspec_of hc
  exact fun β a w hR => wp_ret ⟨s, β, hR, h⟩
theorem E_exit {id : Nat} (h : Q (.exit id) s) : EV C (.exit id) Q s := by
  intro c hc
  obtain rfl := cspec_of hc
  exact fun β a w hR => wp_exit ⟨s, β, hR, h⟩
theorem E_ops {l : List VOp} (h : WL C l s (Q .normal)) : EV C (.ops l) Q s := by
  intro c hc
  obtain ⟨id, ops, rfl, hl⟩ := cspec_of hc
  obtain ⟨h1, h2⟩ := compileOps_rel hl
  refine fun β a w hR => wp_region (h ops (List.range ops.size) (by simp [h1]) (fun k i v hk hv => ?_) β a w hR _ fun s' β' a' w' hs hR' => ⟨s', β', hR', hs⟩)
  have hlt : k < ops.size := by have := (List.getElem?_eq_some_iff.1 hk).1; simpa using this
  have hik : i = k := by
    rw [List.getElem?_range hlt] at hk
    injection hk with hk
    exact hk.symm
  subst hik
  have ho : ops.toList[i]? = some ops[i] := by simp [hlt]
  exact ⟨ops[i], by simp [hlt], h2 i ops[i] v ho hv⟩
theorem E_draw {l : List DOp} (qs : List Nat) (h : XW C l qs true (List.replicate l.length false) s (Q .normal)) : EV C (.draw l) Q s := by
  intro c hc
  obtain ⟨id, ops, rfl, hl, hm, hap, hns⟩ := cspec_of hc
  obtain ⟨h1, h2⟩ := compileDs_rel hl
  intro β a w hR
  have hk : Kept (fun _ => False) w { w with drawn := w.drawn + 1 } := ⟨rfl, rfl, rfl, Nat.le_refl _, fun _ _ _ => rfl, fun b cur ety hh => ⟨cur, hh, rfl⟩⟩
  have hR' : R C s β a { w with drawn := w.drawn + 1 } := by
    have hx : Ext (C.I s.st β w) (C.I s.st β { w with drawn := w.drawn + 1 }) s.st s.st β β w { w with drawn := w.drawn + 1 } :=
      ⟨fun _ h => h, fun _ _ => rfl, fun _ h => ⟨h, rfl⟩, fun _ _ _ _ cur ety hh => ⟨cur, hh, rfl⟩⟩
    exact ⟨⟨⟨hR.ok.kept.os, hR.ok.kept.tape, hR.ok.kept.output, hR.ok.kept.size, hR.ok.kept.block, hR.ok.kept.shape⟩, fun r g hg => by
      have := hR.ok.store r g hg
      refine ⟨this.1, ?_⟩
      have h3 := this.2
      cases hb : β r with
      | none => rw [hb] at h3; exact h3
      | some b =>
        rw [hb] at h3
        obtain ⟨cur, ety, h4, h5, h6⟩ := h3
        exact ⟨cur, ety, h4, h5, fun j t hj => by obtain ⟨u, h7, h8⟩ := h6 j t hj; exact ⟨u, h7, RelT.ext hx h8⟩⟩, hR.ok.inj, hR.ok.wher, hR.ok.fixd⟩, hR.defers, hR.size, fun i => RelS.ext hx (hR.env i)⟩
  have hrel : DRel C ops l := by
    refine ⟨by simpa using h1.symm, fun k o v hk hv => h2 k o v (by simpa using hk) hv, hap, Region.noSelect_spec hns⟩
  have hX := h (by simp) ops hrel (fun j oj _ hl => by
    rw [Array.getD_eq_getD_getElem?, List.getElem?_toArray] at hl
    cases hj : (List.replicate l.length false)[j]? with
    | none => rw [hj] at hl; cases hl
    | some b =>
      have := (List.mem_replicate.1 (List.mem_of_getElem? hj)).2
      rw [hj] at hl; subst this; cases hl) β a _ hR' _ (fun _ => rfl) (fun e a' w' => match e with | .normal => ∃ s' β', R C s' β' a' w' ∧ Q .normal s' | _ => False) (fun c a w h => h) (fun s' β' a' w' hs hR => ⟨s', β', hR, hs⟩) ops.size
    (by rw [hrel.size]; simp)
  have hrep : (List.replicate l.length false).toArray = Array.replicate ops.size false := by rw [hrel.size]; simp
  rw [hrep] at hX
  refine wp_mono (wp_region_any hm (any_of_X _ _ _ _ hX)) ?_
  rintro e a' w' hq
  cases e with
  | normal => exact hq
  | _ => exact hq.elim
theorem E_seq {x y : VCode} (h : EV C x (QThen (EV C y Q) Q) s) : EV C (.seq x y) Q s := by
  intro c hc
  obtain ⟨a, b, rfl, ha, hb⟩ := cspec_of hc
  intro β ac w hR
  refine wp_seq (wp_mono (h a ha β ac w hR) ?_)
  rintro e a' w' ⟨s', β', hR', hq⟩
  cases e with
  | normal => exact hq b hb β' a' w' hR'
  | _ => exact ⟨s', β', hR', hq⟩
theorem E_cond {o : Operand} {x y : VCode} {b : Bool} (ho : s.ev o = .one (.v (.bool b))) (h1 : b = true → EV C x Q s) (h2 : b = false → EV C y Q s) : EV C (.cond o x y) Q s := by
  intro c hc
  obtain ⟨ca, cb, rfl, ha, hb⟩ := cspec_of hc
  intro β ac w hR
  have hv := (ho ▸ hR.ev o).plain
  refine wp_cond hv ?_
  cases b
  · exact h2 rfl cb hb β ac w hR
  · exact h1 rfl ca ha β ac w hR
theorem E_block {id : Nat} {x : VCode} (h : EV C x (QBlock id Q) s) : EV C (.block id x) Q s := by
  intro c hc
  obtain ⟨a, rfl, ha⟩ := cspec_of hc
  intro β ac w hR
  refine wp_block (wp_mono (h a ha β ac w hR) ?_)
  rintro e a' w' ⟨s', β', hR', hq⟩
  cases e with
  | exit id' =>
    simp only [QBlock] at hq
    simp only [Exit.inBlock]
    split
    · rename_i he; subst he; simp only [beq_self_eq_true, cond_true] at hq; exact ⟨s', β', hR', hq⟩
    · rename_i he; rw [beq_false' he, cond_false] at hq; exact ⟨s', β', hR', hq⟩
  | _ => exact ⟨s', β', hR', hq⟩

/-- A state that says no more than another. -/
def Le (s s' : St) : Prop := ∀ (C : Ctx) β a w, R C s β a w → R C s' β a w

theorem E_mono {x : VCode} {Q' : Exit → St → Prop} (h : EV C x Q' s) (hq : ∀ e s, Q' e s → Q e s) : EV C x Q s :=
  fun c hc β a w hR => wp_mono (h c hc β a w hR) fun e a' w' ⟨s', β', hR', h'⟩ => ⟨s', β', hR', hq e s' h'⟩
end

/-! ### Weaker states -/
def leEnv (e : Env) : Env → Prop
  | [] => True
  | (i, x) :: l => (eget e i = x) ∧ leEnv e l
def leSt (st : Store) : Store → Prop
  | [] => True
  | (r, g) :: l => (sget st r = some g) ∧ leSt st l
theorem leEnv_get {e : Env} : ∀ {l : Env}, leEnv e l → ∀ i, eget l i = eget e i ∨ eget l i = .one .dead
  | [], _, i => .inr rfl
  | (k, x) :: l, h, i => by
    simp only [eget]
    cases hb : (k == i) with
    | true =>
      have : k = i := eq_of_beq hb
      subst this
      exact .inl h.1.symm
    | false => exact leEnv_get h.2 i
theorem leSt_get {st : Store} : ∀ {l : Store}, leSt st l → ∀ r g, sget l r = some g → sget st r = some g
  | [], _, r, g, h => by cases h
  | (k, x) :: l, h, r, g, hg => by
    simp only [sget] at hg
    cases hb : (k == r) with
    | true =>
      have : k = r := eq_of_beq hb
      subst this
      rw [hb] at hg; injection hg with hg; subst hg
      exact h.1
    | false => rw [hb] at hg; exact leSt_get h.2 r g hg

theorem le_mk {s s' : St} (h1 : leEnv s.env s'.env) (h2 : leSt s.st s'.st) : Le s s' := by
  intro C β a w hR
  have hR1 := hR.drop (st' := s'.st) (leSt_get h2)
  refine ⟨hR1.ok, hR1.defers, hR1.size, fun i => ?_⟩
  rcases leEnv_get h1 i with h | h
  · rw [h]; exact hR1.env i
  · rw [h]; exact .one trivial

/-! ### Functions -/
inductive RV where
  | tmp (t : Nat)
  | cell (agg : Bool) (n t : Nat)
def compileR (P : Program) : List ResultVar → Option (List RV)
  | [] => some []
  | .tmp t :: l => (compileR P l).map (.tmp t :: ·)
  | .cell t ty :: l => (szP P ty).bind fun n => (isAggP P ty).bind fun ag => if ag = false ∧ n ≠ 1 then none else (compileR P l).map (.cell ag n t :: ·)
def resL (s : St) : List RV → List S → Prop
  | [], xs => xs = []
  | .tmp t :: l, xs => ∃ ys, xs = eget s.env t :: ys ∧ resL s l ys
  | .cell true n t :: l, xs => ∃ ts ys, At s (eget s.env t) ts ∧ ts.length = n ∧ xs = .agg ts :: ys ∧ resL s l ys
  | .cell false n t :: l, xs => ∃ u ys, At s (eget s.env t) [u] ∧ xs = .one u :: ys ∧ resL s l ys
def resOf : List S → S
  | [x] => x
  | xs => .tup xs

/-- What a function comes to, called on these with these regions: no panic, no end but a return; its result and the regions behind it are among Q. -/
def AC (P : Program) (f : FuncId) (args : List S) (st : Store) (Q : S → Store → Prop) : Prop :=
  ∀ (w : World) (E I0 : Nat → Prop) (i0 : ∀ b, I0 b → b < w.heap.size ∧ ¬ E b) (fix : Nat → Option (Option Nat)) (fx : ∀ r, Nat.blt r 100000 = true → fix r = none) (β : Nat → Option Nat) (vs : Array Value),
    let C : Ctx := ⟨P, 0, E, w, I0, i0, fix, fx⟩
    StOK C st β w → vs.size = args.length → (∀ (i : Nat) (x : S) (v : Value), args[i]? = some x → vs[i]? = some v → RelS w st β (C.I st β w) x v) →
    Calls P f vs w (fun e w' => ∃ v x st' β', e = .returned v ∧ StOK C st' β' w' ∧ RelS w' st' β' (C.I st' β' w') x v ∧ Q x st')

def enum : Nat → List S → Env
  | _, [] => []
  | i, x :: l => (i, x) :: enum (i + 1) l
theorem eget_enum : ∀ (l : List S) (k i : Nat), eget (enum k l) i = if k ≤ i then (l[i - k]?).getD (.one .dead) else .one .dead
  | [], k, i => by simp [enum, eget]
  | x :: l, k, i => by
    simp only [enum, eget]
    cases hb : (k == i) with
    | true =>
      have : k = i := eq_of_beq hb
      subst this
      simp
    | false =>
      have hne : k ≠ i := fun e => by subst e; simp at hb
      rw [cond_false, eget_enum l (k + 1) i]
      by_cases h : k ≤ i
      · rw [if_pos h, if_pos (by omega)]
        have : i - k = (i - (k + 1)) + 1 := by omega
        rw [this, List.getElem?_cons_succ]
      · rw [if_neg h, if_neg (by omega)]

def resV (tmps : Array Value) : ResultVar → Sem Value
  | .tmp t => pure (tmps.getD t undef)
  | .cell p t => do loadVar t (← asAddr (tmps.getD p undef))
theorem run_resV_tmp {P : Program} {w : World} (tmps : Array Value) (t : Nat) : (resV tmps (.tmp t)).run P w = .ok (tmps.getD t undef) w := rfl
theorem res_run {C : Ctx} {s : St} {β : Nat → Option Nat} {a : Act} {w : World} (hR : R C s β a w) : ∀ {l : List ResultVar} {rs : List RV} {xs : List S}, compileR C.P l = some rs → resL s rs xs →
    ∃ vs : List Value, (l.mapM (resV a.tmps)).run C.P w = .ok vs w ∧ vs.length = xs.length ∧
      ∀ (i : Nat) (x : S) (v : Value), xs[i]? = some x → vs[i]? = some v → RelS w s.st β (C.I s.st β w) x v
  | [], rs, xs, hc, hx => by
    simp only [compileR] at hc; injection hc with hc; subst hc
    simp only [resL] at hx; subst hx
    exact ⟨[], rfl, rfl, fun i x v h => by simp at h⟩
  | .tmp t :: l, rs, xs, hc, hx => by
    simp only [compileR] at hc
    obtain ⟨rs', hc', rfl⟩ := Option.map_eq_some_iff.1 hc
    obtain ⟨ys, rfl, hy⟩ := hx
    obtain ⟨vs, h1, h2, h3⟩ := res_run hR hc' hy
    refine ⟨a.tmps.getD t undef :: vs, by simp only [List.mapM_cons, Sem.run_bind, run_resV_tmp, Sem.run_pure, Result.andThen_ok, h1], by simp [h2], fun i x v hi hv => ?_⟩
    cases i with
    | zero =>
      simp only [List.getElem?_cons_zero, Option.some.injEq] at hi hv
      subst hi; subst hv; exact hR.env t
    | succ i => exact h3 i x v (by simpa using hi) (by simpa using hv)
  | .cell p ty :: l, rs, xs, hc, hx => by
    simp only [compileR] at hc
    obtain ⟨n, hn, hc⟩ := Option.bind_eq_some_iff.1 hc
    obtain ⟨ag, hag, hc⟩ := Option.bind_eq_some_iff.1 hc
    split at hc
    · cases hc
    · rename_i h01
      obtain ⟨rs', hc', rfl⟩ := Option.map_eq_some_iff.1 hc
      cases ag with
      | true =>
        obtain ⟨ts, ys, hat, hts, rfl, hy⟩ := hx
        obtain ⟨vs, h1, h2, h3⟩ := res_run hR hc' hy
        obtain ⟨b, off, hu, hcl⟩ := hat.cells hR (hR.env p)
        obtain ⟨us, h4', h5, h6⟩ := hcl.load (P := C.P)
        have h4 := h4' w (Kept.refl _ _)
        subst hts
        have hrv : (resV a.tmps (.cell p ty)).run C.P w = .ok (.agg us) w := by
          simp only [resV, Sem.run_bind, hu, asAddr, Sem.run_pure, Result.andThen_ok, loadVar, run_isAgg hag, run_size hn, if_true, h4]
        refine ⟨.agg us :: vs, by simp only [List.mapM_cons, Sem.run_bind, hrv, Sem.run_pure, Result.andThen_ok, h1], by simp [h2], fun i x v hi hv => ?_⟩
        cases i with
        | zero => simp at hi hv; subst hi; subst hv; exact .agg h5 h6
        | succ i => exact h3 i x v (by simpa using hi) (by simpa using hv)
      | false =>
        obtain ⟨t, ys, hat, rfl, hy⟩ := hx
        obtain ⟨vs, h1, h2, h3⟩ := res_run hR hc' hy
        obtain ⟨b, off, hu, hcl⟩ := hat.cells hR (hR.env p)
        obtain ⟨u, h4, h5⟩ := hcl 0 t rfl
        rw [Nat.add_zero] at h4
        have hrv : (resV a.tmps (.cell p ty)).run C.P w = .ok u w := by
          simp only [resV, Sem.run_bind, hu, asAddr, Sem.run_pure, Result.andThen_ok, loadVar, run_isAgg hag, Bool.false_eq_true, if_false, run_load, h4]
        refine ⟨u :: vs, by simp only [List.mapM_cons, Sem.run_bind, hrv, Sem.run_pure, Result.andThen_ok, h1], by simp [h2], fun i x v hi hv => ?_⟩
        cases i with
        | zero => simp at hi hv; subst hi; subst hv; exact .one h5
        | succ i => exact h3 i x v (by simpa using hi) (by simpa using hv)

def one1 : List Value → Value
  | [u] => u
  | us => .tuple us.toArray
theorem results_eq (fn : Func) (tmps : Array Value) : results fn tmps = (do let vs ← fn.results.mapM (resV tmps); pure (if h : vs.size = 1 then vs[0] else .tuple vs)) := by
  unfold results
  have : (fun x : ResultVar => match x with | .tmp t => (pure (tmps.getD t undef) : Sem Value) | .cell a t => do loadVar t (← asAddr (tmps.getD a undef))) = resV tmps := by
    funext x; cases x <;> rfl
  exact congrArg (fun f => (do let vs ← fn.results.mapM f; pure (if h : vs.size = 1 then vs[0] else .tuple vs) : Sem Value)) this
theorem run_results {P : Program} {w : World} {fn : Func} {tmps : Array Value} {us : List Value} (h : (fn.results.toList.mapM (resV tmps)).run P w = .ok us w) : (results fn tmps).run P w = .ok (one1 us) w := by
  rw [results_eq, Array.mapM_eq_mapM_toList]
  simp only [map_eq_pure_bind, Sem.run_bind, h, Result.andThen_ok, Sem.run_pure]
  match us with
  | [] => rfl
  | [u] => rfl
  | u :: v :: us => simp [one1]
theorem AC_intro0 {P : Program} {f : FuncId} {fn : Func} {c : Code} {vc : VCode} {rs : List RV} {args : List S} {st : Store} {Q : S → Store → Prop} (hf : P.funcs[f]? = some fn) (hb : fn.body = some c)
    (hc : compileC P fn.ntmps c = some vc) (hrs : compileR P fn.results.toList = some rs) (hn : args.length ≤ fn.ntmps)
    (h : ∀ C : Ctx, C.P = P → EV C vc (fun e s => (e = .normal ∨ e = .ret) ∧ ∃ xs, resL s rs xs ∧ Q (resOf xs) s.st) ⟨enum 0 args, st⟩) : AC P f args st Q := by
  intro w E I0 i0 fix fx β vs C hok hsz hrel
  let C' : Ctx := ⟨P, fn.ntmps, E, w, I0, i0, fix, fx⟩
  have hok' : StOK C' st β w := ⟨hok.kept, hok.store, hok.inj, hok.wher, hok.fixd⟩
  have hR : R C' ⟨enum 0 args, st⟩ β { tmps := vs ++ Array.replicate (fn.ntmps - vs.size) undef, defers := [] } w := by
    refine ⟨hok', rfl, ?_, fun i => ?_⟩
    · show (vs ++ Array.replicate (fn.ntmps - vs.size) undef).size = fn.ntmps
      simp; omega
    show RelS w st β (C.I st β w) (eget (enum 0 args) i) _
    rw [eget_enum]
    simp only [Nat.zero_le, if_true, Nat.sub_zero]
    cases ha : args[i]? with
    | none => exact .one trivial
    | some x =>
      have hlt : i < vs.size := by
        have := (List.getElem?_eq_some_iff.1 ha).1
        omega
      have hg : (vs ++ Array.replicate (fn.ntmps - vs.size) undef).getD i undef = vs[i] := by
        simp [Array.getD_eq_getD_getElem?, Array.getElem?_append_left hlt, Array.getElem?_eq_getElem hlt]
      simp only [Option.getD_some]
      show RelS _ _ _ _ _ ((vs ++ Array.replicate (fn.ntmps - vs.size) undef).getD i undef)
      rw [hg]
      exact hrel i x _ ha (Array.getElem?_eq_getElem hlt)
  refine calls_of_wp hf hb (wp_mono (h C' rfl c hc β _ w hR) ?_)
  rintro e a' w' ⟨s', β', hR', he, xs, hxs, hq⟩
  obtain ⟨us, h1, h2, h3⟩ := res_run hR' hrs hxs
  have hrun := run_results (fn := fn) h1
  have hrelx : RelS w' s'.st β' (C.I s'.st β' w') (resOf xs) (one1 us) := by
    match us, xs, h2, h3 with
    | [], [], _, h3 => exact .tup rfl (fun i s u h => by simp at h)
    | [u], [x], _, h3 => exact h3 0 x u rfl rfl
    | u :: v :: us, x :: y :: xs, h2, h3 => exact .tup (by simpa using h2) (fun i s u' hs hu => h3 i s u' hs (by simpa using hu))
  have hok2 : StOK C s'.st β' w' := ⟨hR'.ok.kept, hR'.ok.store, hR'.ok.inj, hR'.ok.wher, hR'.ok.fixd⟩
  rcases he with rfl | rfl
  · exact ⟨hR'.defers, _, hrun, _, _, _, _, rfl, hok2, hrelx, hq⟩
  · exact ⟨hR'.defers, _, hrun, _, _, _, _, rfl, hok2, hrelx, hq⟩

/-- A function whose code is read as 'vc': all that is asked of it besides the walk, in one closed fact. -/
def Fits (P : Program) (f : FuncId) (n : Nat) (vc : VCode) (rs : List RV) : Prop :=
  ∃ fn c, P.funcs[f]? = some fn ∧ fn.body = some c ∧ compileC P fn.ntmps c = some vc ∧ compileR P fn.results.toList = some rs ∧ n.ble fn.ntmps = true
theorem fits_mk {P : Program} {f : FuncId} {n : Nat} {vc : VCode} {rs : List RV} {fn : Func} (hf : P.funcs[f]? = some fn) (h : (fn.body.bind (compileC P fn.ntmps)) = some vc) (hr : compileR P fn.results.toList = some rs) (hn : n.ble fn.ntmps = true) : Fits P f n vc rs := by
  obtain ⟨c, hc, hv⟩ := Option.bind_eq_some_iff.1 h
  exact ⟨fn, c, hf, hc, hv, hr, hn⟩
theorem AC_intro {P : Program} {f : FuncId} {n : Nat} {vc : VCode} {rs : List RV} {args : List S} {st : Store} {Q : S → Store → Prop} (hf : Fits P f n vc rs) (hn : args.length = n)
    (h : ∀ C : Ctx, C.P = P → EV C vc (fun e s => (e = .normal ∨ e = .ret) ∧ ∃ xs, resL s rs xs ∧ Q (resOf xs) s.st) ⟨enum 0 args, st⟩) : AC P f args st Q := by
  obtain ⟨fn, c, h1, h2, h3, h4, h5⟩ := hf
  exact AC_intro0 h1 h2 h3 h4 (by rw [hn]; simpa [Nat.ble_eq] using h5) h
end Go.V
