/- The V-layer, part E: regions that draw their order. No premises. -/
import Derived.Test.YteocabneaenpeaaGreatVC
set_option linter.unusedVariables false
set_option linter.unusedSimpArgs false
namespace Go.V
open Go.RowKit

section
variable {P : Program} {ops : Array Oper} {Q : Exit → Act → World → Prop} {qs : List Nat} {Z : World → Prop}

/-- Number j waits for q, straight or through others. -/
inductive Reach (ops : Array Oper) : Nat → Nat → Prop
  | one {j : Nat} {oj : Oper} {e : Edge} (ho : ops[j]? = some oj) (he : e ∈ oj.after) (hb : Region.binds .any e = true) : Reach ops j e.on
  | step {j q : Nat} {oj : Oper} {e : Edge} (ho : ops[j]? = some oj) (he : e ∈ oj.after) (hb : Region.binds .any e = true) (h : Reach ops e.on q) : Reach ops j q
/-- Whatever has come up, what it waits for has, too. -/
def Closed (ops : Array Oper) (listed : Array Bool) : Prop := ∀ (j : Nat) (oj : Oper), ops[j]? = some oj → listed.getD j false = true → ∀ e ∈ oj.after, Region.binds .any e = true → listed.getD e.on false = true
theorem Closed.reach {ops : Array Oper} {listed : Array Bool} (h : Closed ops listed) {j q : Nat} (hr : Reach ops j q) (hj : ∀ oj, ops[j]? = some oj → ∀ e ∈ oj.after, Region.binds .any e = true → listed.getD e.on false = true) : listed.getD q false = true := by
  induction hr with
  | one ho he hb => exact hj _ ho _ he hb
  | step ho he hb _ ih => exact ih fun oj' ho' => h _ oj' ho' (hj _ ho _ he hb)
theorem getD_set_mono {listed : Array Bool} {i k : Nat} (h : listed.getD k false = true) : (listed.setIfInBounds i true).getD k false = true := by
  rw [Array.getD_eq_getD_getElem?] at h ⊢
  rw [Array.getElem?_setIfInBounds]
  split
  · rename_i e; subst e
    split
    · rfl
    · rename_i hlt; rw [Array.getElem?_eq_none (by omega)] at h; exact h
  · exact h
theorem Closed.set {ops : Array Oper} {listed : Array Bool} (h : Closed ops listed) {i : Nat} (hi : ∀ oi, ops[i]? = some oi → ∀ e ∈ oi.after, Region.binds .any e = true → listed.getD e.on false = true) : Closed ops (listed.setIfInBounds i true) := by
  intro j oj ho hl e he hb
  refine getD_set_mono ?_
  by_cases hij : i = j
  · subst hij; exact hi oj ho e he hb
  · refine h j oj ho ?_ e he hb
    rw [Array.getD_eq_getD_getElem?] at hl ⊢
    rwa [Array.getElem?_setIfInBounds_ne hij] at hl
theorem ready_deps {ops : Array Oper} {listed : Array Bool} {j : Nat} (hj : j ∈ Region.ready .any ops listed) : ∀ oj, ops[j]? = some oj → ∀ e ∈ oj.after, Region.binds .any e = true → listed.getD e.on false = true := by
  obtain ⟨hun, oj, hoj, hall⟩ := mem_ready.1 hj
  intro oj' ho' e he hb
  rw [hoj] at ho'; injection ho' with ho'; subst ho'
  exact hall e he hb

/-- Number j may come up ahead of one of 'qs'. -/
def Loose (ops : Array Oper) (qs : List Nat) (listed : Array Bool) (j : Nat) : Prop := ∃ q ∈ qs, q ≠ j ∧ ¬ Reach ops j q ∧ ∀ j', listed.getD j' false = true → j' ∉ qs → ¬ Reach ops j' q

/-- Whatever order is picked; Z holds behind each operation that may come up ahead of one of 'qs'. -/
def AnyX (P : Program) (ops : Array Oper) (Q : Exit → Act → World → Prop) (qs : List Nat) (Z : World → Prop) : Nat → Array Bool → Act → World → Prop
  | 0, listed, a, w => Region.ready .any ops listed = [] ∧ Q .normal a w
  | n + 1, listed, a, w => (Region.ready .any ops listed = [] → Q .normal a w) ∧
      ∀ i ∈ Region.ready .any ops listed, wpOp P ops Q i (fun a' w' => (Loose ops qs listed i → Z w') ∧ AnyX P ops Q qs Z n (listed.setIfInBounds i true) a' w') a w

theorem any_of_X : ∀ (n : Nat) (listed : Array Bool) (a : Act) (w : World), AnyX P ops Q qs Z n listed a w → wpAny P .any ops Q n listed a w
  | 0, _, _, _, h => h
  | n + 1, _, _, _, h => ⟨h.1, fun i hi => wpOp_mono (fun _ _ h' => any_of_X n _ _ _ h'.2) (h.2 i hi)⟩

/-- In whatever world that meets Z the operation leaves v, or it isn't wanted, and nothing else turns. -/
def Gives (P : Program) (ops : Array Oper) (Z : World → Prop) (o : Oper) (v : Value) (a : Act) : Prop :=
  (Region.wanted o (yielded ops a.tmps) = true ∧ ∀ w, Z w → (execOp a.eval o).run P w = .ok (.value v) w) ∨ (Region.wanted o (yielded ops a.tmps) = false ∧ v = undef)

theorem Gives.wpOp {i : Nat} {o : Oper} {v : Value} {a : Act} (ho : ops[i]? = some o) (h : Gives P ops Z o v a) {K : Act → World → Prop} {w : World} (hz : Z w) (hk : K (a.put o.dst v) w) : wpOp P ops Q i K a w := by
  unfold Go.wpOp
  simp only [ho]
  rcases h with ⟨hw, hv⟩ | ⟨hw, rfl⟩
  · rw [if_pos hw]
    refine .inl ?_
    unfold Oper.wp
    rw [hv w hz]
    exact hk
  · rw [if_neg (by rw [hw]; exact Bool.false_ne_true)]
    exact hk

/-- Two operations that don't look at each other's slots: 'oj' does the same whether 'oi' has given its value or not. -/
theorem wpOp_swap {j : Nat} {oi oj : Oper} {v : Value} (hj : ops[j]? = some oj) (hap : oi.apart ops oj = true) (hsi : ∀ cs b, oi.op ≠ .select cs b) (hsj : ∀ cs b, oj.op ≠ .select cs b)
    (hQ : ∀ c a w, Q (.panic c) (a.put oi.dst v) w → Q (.panic c) a w) {K : Act → World → Prop} {a : Act} {w : World} (hg : Gives P ops Z oi v a) (h : wpOp P ops Q j K (a.put oi.dst v) w) :
    wpOp P ops Q j (fun a' w' => Gives P ops Z oi v a' ∧ K (a'.put oi.dst v) w') a w := by
  obtain ⟨p1, p2, p3⟩ := Oper.apart_spec hap
  have stay : ∀ (a : Act) (u : Value), Gives P ops Z oi v a → Gives P ops Z oi v (a.put oj.dst u) := by
    intro a u hg
    unfold Gives at *
    rw [execOp_put oi hsi a oj.dst u p3, wanted_put oi a oj.dst u p3]
    exact hg
  have fin : ∀ (a : Act) (u : Value) (w : World), Gives P ops Z oi v a → K ((a.put oi.dst v).put oj.dst u) w → Gives P ops Z oi v (a.put oj.dst u) ∧ K ((a.put oj.dst u).put oi.dst v) w :=
    fun a u w hg hk => ⟨stay a u hg, by rw [← Act.put_comm a v u p2]; exact hk⟩
  unfold Go.wpOp at *
  simp only [hj] at *
  rw [wanted_put oj a oi.dst v p1] at h
  by_cases hw : Region.wanted oj (yielded ops a.tmps) = true
  · rw [if_pos hw] at h ⊢
    rcases h with h | ⟨h1, h2⟩
    · refine .inl ?_
      unfold Oper.wp at *
      rw [execOp_put oj hsj a oi.dst v p1] at h
      cases hr : (execOp a.eval oj).run P w with
      | ok n w' =>
        rw [hr] at h
        cases n with
        | value u => exact fin a u w' hg h
        | skip => exact fin a undef w' hg h
        | defer d =>
          have hg' : Gives P ops Z oi v { a with defers := d :: a.defers } := hg
          have he : ({ a.put oi.dst v with defers := d :: (a.put oi.dst v).defers } : Act) = ({ a with defers := d :: a.defers } : Act).put oi.dst v := by cases oi.dst <;> rfl
          refine fin _ undef w' hg' ?_
          rw [Oper.upon_defer, he] at h
          exact h
        | enter f args =>
          refine Calls.mono h fun e w'' he => ?_
          cases e with
          | returned u => exact fin a u w'' hg he
          | panicked c => exact hQ _ _ _ he
          | outgrown => exact he
        | row r args => exact Rows.mono h fun u w'' he => fin a u w'' hg he
        | _ => exact h
      | halt x w' =>
        rw [hr] at h
        cases x with
        | panic u => exact hQ _ _ _ h
        | _ => exact h
    · refine .inr ⟨?_, h2⟩
      unfold Oper.asks at *
      rw [execOp_put oj hsj a oi.dst v p1] at h1
      exact h1
  · rw [if_neg hw] at h ⊢
    exact fin a undef w hg h

/-- One of 'qs' that may come up now may be taken first. -/
theorem X_first {i : Nat} {oi : Oper} {v : Value} (ho : ops[i]? = some oi) (hs : ∀ (j : Nat) (o : Oper) cs b, ops[j]? = some o → o.op ≠ .select cs b) (hq : i ∈ qs)
    (hQ : ∀ c a w, Q (.panic c) (a.put oi.dst v) w → Q (.panic c) a w) : ∀ (n : Nat) (listed : Array Bool) (a : Act) (w : World),
      (∀ (j : Nat) (oj : Oper), ops[j]? = some oj → j ≠ i → listed.getD j true = false → (∀ e ∈ oj.after, Region.binds .any e = true → e.on ≠ i) → oi.apart ops oj = true) →
      i ∈ Region.ready .any ops listed → Closed ops listed → Gives P ops Z oi v a → Z w → AnyX P ops Q qs Z n (listed.setIfInBounds i true) (a.put oi.dst v) w → AnyX P ops Q qs Z (n + 1) listed a w := by
  intro n
  induction n with
  | zero =>
    intro listed a w _ hr hcl hg hz H
    refine ⟨(fun h => by rw [h] at hr; cases hr), fun j hj => ?_⟩
    by_cases e : j = i
    · subst e; exact hg.wpOp ho hz ⟨fun _ => hz, H⟩
    · have := ready_mono hj e
      rw [H.1] at this
      cases this
  | succ n ih =>
    intro listed a w hfree hr hcl hg hz H
    refine ⟨(fun h => by rw [h] at hr; cases hr), fun j hj => ?_⟩
    by_cases e : j = i
    · subst e; exact hg.wpOp ho hz ⟨fun _ => hz, H⟩
    · obtain ⟨hun, oj, hoj, hall⟩ := mem_ready.1 hj
      have hiun : listed.getD i true = false := (mem_ready.1 hr).1
      have hno : ∀ ed ∈ oj.after, Region.binds .any ed = true → ed.on ≠ i := by
        intro ed hed hb he
        have h1 := hall ed hed hb
        rw [he] at h1
        rcases Nat.lt_or_ge i listed.size with h' | h'
        · simp [h'] at hiun h1; rw [hiun] at h1; cases h1
        · simp [Array.getElem?_eq_none h'] at h1
      have hnl : ¬ listed.getD i false = true := fun h1 => by
        rcases Nat.lt_or_ge i listed.size with h' | h'
        · simp [h'] at hiun h1; rw [hiun] at h1; cases h1
        · simp [Array.getElem?_eq_none h'] at h1
      have hl : Loose ops qs (listed.setIfInBounds i true) j := ⟨i, hq, fun h => e h.symm, fun hre => hnl (hcl.reach hre (ready_deps hj)), fun j' hj' hnq hre => by
        by_cases hij : i = j'
        · subst hij; exact hnq hq
        · have h2 : listed.getD j' false = true := by
            rw [Array.getD_eq_getD_getElem?] at hj' ⊢
            rwa [Array.getElem?_setIfInBounds_ne hij] at hj'
          exact hnl (hcl.reach hre (fun oj ho => hcl j' oj ho h2))⟩
      have hsw := wpOp_swap hoj (hfree j oj hoj e hun hno) (fun cs b => hs i oi cs b ho) (fun cs b => hs j oj cs b hoj) hQ hg (H.2 j (ready_mono hj e))
      refine wpOp_mono (fun a' w' h3 => ?_) hsw
      obtain ⟨hg', hz', hX⟩ := h3
      refine ⟨fun _ => hz' hl, ih (listed.setIfInBounds j true) a' w' (fun k ok hk hki hkun hkno => hfree k ok hk hki ?_ hkno) (ready_mono hr (fun h => e h.symm)) (hcl.set (ready_deps hj)) hg' (hz' hl) ?_⟩
      · by_cases hjk : j = k
        · subst hjk; exact hun
        · rw [getD_set_ne true hjk] at hkun; exact hkun
      · rw [Array.setIfInBounds_comm _ _ e]
        exact hX

theorem X_done {listed : Array Bool} {a : Act} {w : World} (hr : Region.ready .any ops listed = []) (h : Q .normal a w) : ∀ n, AnyX P ops Q qs Z n listed a w
  | 0 => ⟨hr, h⟩
  | _ + 1 => ⟨fun _ => h, by rw [hr]; simp⟩
end

/-! ### over states -/
/-- An operation, and those of its region that it waits for. -/
abbrev DOp := VOp × List Nat
def waitsOf (o : Oper) : List Nat := (o.after.toList.filter (Region.binds .any)).map (·.on)
def compileDs (P : Program) (nt : Nat) (ops : Array Oper) : List Oper → Option (List DOp)
  | [] => some []
  | o :: l => (compileOp P nt ops o).bind fun v => (compileDs P nt ops l).map ((v, waitsOf o) :: ·)
theorem compileDs_rel {P : Program} {nt : Nat} {ops : Array Oper} : ∀ {l : List Oper} {vs : List DOp}, compileDs P nt ops l = some vs → vs.length = l.length ∧ ∀ (k : Nat) (o : Oper) (v : DOp), l[k]? = some o → vs[k]? = some v → OpRel P nt ops o v.1 ∧ v.2 = waitsOf o
  | [], vs, h => by simp [compileDs] at h; subst h; simp
  | o :: l, vs, h => by
    simp only [compileDs] at h
    obtain ⟨v, hv, h⟩ := Option.bind_eq_some_iff.1 h
    obtain ⟨vs', hvs, rfl⟩ := Option.map_eq_some_iff.1 h
    obtain ⟨h1, h2⟩ := compileDs_rel hvs
    refine ⟨by simp [h1], fun k o' v' h3 h4 => ?_⟩
    cases k with
    | zero => simp at h3 h4; subst h3; subst h4; exact ⟨opRel_of hv, rfl⟩
    | succ k => exact h2 k o' v' (by simpa using h3) (by simpa using h4)

def doneAt (done : List Bool) (i : Nat) (x : Bool) : Bool := done.getD i x
def readyB (l : List DOp) (done : List Bool) (i : Nat) : Bool := match l[i]? with | some v => !(done.getD i true) && v.2.all (fun j => done.getD j false) | none => false
def readyD (l : List DOp) (done : List Bool) : List Nat := (List.range l.length).filter (readyB l done)
def reachB (l : List DOp) : Nat → Nat → Nat → Bool
  | 0, _, _ => false
  | n + 1, i, q => match l[i]? with | some v => v.2.any (fun j => j == q || reachB l n j q) | none => false
def looseB (l : List DOp) (qs : List Nat) (done : List Bool) (i : Nat) : Bool := match l[i]? with | some v => qs.any fun q => q != i && (!(reachB l 6 i q) && (List.range l.length).all fun j => !(done.getD j false) || (qs.contains j || !(reachB l 6 j q))) | none => true
def allApart (ops : Array Oper) : Bool := (List.range ops.size).all fun i => (List.range ops.size).all fun j => i == j || match ops[i]?, ops[j]? with
  | some oi, some oj => (waitsOf oj).contains i || (waitsOf oi).contains j || oi.apart ops oj
  | _, _ => true

structure DRel (C : Ctx) (ops : Array Oper) (l : List DOp) : Prop where
  size : ops.size = l.length
  rel : ∀ (k : Nat) (o : Oper) (v : DOp), ops[k]? = some o → l[k]? = some v → OpRel C.P C.nt ops o v.1 ∧ v.2 = waitsOf o
  apart : allApart ops = true
  sel : ∀ (j : Nat) (o : Oper) cs b, ops[j]? = some o → o.op ≠ .select cs b

theorem mem_waitsOf {o : Oper} {j : Nat} : j ∈ waitsOf o ↔ ∃ e ∈ o.after, Region.binds .any e = true ∧ e.on = j := by
  simp only [waitsOf, List.mem_map, List.mem_filter, Array.mem_toList_iff]
  constructor
  · rintro ⟨e, ⟨h1, h2⟩, h3⟩; exact ⟨e, h1, h2, h3⟩
  · rintro ⟨e, h1, h2, h3⟩; exact ⟨e, ⟨h1, h2⟩, h3⟩

theorem reach_of {C : Ctx} {ops : Array Oper} {l : List DOp} (h : DRel C ops l) : ∀ (n i q : Nat), reachB l n i q = true → Reach ops i q
  | 0, i, q, hr => by cases hr
  | n + 1, i, q, hr => by
    unfold reachB at hr
    cases hv : l[i]? with
    | none => rw [hv] at hr; cases hr
    | some v =>
      rw [hv] at hr
      obtain ⟨j, hj, hr⟩ := List.any_eq_true.1 hr
      have hil : i < l.length := (List.getElem?_eq_some_iff.1 hv).1
      have hlt : i < ops.size := by rw [h.size]; exact hil
      have ho : ops[i]? = some ops[i] := Array.getElem?_eq_getElem hlt
      obtain ⟨_, hw⟩ := h.rel i _ _ ho hv
      rw [hw] at hj
      obtain ⟨e, he, hb, rfl⟩ := mem_waitsOf.1 hj
      simp only [Bool.or_eq_true, beq_iff_eq] at hr
      rcases hr with rfl | hr
      · exact .one ho he hb
      · exact .step ho he hb (reach_of h n _ q hr)
theorem ready_eq {C : Ctx} {ops : Array Oper} {l : List DOp} (h : DRel C ops l) {done : List Bool} (hd : done.length = l.length) : Region.ready .any ops done.toArray = readyD l done := by
  unfold Region.ready readyD
  rw [h.size]
  apply List.filter_congr
  intro i hi
  have hi' : i < l.length := by simpa using hi
  have hlt : i < ops.size := by rw [h.size]; exact hi'
  have ho : ops[i]? = some ops[i] := Array.getElem?_eq_getElem hlt
  have hv : l[i]? = some l[i] := List.getElem?_eq_getElem hi'
  obtain ⟨_, hw⟩ := h.rel i _ _ ho hv
  unfold readyB
  rw [ho, hv]
  simp only [Option.map_some, Option.getD_some]
  have e1 : done.toArray.getD i true = done.getD i true := by simp [Array.getD_eq_getD_getElem?, List.getD_eq_getElem?_getD]
  rw [e1, hw]
  congr 1
  rw [Bool.eq_iff_iff]
  simp only [Array.all_eq_true', List.all_eq_true, Bool.or_eq_true, Bool.not_eq_true']
  constructor
  · intro h1 j hj
    obtain ⟨e, he, hb, rfl⟩ := mem_waitsOf.1 hj
    rcases h1 e he with h2 | h2
    · rw [hb] at h2; cases h2
    · simpa [Array.getD_eq_getD_getElem?, List.getD_eq_getElem?_getD] using h2
  · intro h1 e he
    cases hb : Region.binds .any e with
    | false => exact .inl rfl
    | true =>
      have := h1 e.on (mem_waitsOf.2 ⟨e, he, hb, rfl⟩)
      exact .inr (by simpa [Array.getD_eq_getD_getElem?, List.getD_eq_getElem?_getD] using this)

/-- A region that draws, from where 'done' have come up; z: some may still be taken first. -/
def XW (C : Ctx) (l : List DOp) (qs : List Nat) (z : Bool) (done : List Bool) (s : St) (K : St → Prop) : Prop :=
  done.length = l.length → ∀ (ops : Array Oper), DRel C ops l → Closed ops done.toArray → ∀ β a w, R C s β a w → ∀ Z : World → Prop, (z = true → Z = Kept (fun _ => False) w) →
    ∀ Q : Exit → Act → World → Prop, (∀ c a w, ¬ Q (.panic c) a w) → (∀ s' β' a' w', K s' → R C s' β' a' w' → Q .normal a' w') →
      ∀ n, (done.filter (!·)).length ≤ n → AnyX C.P ops Q qs Z n done.toArray a w

theorem X_weaken {P : Program} {ops : Array Oper} {Q : Exit → Act → World → Prop} {qs : List Nat} {Z Z' : World → Prop} (hz : ∀ w, Z' w → Z w) : ∀ (n : Nat) (listed : Array Bool) (a : Act) (w : World), AnyX P ops Q qs Z' n listed a w → AnyX P ops Q qs Z n listed a w
  | 0, _, _, _, h => h
  | n + 1, _, _, _, h => ⟨h.1, fun i hi => wpOp_mono (fun _ _ h' => ⟨fun hl => hz _ (h'.1 hl), X_weaken hz n _ _ _ h'.2⟩) (h.2 i hi)⟩

theorem Kept.trans {a b c : World} (h : Kept (fun _ => False) a b) (k : Kept (fun _ => False) b c) : Kept (fun _ => False) a c :=
  ⟨k.os.trans h.os, k.tape.trans h.tape, k.output.trans h.output, Nat.le_trans h.size k.size, fun i hi hf => (k.block i (by have := h.size; omega) hf).trans (h.block i hi hf), fun b cur ety hh => by
    obtain ⟨c1, h1, h2⟩ := h.shape b cur ety hh
    obtain ⟨c2, h3, h4⟩ := k.shape b c1 ety h1
    exact ⟨c2, h3, h4.trans h2⟩⟩

theorem set_toArray (done : List Bool) (i : Nat) : done.toArray.setIfInBounds i true = (done.set i true).toArray := by simp
theorem count_set : ∀ (done : List Bool) (i : Nat), done.getD i true = false → ((done.set i true).filter (!·)).length + 1 = (done.filter (!·)).length
  | [], i, h => by simp at h
  | b :: l, 0, h => by simp at h; subst h; simp
  | b :: l, i + 1, h => by
    have := count_set l i (by simpa using h)
    cases b <;> simp [List.set_cons_succ] <;> omega

section
variable {C : Ctx} {l : List DOp} {qs : List Nat} {z : Bool} {done : List Bool} {s : St} {K : St → Prop}

theorem X_nil (hr : readyD l done = []) (h : K s) : XW C l qs z done s K := by
  intro hd ops hrel hcl β a w hR Z hz Q _ hK n _
  exact X_done (by rw [ready_eq hrel hd]; exact hr) (hK _ _ _ _ h hR) n

/-- One that is quiet is taken first. -/
theorem X_take (i : Nat) {v : VOp} {ws : List Nat} {x : S} (hv : l[i]? = some (v, ws)) (hq : qs.contains i = true) (hr : readyB l done i = true)
    (hg : ∃ b : Bool, (∀ (ops : Array Oper) (o : Oper), guardOf ops o = v.g → ∀ β a w, R C s β a w → Region.wanted o (yielded ops a.tmps) = b) ∧ (b = true → Quiet C v.i s x) ∧ (b = false → x = .tup []))
    (h : XW C l qs true (done.set i true) (s.put v.d x) K) : XW C l qs true done s K := by
  intro hd ops hrel hcl β a w hR Z hz Q hnp hK n hn
  obtain rfl := hz rfl
  have hil : i < l.length := (List.getElem?_eq_some_iff.1 hv).1
  have hlt : i < ops.size := by rw [hrel.size]; exact hil
  have ho : ops[i]? = some ops[i] := Array.getElem?_eq_getElem hlt
  obtain ⟨hop, hw⟩ := hrel.rel i _ _ ho hv
  have hund : done.getD i true = false := by
    unfold readyB at hr
    rw [hv] at hr
    simp only [Bool.and_eq_true, Bool.not_eq_true'] at hr
    exact hr.1
  have hcount := count_set done i hund
  obtain ⟨m, rfl⟩ : ∃ m, n = m + 1 := ⟨n - 1, by omega⟩
  obtain ⟨b, hb, hb1, hb2⟩ := hg
  have hwant := hb ops ops[i] hop.gd β a w hR
  have hready : i ∈ Region.ready .any ops done.toArray := by
    rw [ready_eq hrel hd]
    unfold readyD
    simp only [List.mem_filter, List.mem_range]
    exact ⟨hil, hr⟩
  have hfree : ∀ (j : Nat) (oj : Oper), ops[j]? = some oj → j ≠ i → done.toArray.getD j true = false → (∀ e ∈ oj.after, Region.binds .any e = true → e.on ≠ i) → ops[i].apart ops oj = true := by
    intro j oj hoj hji hju hno
    have h1 := hrel.apart
    unfold allApart at h1
    have hjs : j < ops.size := (Array.getElem?_eq_some_iff.1 hoj).1
    have h2 := List.all_eq_true.1 (List.all_eq_true.1 h1 i (by simp [hrel.size, hil])) j (by simpa using hjs)
    rw [ho, hoj] at h2
    simp only [Bool.or_eq_true, beq_iff_eq, List.contains_iff_mem] at h2
    rcases h2 with h2 | (h2 | h2) | h2
    · exact absurd h2.symm hji
    · obtain ⟨e, he, hbe, heo⟩ := mem_waitsOf.1 h2
      exact absurd heo (hno e he hbe)
    · -- i waits for j, so j has come up
      rw [← hw] at h2
      unfold readyB at hr
      rw [hv] at hr
      simp only [Bool.and_eq_true, List.all_eq_true] at hr
      have h3 := hr.2 j h2
      have hjd : j < done.length := by rw [hd, ← hrel.size]; exact hjs
      simp [List.getD_eq_getElem?_getD, List.getElem?_eq_getElem hjd] at h3
      simp [Array.getD_eq_getD_getElem?, List.getElem?_eq_getElem hjd] at hju
      rw [h3] at hju; cases hju
    · exact h2
  have hgive : ∃ u, Gives C.P ops (Kept (fun _ => False) w) ops[i] u a ∧ RelS w s.st β (C.I s.st β w) x u := by
    cases b with
    | true =>
      obtain ⟨u, hu, hrl⟩ := hb1 rfl ops[i] hop.spec β a w hR
      exact ⟨u, .inl ⟨hwant, hu⟩, hrl⟩
    | false => exact ⟨undef, .inr ⟨hwant, rfl⟩, by rw [hb2 rfl]; exact .tup rfl (fun i s u h => by simp at h)⟩
  obtain ⟨u, hgu, hrl⟩ := hgive
  refine X_first ho hrel.sel (by simpa using hq) (fun c a w h => absurd h (hnp c _ w)) m done.toArray a w hfree hready hcl hgu (Kept.refl _ _) ?_
  rw [set_toArray]
  have hd' : (done.set i true).length = l.length := by simpa using hd
  rw [hop.dst]
  exact h hd' ops hrel (by rw [← set_toArray]; exact hcl.set (ready_deps hready)) β _ w (hR.putAny hrl hop.lt) _ (fun _ => rfl) Q hnp hK m (by omega)

/-- What comes up next, whichever it is. -/
def XStep (C : Ctx) (l : List DOp) (qs : List Nat) (z : Bool) (done : List Bool) (s : St) (K : St → Prop) (i : Nat) : Prop :=
  ∃ v ws, l[i]? = some (v, ws) ∧ ∃ b : Bool, (∀ (ops : Array Oper) (o : Oper), guardOf ops o = v.g → ∀ β a w, R C s β a w → Region.wanted o (yielded ops a.tmps) = b) ∧
    (b = true → ∃ k K', Does C v.i v.d s k K' ∧ (looseB l qs done i = true → k = true ∧ z = true) ∧ ∀ s', K' s' → XW C l qs (z && k) (done.set i true) s' K) ∧
    (b = false → (looseB l qs done i = true → z = true) ∧ XW C l qs z (done.set i true) (s.put v.d (.tup [])) K)
theorem X_step {rs : List Nat} (hr : readyD l done = rs) (hne : rs ≠ []) (h : ∀ i ∈ rs, XStep C l qs z done s K i) : XW C l qs z done s K := by
  intro hd ops hrel hcl β a w hR Z hz Q hnp hK n hn
  have hre := ready_eq hrel hd
  have hnn : ∃ m, n = m + 1 := by
    obtain ⟨i, rs', rfl⟩ := List.exists_cons_of_ne_nil hne
    have hi : i ∈ readyD l done := by rw [hr]; simp
    unfold readyD at hi
    simp only [List.mem_filter] at hi
    have h2 := hi.2
    unfold readyB at h2
    have hun : done.getD i true = false := by
      cases hv : l[i]? with
      | none => rw [hv] at h2; cases h2
      | some v =>
        rw [hv] at h2
        simp only [Bool.and_eq_true, Bool.not_eq_true'] at h2
        exact h2.1
    have := count_set done i hun
    exact ⟨n - 1, by omega⟩
  obtain ⟨m, rfl⟩ := hnn
  refine ⟨fun h0 => absurd (by rw [hre, hr] at h0; exact h0) hne, fun i hi => ?_⟩
  rw [hre] at hi
  have hi' := hi
  rw [hr] at hi'
  obtain ⟨v, ws, hv, b, hb, hb1, hb2⟩ := h i hi'
  have hil : i < l.length := (List.getElem?_eq_some_iff.1 hv).1
  have hlt : i < ops.size := by rw [hrel.size]; exact hil
  have ho : ops[i]? = some ops[i] := Array.getElem?_eq_getElem hlt
  obtain ⟨hop, hw⟩ := hrel.rel i _ _ ho hv
  have hwant := hb ops ops[i] hop.gd β a w hR
  have hund : done.getD i true = false := by
    unfold readyD at hi
    simp only [List.mem_filter] at hi
    have h2 := hi.2
    unfold readyB at h2
    rw [hv] at h2
    simp only [Bool.and_eq_true, Bool.not_eq_true'] at h2
    exact h2.1
  have hcount := count_set done i hund
  have hd' : (done.set i true).length = l.length := by simpa using hd
  have hcl' : Closed ops (done.set i true).toArray := by rw [← set_toArray]; exact hcl.set (ready_deps (by rw [hre]; exact hi))
  have hloose : Loose ops qs done.toArray i → looseB l qs done i = true := by
    rintro ⟨q, hq, hne', hno, hall⟩
    unfold looseB
    rw [hv]
    simp only [List.any_eq_true]
    refine ⟨q, hq, ?_⟩
    simp only [Bool.and_eq_true, bne_iff_ne, Bool.not_eq_true', List.all_eq_true, Bool.or_eq_true, List.mem_range]
    refine ⟨hne', ?_, fun j hj => ?_⟩
    · cases hc : reachB l 6 i q with
      | false => rfl
      | true => exact absurd (reach_of hrel _ _ _ hc) hno
    · cases hd : done.getD j false with
      | false => exact .inl rfl
      | true =>
        cases hqc : qs.contains j with
        | true => exact .inr (.inl rfl)
        | false =>
          refine .inr (.inr ?_)
          cases hc : reachB l 6 j q with
          | false => rfl
          | true => exact absurd (reach_of hrel _ _ _ hc) (hall j (by simpa [Array.getD_eq_getD_getElem?, List.getD_eq_getElem?_getD] using hd) (by simpa using hqc))
  unfold wpOp
  simp only [ho]
  rw [set_toArray]
  cases b with
  | true =>
    rw [if_pos hwant]
    refine .inl ?_
    obtain ⟨k, K', hdo, hlk, hx⟩ := hb1 rfl
    refine hdo ops[i] hop.spec hop.dst hop.lt β a w hR _ Q fun s' β' a' w' hs' hR' hk => ⟨fun hl => ?_, ?_⟩
    · obtain ⟨hk1, hz1⟩ := hlk (hloose hl)
      rw [hz hz1]
      exact hk hk1
    · cases hzk : (z && k) with
      | false =>
        have := hx s' hs'
        rw [hzk] at this
        exact this hd' ops hrel hcl' β' a' w' hR' Z (fun h => by cases h) Q hnp hK m (by omega)
      | true =>
        have := hx s' hs'
        rw [hzk] at this
        simp only [Bool.and_eq_true] at hzk
        rw [hz hzk.1]
        exact X_weaken (fun w2 h2 => (hk hzk.2).trans h2) m _ _ _ (this hd' ops hrel hcl' β' a' w' hR' _ (fun _ => rfl) Q hnp hK m (by omega))
  | false =>
    rw [if_neg (by rw [hwant]; exact Bool.false_ne_true)]
    obtain ⟨hlz, hx⟩ := hb2 rfl
    rw [hop.dst]
    refine ⟨fun hl => ?_, hx hd' ops hrel hcl' β _ w (hR.putAny (.tup rfl (fun i s u h => by simp at h)) hop.lt) Z hz Q hnp hK m (by omega)⟩
    rw [hz (hlz (hloose hl))]
    exact Kept.refl _ _

/-- Ready forms: an operation without a guard; with one that is known. -/
theorem XQ (i : Nat) {vi : VI} {d : Option Nat} {ws : List Nat} {x : S} (hv : l[i]? = some (⟨vi, d, none⟩, ws)) (hq : qs.contains i = true) (hr : readyB l done i = true) (hx : Quiet C vi s x)
    (h : XW C l qs true (done.set i true) (s.put d x) K) : XW C l qs true done s K :=
  X_take i hv hq hr ⟨true, fun ops o hg β a w _ => guard_none hg _, fun _ => hx, fun h => by cases h⟩ h
theorem XQ_lazy (i : Nat) {vi : VI} {d : Option Nat} {gd : Nat} {want b : Bool} {ws : List Nat} {x : S} (hv : l[i]? = some (⟨vi, d, some (some gd, want)⟩, ws)) (hq : qs.contains i = true) (hr : readyB l done i = true)
    (hg : eget s.env gd = .one (.v (.bool b))) (hx : b = want → Quiet C vi s x) (h : XW C l qs true (done.set i true) (s.put d (bif b == want then x else .tup [])) K) : XW C l qs true done s K :=
  X_take i hv hq hr ⟨b == want, fun ops o hgd β a w hR => by
    obtain ⟨j, hj, hw⟩ := guard_some hgd (yielded ops a.tmps)
    rw [hw, yielded_of hR hj hg]
    simp, fun h => by rw [h]; exact hx (by simpa using h), fun h => by rw [h]; rfl⟩ h
theorem XS {i : Nat} {vi : VI} {d : Option Nat} {ws : List Nat} {k : Bool} {K' : St → Prop} (hv : l[i]? = some (⟨vi, d, none⟩, ws)) (hx : Does C vi d s k K') (hl : looseB l qs done i = true → k = true ∧ z = true)
    (h : ∀ s', K' s' → XW C l qs (z && k) (done.set i true) s' K) : XStep C l qs z done s K i :=
  ⟨_, ws, hv, true, fun ops o hg β a w _ => guard_none hg _, fun _ => ⟨k, K', hx, hl, h⟩, fun h => by cases h⟩
end
end Go.V
