/- The V-layer, part C: operations one behind the other. No premises. -/
import Derived.Test.YteocabneaenpeaaGreatVB7
import Derived.ScopeJumps
import Derived.Deep.LoopGhost
set_option linter.unusedVariables false
set_option linter.unusedSimpArgs false
namespace Go.V
open Go.RowKit

structure VOp where
  i : VI
  d : Option Nat
  g : Option (Option Nat × Bool)

def guardOf (ops : Array Oper) (o : Oper) : Option (Option Nat × Bool) := o.guard.map fun p => ((ops[p.1]?).bind (·.dst), p.2)
def compileOp (P : Program) (nt : Nat) (ops : Array Oper) (o : Oper) : Option VOp :=
  if o.dst.all (Nat.blt · nt) then some ⟨(compileI P o).getD .bad, o.dst, guardOf ops o⟩ else none

structure OpRel (P : Program) (nt : Nat) (ops : Array Oper) (o : Oper) (v : VOp) : Prop where
  spec : Spec P o v.i
  dst : o.dst = v.d
  lt : ∀ j, v.d = some j → j < nt
  gd : guardOf ops o = v.g

theorem opRel_of {P : Program} {nt : Nat} {ops : Array Oper} {o : Oper} {v : VOp} (h : compileOp P nt ops o = some v) : OpRel P nt ops o v := by
  unfold compileOp at h
  split at h
  · rename_i hd
    injection h with h
    subst h
    refine ⟨?_, rfl, fun j hj => ?_, rfl⟩
    · show Spec P o ((compileI P o).getD .bad)
      cases hi : compileI P o with
      | none => trivial
      | some i => exact spec_of hi
    have hj' : o.dst = some j := hj
    rw [hj'] at hd
    simpa [Nat.blt_eq] using hd
  · cases h

/-- A list of operations, one behind the other: whatever it comes to is among K. -/
def WL (C : Ctx) (l : List VOp) (s : St) (K : St → Prop) : Prop :=
  ∀ (ops : Array Oper) (idx : List Nat), idx.length = l.length → (∀ (k i : Nat) (v : VOp), idx[k]? = some i → l[k]? = some v → ∃ o, ops[i]? = some o ∧ OpRel C.P C.nt ops o v) →
    ∀ β a w, R C s β a w → ∀ Q : Exit → Act → World → Prop, (∀ s' β' a' w', K s' → R C s' β' a' w' → Q .normal a' w') → wpOps C.P ops Q idx a w

section
variable {C : Ctx} {s : St} {K : St → Prop} {l : List VOp}

theorem W_nil (h : K s) : WL C [] s K := by
  intro ops idx hl _ β a w hR Q hK
  obtain rfl : idx = [] := List.eq_nil_of_length_eq_zero hl
  exact hK _ _ _ _ h hR

theorem yielded_of {ops : Array Oper} {j gd : Nat} {β : Nat → Option Nat} {a : Act} {w : World} (hR : R C s β a w) (hd : (ops[j]?).bind (·.dst) = some gd) {b : Bool} (hb : eget s.env gd = .one (.v (.bool b))) : yielded ops a.tmps j = some b := by
  have h1 := (hb ▸ hR.env gd).plain
  unfold yielded
  rw [hd]
  simp only [Option.bind_some]
  have : a.tmps[gd]? = some (.bool b) := by
    rw [Array.getD_eq_getD_getElem?] at h1
    cases h : a.tmps[gd]? with
    | none => rw [h] at h1; cases h1
    | some v => rw [h] at h1; simp only [Option.getD_some] at h1; rw [h1]
  rw [this]
theorem yielded_undef {ops : Array Oper} {j gd : Nat} {β : Nat → Option Nat} {a : Act} {w : World} (hR : R C s β a w) (hd : (ops[j]?).bind (·.dst) = some gd) {l : List S} (hb : eget s.env gd = .tup l) : yielded ops a.tmps j = none := by
  have h1 := hb ▸ hR.env gd
  unfold yielded
  rw [hd]
  simp only [Option.bind_some]
  generalize hv : a.tmps.getD gd undef = v at h1
  rw [Array.getD_eq_getD_getElem?] at hv
  cases h : a.tmps[gd]? with
  | none => rfl
  | some u =>
    rw [h] at hv
    simp only [Option.getD_some] at hv
    subst hv
    cases h1
    rfl

theorem wpOps_step {P : Program} {ops : Array Oper} {Q : Exit → Act → World → Prop} {i : Nat} {rest : List Nat} {a : Act} {w : World} {o : Oper} (ho : ops[i]? = some o)
    (h1 : Region.wanted o (yielded ops a.tmps) = true → o.wp P a w (wpOps P ops Q rest) Q) (h2 : Region.wanted o (yielded ops a.tmps) = false → wpOps P ops Q rest (a.put o.dst undef) w) : wpOps P ops Q (i :: rest) a w := by
  simp only [wpOps, ho]
  split
  · rename_i h; exact .inl (h1 h)
  · rename_i h; exact h2 (by simpa using h)

theorem W_any {i : VI} {d : Option Nat} {g : Option (Option Nat × Bool)} (b : Bool)
    (hg : ∀ (ops : Array Oper) (o : Oper), guardOf ops o = g → ∀ β a w, R C s β a w → Region.wanted o (yielded ops a.tmps) = b)
    (h1 : b = true → ∃ k K', Does C i d s k K' ∧ ∀ s', K' s' → WL C l s' K) (h2 : b = false → WL C l (s.put d (.tup [])) K) : WL C (⟨i, d, g⟩ :: l) s K := by
  intro ops idx hl hrel β a w hR Q hK
  cases idx with
  | nil => simp at hl
  | cons i0 rest =>
    obtain ⟨o, ho, hr⟩ := hrel 0 i0 _ rfl rfl
    have hrest : ∀ (k j : Nat) (v : VOp), rest[k]? = some j → l[k]? = some v → ∃ o, ops[j]? = some o ∧ OpRel C.P C.nt ops o v := fun k j v h3 h4 => hrel (k + 1) j v (by simpa using h3) (by simpa using h4)
    have hw := hg ops o hr.gd β a w hR
    refine wpOps_step ho (fun h => ?_) (fun h => ?_)
    · rw [hw] at h
      obtain ⟨k, K', hdo, hk⟩ := h1 h
      exact hdo o hr.spec hr.dst hr.lt β a w hR _ Q fun s' β' a' w' hs' hR' _ => hk s' hs' ops rest (by simpa using hl) hrest β' a' w' hR' Q hK
    · rw [hw] at h
      rw [hr.dst]
      exact h2 h ops rest (by simpa using hl) hrest β _ w (hR.putAny (.tup rfl (fun i s u h => by simp at h)) hr.lt) Q hK

theorem guard_none {ops : Array Oper} {o : Oper} (h : guardOf ops o = none) (y : Nat → Option Bool) : Region.wanted o y = true := by
  unfold guardOf at h
  unfold Region.wanted
  cases hg : o.guard with
  | none => rfl
  | some p => rw [hg] at h; cases h
theorem guard_some {ops : Array Oper} {o : Oper} {gd : Nat} {want : Bool} (h : guardOf ops o = some (some gd, want)) (y : Nat → Option Bool) : ∃ j, (ops[j]?).bind (·.dst) = some gd ∧ Region.wanted o y = (y j == some want) := by
  unfold guardOf at h
  obtain ⟨p, hp, he⟩ := Option.map_eq_some_iff.1 h
  injection he with h1 h2
  refine ⟨p.1, h1, ?_⟩
  unfold Region.wanted
  rw [hp]
  simp only
  rw [h2]

theorem W_do {i : VI} {d : Option Nat} {k : Bool} {K' : St → Prop} (h1 : Does C i d s k K') (h2 : ∀ s', K' s' → WL C l s' K) : WL C (⟨i, d, none⟩ :: l) s K :=
  W_any true (fun ops o h β a w _ => guard_none h _) (fun _ => ⟨_, K', h1, h2⟩) (fun h => by cases h)
theorem WQ {i : VI} {d : Option Nat} {x : S} (h1 : Quiet C i s x) (h2 : WL C l (s.put d x) K) : WL C (⟨i, d, none⟩ :: l) s K :=
  W_do h1.does fun _ h => h ▸ h2
theorem W1 {i : VI} {d : Option Nat} {k : Bool} {s' : St} (h1 : Does C i d s k (· = s')) (h2 : WL C l s' K) : WL C (⟨i, d, none⟩ :: l) s K :=
  W_do h1 fun _ h => h ▸ h2
theorem W_un {i : VI} {d : Option Nat} {gd : Nat} {want : Bool} {u : List S} (hg : eget s.env gd = .tup u) (h : WL C l (s.put d (.tup [])) K) : WL C (⟨i, d, some (some gd, want)⟩ :: l) s K :=
  W_any false (fun ops o hgd β a w hR => by
    obtain ⟨j, hj, hw⟩ := guard_some hgd (yielded ops a.tmps)
    rw [hw, yielded_undef hR hj hg]
    rfl) (fun h => by cases h) (fun _ => h)
/-- A guard that is not known, one way: the slot's value hangs on it. -/
theorem W_lazy {i : VI} {d : Option Nat} {gd : Nat} {want b : Bool} {x : S} (hg : eget s.env gd = .one (.v (.bool b))) (h1 : b = want → Quiet C i s x) (h2 : WL C l (s.put d (bif b == want then x else .tup [])) K) : WL C (⟨i, d, some (some gd, want)⟩ :: l) s K :=
  W_any (b == want) (fun ops o hgd β a w hR => by
    obtain ⟨j, hj, hw⟩ := guard_some hgd (yielded ops a.tmps)
    rw [hw, yielded_of hR hj hg]
    simp) (fun h => ⟨_, _, (h1 (by simpa using h)).does, fun s' hs' => by subst hs'; rw [h] at h2; exact h2⟩) (fun h => by rw [h] at h2; exact h2)
end

end Go.V
