/- The V-layer, part B6: slices cut, made, grown, copied. No premises. -/
import Derived.Test.YteocabneaenpeaaGreatVB5
import Derived.Laws.CopyOwn
set_option linter.unusedVariables false
set_option linter.unusedSimpArgs false
namespace Go.V
open Go.RowKit

/-- A bound of a cut. -/
def St.bnd (s : St) (x : Option Operand) (n : Int) : Option Int :=
  match x with
  | none => some n
  | some x => match s.ev x with
    | .one (.v (.int _ m)) => some m
    | _ => none

section
variable {C : Ctx} {s : St} {d : Option Nat}

theorem bounds_run {P : Program} {β : Nat → Option Nat} {a : Act} {w : World} (hR : R C s β a w) {lo hi : Option Operand} {l h : Int} {n cap : Nat} {sl : Bool} (hl : s.bnd lo 0 = some l) (hh : s.bnd hi n = some h) (h0 : 0 ≤ l) (h1 : l ≤ h) (h2 : h ≤ n) (hc : n ≤ cap) (w' : World) :
    (Instr.sliceBounds sl n cap (lo.map a.eval) (hi.map a.eval) none).run P w' = .ok (l.toNat, h.toNat, cap) w' := by
  have e1 : (match hi.map a.eval with | some v => Instr.sliceBound v cap (if sl then .sliceAcap else .sliceAlen) | none => pure n : Sem Nat).run P w' = .ok h.toNat w' := by
    cases hi with
    | none => simp only [St.bnd, Option.some.injEq] at hh; subst hh; simp
    | some x =>
      simp only [St.bnd] at hh
      cases hx : s.ev x with
      | one t =>
        rw [hx] at hh
        cases t with
        | v u =>
          cases u with
          | int k m =>
            simp only [Option.some.injEq] at hh; subst hh
            have hv := (hx ▸ hR.ev x).plain
            simp only [Option.map_some, hv, Instr.sliceBound, asIntOf, Sem.run_bind, Sem.run_pure, Result.andThen_ok]
            rw [if_pos ⟨by omega, by omega⟩]
            rfl
          | _ => cases hh
        | _ => cases hh
      | _ => rw [hx] at hh; cases hh
  have e2 : (match lo.map a.eval with | some v => Instr.sliceBound v h.toNat .sliceB | none => pure 0 : Sem Nat).run P w' = .ok l.toNat w' := by
    cases lo with
    | none => simp only [St.bnd, Option.some.injEq] at hl; subst hl; simp
    | some x =>
      simp only [St.bnd] at hl
      cases hx : s.ev x with
      | one t =>
        rw [hx] at hl
        cases t with
        | v u =>
          cases u with
          | int k m =>
            simp only [Option.some.injEq] at hl; subst hl
            have hv := (hx ▸ hR.ev x).plain
            simp only [Option.map_some, hv, Instr.sliceBound, asIntOf, Sem.run_bind, Sem.run_pure, Result.andThen_ok]
            rw [if_pos ⟨by omega, by omega⟩]
            rfl
          | _ => cases hl
        | _ => cases hl
      | _ => rw [hx] at hl; cases hl
  unfold Instr.sliceBounds
  cases hi <;> cases lo <;> simp only [Option.map_none, Option.map_some, Sem.run_bind, Sem.run_pure, Result.andThen_ok, Option.isSome_none, Bool.false_eq_true, if_false] at e1 e2 ⊢
  · injection e1 with e1; injection e2 with e2; rw [← e1, ← e2]
  · injection e1 with e1; rw [e1, e2]; rfl
  · injection e2 with e2; rw [e1, ← e2]; rfl
  · rw [e1]
    simp only [Result.andThen_ok]
    rw [e2]; rfl

theorem does_slc_sl {x : Operand} {k n : Nat} {lo hi : Option Operand} {cs : List T} {l h : Int} (hx : s.ev x = .one (.sl cs n)) (hl : s.bnd lo 0 = some l) (hh : s.bnd hi n = some h) (h0 : 0 ≤ l) (h1 : l ≤ h) (h2 : h ≤ n) :
    Quiet C (.slc k x lo hi none) s (.one (.sl ((cs.drop (l.toNat * k)).take ((h.toNat - l.toNat) * k)) (h.toNat - l.toNat))) := by
  refine fun o ho β a w hR => ?_
  obtain ⟨t, e, ho, hu, hk⟩ := ho
  have hv := (hx ▸ hR.ev x).t
  generalize hv' : a.eval x = v at hv
  have run : ∀ (A : Option Addr) (cap : Nat), n ≤ cap → a.eval x = .slice A n cap → ∀ w', (execOp a.eval o).run C.P w' = .ok (.value (.slice (if cap = l.toNat then A else A.map (·.add (l.toNat * k))) (h.toNat - l.toNat) (cap - l.toNat))) w' := by
    intro A cap hcap hA w'
    have hb := bounds_run (P := C.P) (sl := true) hR hl hh h0 h1 h2 hcap w'
    simp only [execOp, ho, hA, Instr.sliceAt, Sem.run_bind, run_underlying hu, Result.andThen_ok, Instr.slice, Option.map_none]
    simp only [hb, Result.andThen_ok, Sem.run_bind, run_size hk, Sem.run_pure]
  cases hv with
  | sl0 A cap =>
    have h3 : h.toNat - l.toNat = 0 := by omega
    have h4 : l.toNat = 0 := by omega
    refine ⟨_, fun w' _ => run A cap (Nat.zero_le _) hv' w', ?_⟩
    rw [h3]
    simp only [Nat.zero_mul, List.take_zero]
    exact .one (.sl0 _ _)
  | sl us hI hc hr hn =>
    rename_i b off cap
    refine ⟨_, fun w' _ => run _ cap hn hv' w', ?_⟩
    by_cases h3 : h.toNat - l.toNat = 0
    · rw [h3]; simp only [Nat.zero_mul, List.take_zero]; exact .one (.sl0 _ _)
    · rw [if_neg (by omega)]
      simp only [Option.map_some, addr_add]
      refine .one (.sl (fun j => us (l.toNat * k + j)) hI (fun j t hj => ?_) (fun j t hj => ?_) (by omega))
      · have := take_drop_get _ _ _ j t hj
        rw [Nat.add_assoc]
        exact hc _ t this
      · exact hr _ t (take_drop_get _ _ _ j t hj)

theorem does_slc_own {x : Operand} {k n r off : Nat} {ap : Option (Nat × TypeId)} {g : Reg} {lo hi : Option Operand} {l h : Int} (hx : s.ev x = .one (.own r off n ap)) (hg : sget s.st r = some g) (hl : s.bnd lo 0 = some l) (hh : s.bnd hi n = some h) (h0 : 0 ≤ l) (h1 : l ≤ h) (h2 : h ≤ n) :
    Quiet C (.slc k x lo hi none) s (.one (.own r (off + l.toNat * k) (h.toNat - l.toNat) none)) := by
  refine fun o ho β a w hR => ?_
  obtain ⟨t, e, ho, hu, hk⟩ := ho
  have hv := (hx ▸ hR.ev x).t (by rw [hg]; rfl)
  have run : ∀ (A : Option Addr) (cap : Nat), n ≤ cap → a.eval x = .slice A n cap → ∀ w', (execOp a.eval o).run C.P w' = .ok (.value (.slice (if cap = l.toNat then A else A.map (·.add (l.toNat * k))) (h.toNat - l.toNat) (cap - l.toNat))) w' := by
    intro A cap hcap hA w'
    have hb := bounds_run (P := C.P) (sl := true) hR hl hh h0 h1 h2 hcap w'
    simp only [execOp, ho, hA, Instr.sliceAt, Sem.run_bind, run_underlying hu, Result.andThen_ok, Instr.slice, Option.map_none]
    simp only [hb, Result.andThen_ok, Sem.run_bind, run_size hk, Sem.run_pure]
  unfold OwnOK at hv
  cases hb : β r with
  | none =>
    rw [hb] at hv
    obtain ⟨rfl, hA⟩ := hv
    refine ⟨_, fun w' _ => run none 0 (Nat.le_refl _) hA w', .one fun _ => ?_⟩
    rw [hb]
    refine ⟨by omega, ?_⟩
    have h3 : h.toNat - l.toNat = 0 := by omega
    rw [h3]
    simp
  | some b =>
    rw [hb] at hv
    obtain ⟨A, cap, cur, ety, hA, hh', hAd, hn, _⟩ := hv
    refine ⟨_, fun w' _ => run A cap hn hA w', .one fun _ => ?_⟩
    rw [hb]
    refine ⟨_, _, cur, ety, rfl, hh', fun hpos => ?_, by omega, fun k' e' he => by cases he⟩
    rw [if_neg (by omega), hAd (by omega)]
    simp [addr_add]

theorem does_slcA_ptr {x : Operand} {k n r off : Nat} {g : Reg} {lo hi : Option Operand} {l h : Int} (hx : s.ev x = .one (.ptr r off)) (hg : sget s.st r = some g) (hl : s.bnd lo 0 = some l) (hh : s.bnd hi n = some h) (h0 : 0 ≤ l) (h1 : l ≤ h) (h2 : h ≤ n) (hne : g.cs ≠ []) :
    Quiet C (.slcA k n x lo hi) s (.one (.own r (off + l.toNat * k) (h.toNat - l.toNat) none)) := by
  refine fun o ho β a w hR => ?_
  obtain ⟨t, e, ho, hu, hk⟩ := ho
  obtain ⟨b, hb, hv⟩ := hR.ptr hx hg
  obtain ⟨b', cur, ety, hb', hh', _, _⟩ := hR.ok.blk hg hne
  rw [hb] at hb'; injection hb' with hb'; subst hb'
  refine ⟨.slice (some (if n = l.toNat then ⟨b, off, none⟩ else ⟨b, off + l.toNat * k, none⟩)) (h.toNat - l.toNat) (n - l.toNat), fun w' _ => ?_, .one fun _ => ?_⟩
  · have hbd := bounds_run (P := C.P) (sl := false) hR hl hh h0 h1 h2 (Nat.le_refl n) w'
    simp only [execOp, ho, hv, Instr.sliceAt, Sem.run_bind, run_underlying hu, Result.andThen_ok, Instr.sureAddr, Option.map_none, Sem.run_pure]
    simp only [hbd, Result.andThen_ok, Sem.run_bind, run_size hk, Sem.run_pure, addr_add]
  · rw [hb]
    refine ⟨_, _, cur, ety, rfl, hh', fun hpos => ?_, by omega, fun k' e' he => by cases he⟩
    rw [if_neg (by omega)]

/-- make([]T, n, c) -/
theorem does_mk {t e k bytes r : Nat} {zs : List T} {x y : Operand} {n c : Int} (hx : s.ev x = .one (.v (.int .i64 n))) (hy : s.ev y = .one (.v (.int .i64 c))) (h0 : 0 ≤ n) (h1 : n ≤ c) (h2 : bytes * c ≤ 2 ^ 48) (h3 : c ≤ 9223372036854775807) (hf : s.fresh r = true)
    (hh : zs.all (fun t => t.isPure && !t.has r) = true) :
    Does C (.mk t e k bytes zs x y) (some r) s true (· = (⟨s.env, (r, ⟨true, (List.replicate n.toNat zs).flatten⟩) :: s.st⟩ : St).put (some r) (.one (.own r 0 n.toNat (some (k, e))))) := by
  refine does_new fun o ho β a w hR => ?_
  obtain ⟨i, z, ho, hu, hi, hz, rfl, rfl, hk0, hzk, rfl⟩ := ho
  have hvx := (hx ▸ hR.ev x).plain
  have hvy := (hy ▸ hR.ev y).plain
  have hpz : ∀ t ∈ z.cells.toList.map ofCell, t.isPure = true ∧ t.has r = false := by
    intro t ht
    have := List.all_eq_true.1 hh t ht
    simpa using this
  have hlen : ((List.replicate n.toNat (z.cells.toList.map ofCell)).flatten).length = n.toNat * i.size := by simp [hzk]
  have hmem : ∀ t ∈ (List.replicate n.toNat (z.cells.toList.map ofCell)).flatten, t ∈ z.cells.toList.map ofCell := by
    intro t ht
    obtain ⟨l, hl, htl⟩ := List.mem_flatten.1 ht
    rw [(List.mem_replicate.1 hl).2] at htl
    exact htl
  have hget : ∀ (j : Nat) (t : T), ((List.replicate n.toNat (z.cells.toList.map ofCell)).flatten)[j]? = some t → t = ofCell (z.cells[j % z.cells.size]!) := by
    intro j t hj
    have hjl : j < n.toNat * i.size := by rw [← hlen]; exact (List.getElem?_eq_some_iff.1 hj).1
    have key : ∀ (m j : Nat), j < m * i.size → ((List.replicate m (z.cells.toList.map ofCell)).flatten)[j]? = some (ofCell (z.cells[j % z.cells.size]!)) := by
      intro m
      induction m with
      | zero => intro j h; omega
      | succ m ih =>
        intro j h
        rw [List.replicate_succ, List.flatten_cons]
        by_cases hjs : j < i.size
        · rw [List.getElem?_append_left (by simp [hzk]; exact hjs), List.getElem?_map]
          have : j % z.cells.size = j := Nat.mod_eq_of_lt (by rw [hzk]; exact hjs)
          rw [this]
          have hjz : j < z.cells.size := by rw [hzk]; exact hjs
          simp [hjz]
        · rw [List.getElem?_append_right (by simp [hzk]; omega)]
          have hl2 : (z.cells.toList.map ofCell).length = i.size := by simp [hzk]
          rw [hl2, ih (j - i.size) (by rw [Nat.add_mul, Nat.one_mul] at h; omega)]
          congr 3
          rw [hzk]
          conv => rhs; rw [← Nat.sub_add_cancel (Nat.le_of_not_lt hjs)]
          rw [Nat.add_mod_right]
    rw [key _ j hjl] at hj
    injection hj with hj
    exact hj.symm
  have hcn : n.toNat ≤ c.toNat := by omega
  have hR' := hR.alloc hf ((Array.range (c.toNat * i.size)).map (z.cells[· % z.cells.size]!)) e ⟨true, (List.replicate n.toNat (z.cells.toList.map ofCell)).flatten⟩
    (by simp only [hlen]; simp; exact Nat.mul_le_mul_right _ hcn) (fun _ t ht => (hpz t (hmem t ht)).1) (fun j t hj => by
      have hjl : j < n.toNat * i.size := by rw [← hlen]; exact (List.getElem?_eq_some_iff.1 hj).1
      have hjc : j < c.toNat * i.size := Nat.lt_of_lt_of_le hjl (Nat.mul_le_mul_right _ hcn)
      have ht := hget j t hj
      refine ⟨z.cells[j % z.cells.size]!, by simp [hjc], ?_, (hpz t (hmem t (List.mem_of_getElem? hj))).2⟩
      rw [ht]
      exact relT_ofCell ..)
  refine ⟨.slice (some ⟨w.heap.size, 0, none⟩) n.toNat c.toNat, _, _, ?_, hR', .one fun _ => ?_, fun _ => kept_alloc w _⟩
  · simp only [execOp, ho, hvx, hvy, Instr.makeSlice, Sem.run_bind, run_underlying hu, Result.andThen_ok, asInt, asIntOf, Sem.run_pure, typeInfo, run_program, hi]
    rw [wrap_i64 (by omega) (by omega), wrap_i64 (by omega) (by omega)]
    have hb1 : (decide (c < 0) || decide ((i.bytes : Int) * c > 2 ^ 48)) = false := by
      simp only [Bool.or_eq_false_iff, decide_eq_false_iff_not]
      omega
    simp only [hb1]
    rw [if_neg (by simp; omega)]
    simp only [Sem.run_bind, run_askRoom, Result.andThen_ok, sizeOf, typeInfo, run_program, hi, Sem.run_pure]
    by_cases hz0 : c.toNat * i.size = 0
    · rw [if_pos hz0]
      have hr0 : Array.range (c.toNat * i.size) = #[] := by rw [hz0]; rfl
      simp only [Sem.run_pure, Result.andThen_ok, newRow, Sem.run_bind, run_newObj, hr0, Array.map_empty]
      rfl
    · rw [if_neg hz0]
      simp only [zeroValue, typeInfo, Sem.run_bind, run_program, hi, hz, Sem.run_pure, Result.andThen_ok, newRow, run_newObj]
      rfl
  · simp only [if_true]
    refine ⟨_, c.toNat, _, e, rfl, heap_alloc_new w _, fun _ => rfl, hcn, fun k' e' he => ?_⟩
    injection he with he
    injection he with h6 h7
    subst h6; subst h7
    exact ⟨rfl, rfl, by simp, by simp only [maxLen]; omega, rfl⟩
end
end Go.V
