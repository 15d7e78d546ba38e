/- The V-layer, part B4: literals of structs, arrays and slices; make; slices of slices. No premises. -/
import Derived.Test.YteocabneaenpeaaGreatVB3
set_option linter.unusedVariables false
set_option linter.unusedSimpArgs false
namespace Go.V
open Go.RowKit

theorem fold_size (off : Nat) : ∀ (l : List Value) (k : Nat) (us : Array Value), ((l.zipIdx k).foldl (fun cs p => cs.setIfInBounds (off + p.2) p.1) us).size = us.size
  | [], k, us => rfl
  | v :: l, k, us => by simp only [List.zipIdx_cons, List.foldl_cons]; rw [fold_size off l]; simp
theorem fold_get (off : Nat) : ∀ (l : List Value) (k : Nat) (us : Array Value) (i : Nat), off + k + l.length ≤ us.size →
    ((l.zipIdx k).foldl (fun cs p => cs.setIfInBounds (off + p.2) p.1) us)[i]? = if off + k ≤ i ∧ i < off + k + l.length then l[i - (off + k)]? else us[i]?
  | [], k, us, i, _ => by simp; omega
  | v :: l, k, us, i, h => by
    simp only [List.length_cons] at h
    simp only [List.zipIdx_cons, List.foldl_cons]
    rw [fold_get off l (k + 1) _ i (by simp; omega)]
    by_cases h1 : off + k = i
    · subst h1
      have : off + k < us.size := by omega
      rw [if_neg (by omega), if_pos (by simp)]
      simp [this]
    · by_cases h2 : off + (k + 1) ≤ i ∧ i < off + (k + 1) + l.length
      · rw [if_pos h2, if_pos (by simp; omega)]
        have : i - (off + k) = (i - (off + (k + 1))) + 1 := by omega
        rw [this, List.getElem?_cons_succ]
      · rw [if_neg h2, if_neg (by simp; omega), Array.getElem?_setIfInBounds_ne h1]

/-- Cells as they stand to an array's. -/
def RelA (w : World) (st : Store) (β : Nat → Option Nat) (I : Nat → Prop) (ts : List T) (us : Array Value) : Prop :=
  us.size = ts.length ∧ ∀ (j : Nat) (t : T), ts[j]? = some t → ∃ u, us[j]? = some u ∧ RelT w st β I t u

theorem RelA.fold {w : World} {st : Store} {β : Nat → Option Nat} {I : Nat → Prop} {ts ys : List T} {us vs : Array Value} (h : RelA w st β I ts us) (hy : RelA w st β I ys vs) {off : Nat} (hl : off + ys.length ≤ ts.length) :
    RelA w st β I (splice ts off ys) (vs.zipIdx.foldl (fun cs p => cs.setIfInBounds (off + p.2) p.1) us) := by
  have e : vs.zipIdx.foldl (fun cs p => cs.setIfInBounds (off + p.2) p.1) us = ((vs.toList.zipIdx 0).foldl (fun cs p => cs.setIfInBounds (off + p.2) p.1) us) := by
    rw [← Array.foldl_toList, Array.toList_zipIdx]
  rw [e]
  have hv : vs.toList.length = ys.length := by simp [hy.1]
  refine ⟨?_, fun j t hj => ?_⟩
  · rw [fold_size, h.1]
    simp only [splice, List.length_append, List.length_take, List.length_drop]
    omega
  · rw [fold_get _ _ _ _ _ (by rw [hv, h.1]; omega)]
    simp only [splice] at hj
    rw [splice_get _ _ _ hl] at hj
    simp only [Nat.add_zero, hv]
    by_cases h1 : j < off
    · rw [if_pos h1] at hj
      rw [if_neg (by omega)]
      exact h.2 j t hj
    · rw [if_neg h1] at hj
      by_cases h2 : j < off + ys.length
      · rw [if_pos h2] at hj
        rw [if_pos (by omega)]
        obtain ⟨u, h3, h4⟩ := hy.2 _ t hj
        exact ⟨u, by simpa using h3, h4⟩
      · rw [if_neg h2] at hj
        rw [if_neg (by omega)]
        exact h.2 j t hj

def fillT : List T → List (Nat × List T) → List T
  | cs, [] => cs
  | cs, (off, ys) :: l => fillT (splice cs off ys) l
def fillOK (n : Nat) : List (Nat × List T) → Bool
  | [] => true
  | (off, ys) :: l => (off + ys.length).ble n && fillOK n l
def St.parts (s : St) : List (Nat × Nat × Operand) → Option (List (Nat × List T))
  | [] => some []
  | (off, n, x) :: l => match (s.ev x).cells s.st with
    | some ys => bif (ys.length == n) then (s.parts l).map ((off, ys) :: ·) else none
    | none => none

theorem fill_rel {C : Ctx} {s : St} {β : Nat → Option Nat} {a : Act} {w : World} (hR : R C s β a w) (place : Nat → Option (Nat × Nat)) :
    ∀ (l : List (Nat × Operand)) (ps : List (Nat × Nat × Operand)) (xs : List (Nat × List T)) (cs : List T) (us : Array Value),
      (∀ (i : Nat) (p : Nat × Operand), l[i]? = some p → ∃ q, ps[i]? = some q ∧ place p.1 = some (q.1, q.2.1) ∧ p.2 = q.2.2) → l.length = ps.length →
      s.parts ps = some xs → fillOK cs.length xs = true → RelA w s.st β (C.I s.st β w) cs us →
      ∃ us', Instr.fill place us (l.map fun p => (p.1, a.eval p.2)) = some us' ∧ RelA w s.st β (C.I s.st β w) (fillT cs xs) us'
  | [], ps, xs, cs, us, _, hl, hx, _, hA => by
    obtain rfl : ps = [] := List.eq_nil_of_length_eq_zero hl.symm
    simp only [St.parts] at hx; injection hx with hx; subst hx
    exact ⟨us, rfl, hA⟩
  | (i, x) :: l, [], xs, cs, us, _, hl, _, _, _ => by simp at hl
  | (i, x) :: l, (off, n, x') :: ps, xs, cs, us, hp, hl, hx, hok, hA => by
    obtain ⟨q, hq, hpl, hxx⟩ := hp 0 _ rfl
    simp at hq; subst hq
    simp only at hpl hxx
    subst hxx
    simp only [St.parts] at hx
    cases hc : (s.ev x).cells s.st with
    | none => rw [hc] at hx; cases hx
    | some ys =>
      rw [hc] at hx
      simp only at hx
      cases hn : (ys.length == n) with
      | false => rw [hn] at hx; cases hx
      | true =>
        rw [hn, cond_true] at hx
        have hn' : ys.length = n := eq_of_beq hn
        obtain ⟨xs', hx', rfl⟩ := Option.map_eq_some_iff.1 hx
        simp only [fillOK, Bool.and_eq_true, Nat.ble_eq] at hok
        obtain ⟨h1, h2⟩ := cells_rel (hR.ev x) hc
        have hA' := RelA.fold hA ⟨h1, h2⟩ hok.1
        have hlen : (splice cs off ys).length = cs.length := by simp only [splice, List.length_append, List.length_take, List.length_drop]; omega
        obtain ⟨us', h3, h4⟩ := fill_rel hR place l ps xs' _ _ (fun i p h => hp (i + 1) p (by simpa using h)) (by simpa using hl) hx' (by rw [hlen]; exact hok.2) hA'
        refine ⟨us', ?_, h4⟩
        simp only [List.map_cons, Instr.fill, hpl]
        rw [if_neg (by
          simp only [Bool.or_eq_true, decide_eq_true_eq, ne_eq, not_or, Nat.not_lt]
          have := hA.1
          exact ⟨by simp; omega, by omega⟩)]
        exact h3

section
variable {C : Ctx} {s : St} {d : Option Nat}
theorem mapM_parts {fs : Array Field} {P : Program} : ∀ {l : List (Nat × Operand)} {ps : List (Nat × Nat × Operand)}, (l.mapM fun (p : Nat × Operand) => (fs[p.1]?).bind fun f => (szP P f.type).map fun n => (f.offset, n, p.2)) = some ps →
    ps.length = l.length ∧ ∀ (i : Nat) (p : Nat × Operand), l[i]? = some p → ∃ q f, ps[i]? = some q ∧ fs[p.1]? = some f ∧ szP P f.type = some q.2.1 ∧ q.1 = f.offset ∧ p.2 = q.2.2
  | [], ps, h => by simp at h; subst h; simp
  | x :: l, ps, h => by
    simp only [List.mapM_cons, bind, Option.bind_eq_some_iff] at h
    obtain ⟨q, ⟨f, hf, hq⟩, ps', hps, h⟩ := h
    simp only [pure, Option.some.injEq] at h
    subst h
    obtain ⟨n, hn, rfl⟩ := Option.map_eq_some_iff.1 hq
    obtain ⟨h1, h2⟩ := mapM_parts hps
    refine ⟨by simp [h1], fun i p hi => ?_⟩
    cases i with
    | zero => simp at hi; subst hi; exact ⟨_, f, rfl, hf, hn, rfl, rfl⟩
    | succ i => simpa using h2 i p (by simpa using hi)

theorem relA_ofCells (w : World) (st : Store) (β : Nat → Option Nat) (I : Nat → Prop) (us : Array Value) : RelA w st β I (us.toList.map ofCell) us := by
  refine ⟨by simp, fun j t hj => ?_⟩
  rw [List.getElem?_map] at hj
  obtain ⟨u, hu, rfl⟩ := Option.map_eq_some_iff.1 hj
  exact ⟨u, by simpa using hu, relT_ofCell ..⟩

theorem places_run {P : Program} {w : World} : ∀ (fs : List Field), (∀ f ∈ fs, (szP P f.type).isSome = true) →
    (fs.mapM (fun f => do pure (f.offset, ← sizeOf f.type)) : Sem (List (Nat × Nat))).run P w = .ok (fs.map fun f => (f.offset, (szP P f.type).getD 0)) w
  | [], _ => rfl
  | f :: fs, h => by
    have h1 := h f (by simp)
    obtain ⟨n, hn⟩ := Option.isSome_iff_exists.1 h1
    simp only [List.mapM_cons, Sem.run_bind, run_size hn, Result.andThen_ok, Sem.run_pure, places_run fs (fun g hg => h g (by simp [hg])), List.map_cons, hn, Option.getD_some]
theorem places_runA {P : Program} {w : World} (fs : Array Field) (h : ∀ f ∈ fs.toList, (szP P f.type).isSome = true) :
    (fs.mapM (fun f => do pure (f.offset, ← sizeOf f.type)) : Sem (Array (Nat × Nat))).run P w = .ok (fs.map fun f => (f.offset, (szP P f.type).getD 0)) w := by
  rw [Array.mapM_eq_mapM_toList]
  have := places_run (P := P) (w := w) fs.toList h
  rw [map_eq_pure_bind, Sem.run_bind, this]
  simp only [Result.andThen_ok, Sem.run_pure]
  congr 1
  apply Array.toList_inj.1
  simp

theorem does_build {zs : List T} {ps : List (Nat × Nat × Operand)} {xs : List (Nat × List T)} (hp : s.parts ps = some xs) (hok : fillOK zs.length xs = true) : Quiet C (.build zs ps) s (.agg (fillT zs xs)) := by
  refine fun o ho β a w hR => ?_
  obtain ⟨t, parts, z, ho, hz, hps, hall, rfl⟩ := ho
  have fin : ∀ us, RelA w s.st β (C.I s.st β w) (fillT (z.cells.toList.map ofCell) xs) us → RelS w s.st β (C.I s.st β w) (.agg (fillT (z.cells.toList.map ofCell) xs)) (.agg us) := by
    intro us h4
    refine .agg h4.1 fun i t u h5 h6 => ?_
    obtain ⟨u', h7, h8⟩ := h4.2 i t h5
    rw [h6] at h7; injection h7 with h7; subst h7
    exact h8
  unfold partsP at hps
  split at hps
  · rename_i fs hu
    obtain ⟨h1, h2⟩ := mapM_parts hps
    obtain ⟨us, h3, h4⟩ := fill_rel hR (fun (i : Nat) => (fs[i]?).map fun (f : Field) => (f.offset, (szP C.P f.type).getD 0)) parts.toList ps xs _ z.cells
      (fun i p hi => by
        obtain ⟨q, f, h5, h6, h7, h8, h9⟩ := h2 i p hi
        exact ⟨q, h5, by simp [h6, h7, h8], h9⟩) h1.symm hp hok (relA_ofCells ..)
    refine ⟨.agg us, fun w' hk' => ?_, fin us h4⟩
    have hm := places_runA (P := C.P) (w := w') fs (hall fs hu)
    have hpl : (fun (i : Nat) => (fs[i]?).map fun (f : Field) => (f.offset, (szP C.P f.type).getD 0)) = ((fs.map fun f => (f.offset, (szP C.P f.type).getD 0))[·]?) := by
      funext i
      simp
    rw [hpl] at h3
    have h3' : Instr.fill ((fs.map fun f => (f.offset, (szP C.P f.type).getD 0))[·]?) z.cells (parts.map fun x => (x.1, a.eval x.2)).toList = some us := by
      rw [Array.toList_map]; exact h3
    simp only [execOp, ho, Instr.build, Sem.run_bind, run_zero hz, Result.andThen_ok, run_underlying hu, hm]
    simp only [h3', Sem.run_pure, Result.andThen_ok]
  · rename_i len e hu
    obtain ⟨n, hn, rfl⟩ := Option.map_eq_some_iff.1 hps
    obtain ⟨us, h3, h4⟩ := fill_rel hR (fun i => some (i * n, n)) parts.toList _ xs _ z.cells
      (fun i p hi => ⟨(p.1 * n, n, p.2), by simp [hi], rfl, rfl⟩) (by simp) hp hok (relA_ofCells ..)
    refine ⟨.agg us, fun w' hk' => ?_, fin us h4⟩
    have h3' : Instr.fill (fun i => some (i * n, n)) z.cells (parts.map fun x => (x.1, a.eval x.2)).toList = some us := by
      rw [Array.toList_map]; exact h3
    simp only [execOp, ho, Instr.build, Sem.run_bind, run_zero hz, Result.andThen_ok, run_underlying hu, run_size hn]
    simp only [h3', Sem.run_pure, Result.andThen_ok]
  · cases hps

theorem fillT_len {xs : List (Nat × List T)} : ∀ {cs : List T}, fillOK cs.length xs = true → (fillT cs xs).length = cs.length := by
  induction xs with
  | nil => intro cs _; rfl
  | cons x xs ih =>
    intro cs h
    obtain ⟨off, ys⟩ := x
    simp only [fillOK, Bool.and_eq_true, Nat.ble_eq] at h
    have hlen : (splice cs off ys).length = cs.length := by simp only [splice, List.length_append, List.length_take, List.length_drop]; omega
    simp only [fillT]
    rw [ih (by rw [hlen]; exact h.2), hlen]

theorem does_bslice {k e n r : Nat} {zs : List T} {ps : List (Nat × Nat × Operand)} {xs : List (Nat × List T)} (hp : s.parts ps = some xs) (hok : fillOK zs.length xs = true) (hf : s.fresh r = true)
    (hh : (fillT zs xs).all (fun t => !t.has r) = true) :
    Does C (.bslice k e n zs ps) (some r) s true (· = (⟨s.env, (r, ⟨allPure (fillT zs xs), fillT zs xs⟩) :: s.st⟩ : St).put (some r) (.one (.own r 0 n (some (k, e))))) := by
  refine does_new fun o ho β a w hR => ?_
  obtain ⟨t, parts, z, ho, hu, hk, hz, hle, hk0, hzk, rfl, rfl⟩ := ho
  obtain ⟨us, h3, h4⟩ := fill_rel hR (fun i => some (i * k, k)) parts.toList _ xs _ ((Array.range (n * k)).map (z.cells[· % z.cells.size]!))
      (fun i p hi => ⟨(p.1 * k, k, p.2), by simp [hi], rfl, rfl⟩) (by simp) hp hok (relA_ofCells ..)
  have hsz : us.size = n * k := by
    have := h4.1
    rw [fillT_len hok] at this
    simpa using this
  have h5 := hR.alloc hf us e ⟨allPure (fillT _ xs), fillT _ xs⟩ (by simp only; rw [h4.1]; exact Nat.le_refl _) (fun h => allPure_mem h) (fun j t hj => by
    obtain ⟨u, h6, h7⟩ := h4.2 j t hj
    refine ⟨u, h6, h7, ?_⟩
    have := List.all_eq_true.1 hh t (List.mem_of_getElem? hj)
    simpa using this)
  refine ⟨.slice (some ⟨w.heap.size, 0, none⟩) n n, _, _, ?_, h5, .one fun _ => ?_, fun _ => kept_alloc w _⟩
  · have h3' : Instr.fill (fun i => some (i * k, k)) ((Array.range (n * k)).map (z.cells[· % z.cells.size]!)) (parts.map fun x => (x.1, a.eval x.2)).toList = some us := by
      rw [Array.toList_map]; exact h3
    simp only [execOp, ho, Instr.buildSlice, Sem.run_bind, run_underlying hu, Result.andThen_ok, run_size hk]
    rw [if_neg (by omega)]
    simp only [Sem.run_bind, Sem.run_ite, Sem.run_pure, run_zero hz, Result.andThen_ok]
    by_cases hn0 : n * k = 0
    · rw [if_pos hn0]
      have hr0 : Array.range (n * k) = #[] := by rw [hn0]; rfl
      rw [hr0] at h3' 
      simp only [Array.map_empty] at h3'
      simp only [Result.andThen_ok, hn0]
      have hr1 : Array.range 0 = #[] := rfl
      simp only [hr1, Array.map_empty, h3', Sem.run_bind, newRow, run_newObj, Result.andThen_ok, Sem.run_pure]
      rfl
    · rw [if_neg hn0]
      simp only [Result.andThen_ok, h3', Sem.run_bind, newRow, run_newObj, Sem.run_pure]
      rfl
  · simp only [if_true]
    unfold OwnOK
    simp only
    refine ⟨some ⟨w.heap.size, 0, none⟩, n, us, e, rfl, heap_alloc_new w _, fun _ => rfl, Nat.le_refl _, fun k' e' he => ?_⟩
    injection he with he
    injection he with h6 h7
    subst h6; subst h7
    refine ⟨by trivial, rfl, hsz, ?_, rfl⟩
    have : n ≤ n * k := Nat.le_mul_of_pos_right _ (by omega)
    simp only [maxLen]; omega
end
end Go.V
