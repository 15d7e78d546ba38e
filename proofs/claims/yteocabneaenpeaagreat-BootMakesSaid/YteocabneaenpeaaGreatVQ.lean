/- The V-layer, part Q: calls that are handed regions under other numbers, hand them back, and may hand back new ones. No premises. -/
import Derived.Test.YteocabneaenpeaaGreatVO
set_option linter.unusedVariables false
set_option linter.unusedSimpArgs false
namespace Go.V
open Go.RowKit

/-- Numbers of regions, as the caller has them. -/
def rn (l : List (Nat × Nat)) (r : Nat) : Nat := match l with
  | [] => r
  | (a, b) :: l => bif a == r then b else rn l r
def renT (m : List (Nat × Nat)) : T → T
  | .own r off n ap => .own (rn m r) off n ap
  | .ptr r off => .ptr (rn m r) off
  | t => t
def renG (m : List (Nat × Nat)) (g : Reg) : Reg := bif g.pure then g else ⟨false, g.cs.map (renT m)⟩
def renSt (m : List (Nat × Nat)) : Store → Store
  | [] => []
  | (r, g) :: l => (rn m r, renG m g) :: renSt m l
def srcId (m : List (Nat × Nat)) (q : Nat) : Store → Option Nat
  | [] => none
  | (r, _) :: l => bif rn m r == q then some r else srcId m q l
theorem srcId_some {m : List (Nat × Nat)} {q r : Nat} : ∀ {st : Store}, srcId m q st = some r → hasSt st r = true ∧ rn m r = q
  | [], h => by cases h
  | (k, g) :: l, h => by
    simp only [srcId] at h
    cases hb : rn m k == q with
    | true =>
      rw [hb, cond_true] at h
      injection h with h
      subst h
      exact ⟨by simp [hasSt, sget], eq_of_beq hb⟩
    | false =>
      rw [hb, cond_false] at h
      obtain ⟨h1, h2⟩ := srcId_some h
      refine ⟨?_, h2⟩
      simp only [hasSt, sget]
      cases k == r
      · exact h1
      · rfl
theorem srcId_none {m : List (Nat × Nat)} {q : Nat} : ∀ {st : Store}, srcId m q st = none → ∀ r, hasSt st r = true → rn m r ≠ q
  | [], h, r, hr => by cases hr
  | (k, g) :: l, h, r, hr => by
    simp only [srcId] at h
    cases hb : rn m k == q with
    | true => rw [hb, cond_true] at h; cases h
    | false =>
      rw [hb, cond_false] at h
      simp only [hasSt, sget] at hr
      cases hk : k == r with
      | true =>
        have := eq_of_beq hk
        subst this
        intro e
        rw [e, beq_self_eq_true] at hb
        cases hb
      | false => rw [hk] at hr; exact srcId_none h r hr
theorem sget_renSt {m : List (Nat × Nat)} {q : Nat} : ∀ (st : Store), sget (renSt m st) q = match srcId m q st with
    | some r => (sget st r).map (renG m)
    | none => none
  | [] => rfl
  | (k, g) :: l => by
    simp only [renSt, sget, srcId]
    cases hb : rn m k == q with
    | true => simp [beq_self_eq_true]
    | false =>
      simp only [cond_false]
      rw [sget_renSt l]
      cases hs : srcId m q l with
      | none => rfl
      | some r =>
        simp only
        have h2 := (srcId_some hs).2
        have : (k == r) = false := by
          cases hk : k == r with
          | false => rfl
          | true =>
            have := eq_of_beq hk
            subst this
            rw [h2, beq_self_eq_true] at hb
            cases hb
        rw [this]
        rfl
def injB (m : List (Nat × Nat)) (st : Store) : Bool := st.all fun p => st.all fun q => !(rn m p.1 == rn m q.1) || p.1 == q.1
theorem hasSt_mem {st : Store} {r : Nat} (h : hasSt st r = true) : ∃ g, (r, g) ∈ st := by
  obtain ⟨g, hg⟩ := Option.isSome_iff_exists.1 h
  exact ⟨g, mem_of_sget hg⟩
theorem injB_inj {m : List (Nat × Nat)} {st : Store} (h : injB m st = true) {a b : Nat} (ha : hasSt st a = true) (hb : hasSt st b = true) (he : rn m a = rn m b) : a = b := by
  obtain ⟨g, hg⟩ := hasSt_mem ha
  obtain ⟨g', hg'⟩ := hasSt_mem hb
  have := List.all_eq_true.1 (List.all_eq_true.1 h _ hg) _ hg'
  simp only [he, beq_self_eq_true, Bool.not_true, Bool.false_or] at this
  exact eq_of_beq this
theorem renSt_get {m : List (Nat × Nat)} {st : Store} {l : Store} (h : leSt l (renSt m st)) (hi : injB m st = true) {r : Nat} {g : Reg} (hg : sget st r = some g) : sget l (rn m r) = some (renG m g) := by
  have hr : hasSt st r = true := by simp [hasSt, hg]
  refine leSt_get h _ _ ?_
  rw [sget_renSt]
  cases hs : srcId m (rn m r) st with
  | none => exact absurd rfl (srcId_none hs r hr)
  | some q =>
    obtain ⟨h1, h2⟩ := srcId_some hs
    have := injB_inj hi h1 hr h2
    subst this
    simp [hg]
theorem hasSt_append (a b : Store) (q : Nat) : hasSt (a ++ b) q = (hasSt a q || hasSt b q) := by
  simp only [hasSt, sget_append]
  cases h : (sget a q).isSome <;> simp [h]
/-- Does a region stay where it is? -/
def anch (m : List (Nat × Nat)) (st st' : Store) (q : Nat) : Bool := match srcId m q st' with
  | some r => !(Nat.blt r 100000) && hasSt st r
  | none => false
/-- What hangs on a region that is handed over and may move is let go. -/
def movM (m : List (Nat × Nat)) (st st' : Store) : T → T
  | .own r off n ap => bif hasSt (renSt m st) r && !(anch m st st' r) then .dead else .own r off n ap
  | .ptr r off => bif hasSt (renSt m st) r && !(anch m st st' r) then .dead else .ptr r off
  | t => t
def stayM (m : List (Nat × Nat)) (st st' : Store) : T → Bool
  | .own r _ _ _ => !(hasSt (renSt m st) r && !(anch m st st' r))
  | .ptr r _ => !(hasSt (renSt m st) r && !(anch m st st' r))
  | _ => true
theorem movM_stay {m : List (Nat × Nat)} {st st' : Store} {t : T} (h : stayM m st st' t = true) : movM m st st' t = t := by
  cases t <;> simp only [movM, stayM, Bool.not_eq_true'] at h ⊢ <;> simp only [h, cond_false]
def allS (p : T → Bool) : S → Bool
  | .one t => p t
  | .agg ts => ts.all p
  | .tup l => allL p l
where allL (p : T → Bool) : List S → Bool
  | [] => true
  | s :: l => allS p s && allL p l
theorem allL_get {p : T → Bool} {l : List S} (h : allS.allL p l = true) {i : Nat} {s : S} (hi : l[i]? = some s) : allS p s = true := by
  induction l generalizing i with
  | nil => simp at hi
  | cons x l ih =>
    simp only [allS.allL, Bool.and_eq_true] at h
    cases i with
    | zero => simp at hi; subst hi; exact h.1
    | succ i => exact ih h.2 (by simpa using hi)
theorem RelS.mapIf {w w' : World} {st st' : Store} {β β' : Nat → Option Nat} {I I' : Nat → Prop} {f : T → T} {p : T → Bool} (hf : ∀ t u, p t = true → RelT w st β I t u → RelT w' st' β' I' (f t) u) {s : S} {u : Value} (h : RelS w st β I s u) (hp : allS p s = true) : RelS w' st' β' I' (mapS f s) u := by
  induction h with
  | one h => exact .one (hf _ _ hp h)
  | agg hs h =>
    refine .agg (by simpa using hs) fun i t u h1 h2 => ?_
    rw [List.getElem?_map] at h1
    obtain ⟨t', h3, rfl⟩ := Option.map_eq_some_iff.1 h1
    exact hf _ _ (List.all_eq_true.1 hp _ (List.mem_of_getElem? h3)) (h i t' u h3 h2)
  | tup hs h ih =>
    refine .tup (by rw [mapL_len]; exact hs) fun i s u h1 h2 => ?_
    rw [mapL_get] at h1
    obtain ⟨s', h3, rfl⟩ := Option.map_eq_some_iff.1 h1
    exact ih i s' u h3 h2 (allL_get hp h3)
theorem RelS.mapHas {N : Nat → Prop} {w w' : World} {st st' : Store} {β β' : Nat → Option Nat} {I I' : Nat → Prop} {f : T → T} (hf : ∀ t u, (∀ r, N r → t.has r = false) → RelT w st β I t u → RelT w' st' β' I' (f t) u) {s : S} {u : Value} (hN : ∀ r, N r → s.has r = false) (h : RelS w st β I s u) : RelS w' st' β' I' (mapS f s) u := by
  induction h with
  | one h => exact .one (hf _ _ hN h)
  | agg hs h =>
    refine .agg (by simpa using hs) fun i t u h1 h2 => ?_
    rw [List.getElem?_map] at h1
    obtain ⟨t', h3, rfl⟩ := Option.map_eq_some_iff.1 h1
    refine hf _ _ (fun r hr => ?_) (h i t' u h3 h2)
    have := hN r hr
    simp only [S.has, List.any_eq_false] at this
    simpa using this t' (List.mem_of_getElem? h3)
  | tup hs h ih =>
    refine .tup (by rw [mapL_len]; exact hs) fun i s u h1 h2 => ?_
    rw [mapL_get] at h1
    obtain ⟨s', h3, rfl⟩ := Option.map_eq_some_iff.1 h1
    exact ih i s' u h3 h2 (fun r hr => S.hasL_false (hN r hr) h3)
theorem RelS.unmap {w w' : World} {st st' : Store} {β β' : Nat → Option Nat} {I I' : Nat → Prop} {f : T → T} (hf : ∀ t u, RelT w st β I (f t) u → RelT w' st' β' I' t u) {s : S} {u : Value} (h : RelS w st β I (mapS f s) u) : RelS w' st' β' I' s u := by
  generalize hy : mapS f s = y at h
  induction h generalizing s with
  | one h =>
    cases s with
    | one t => simp only [mapS, S.one.injEq] at hy; subst hy; exact .one (hf _ _ h)
    | agg ts => simp [mapS] at hy
    | tup l => simp [mapS] at hy
  | agg hs h =>
    cases s with
    | one t => simp [mapS] at hy
    | agg ts =>
      simp only [mapS, S.agg.injEq] at hy
      subst hy
      refine .agg (by simpa using hs) fun i t u h1 h2 => hf _ _ (h i (f t) u (by rw [List.getElem?_map, h1]; rfl) h2)
    | tup l => simp [mapS] at hy
  | tup hs h ih =>
    cases s with
    | one t => simp [mapS] at hy
    | agg ts => simp [mapS] at hy
    | tup l =>
      simp only [mapS, S.tup.injEq] at hy
      subst hy
      rw [mapL_len] at hs
      exact .tup hs fun i s u h1 h2 => ih i (mapS f s) u (by rw [mapL_get, h1]; rfl) h2 rfl
theorem renT_pure {m : List (Nat × Nat)} {t : T} (h : t.isPure = true) : renT m t = t := by cases t <;> first | rfl | cases h
theorem renG_cs {m : List (Nat × Nat)} {g : Reg} (hp : g.pure = true → ∀ t ∈ g.cs, t.isPure = true) : (renG m g).cs = g.cs.map (renT m) := by
  unfold renG
  cases h : g.pure with
  | true =>
    simp only [cond_true]
    have h1 := hp h
    exact ((List.map_congr_left (g := id) fun t ht => renT_pure (h1 t ht)).trans (List.map_id _)).symm
  | false => rfl
/-- Regions that the callee makes: of numbers that nothing hangs on. -/
def newB (s : St) (m : List (Nat × Nat)) (st : Store) : Store → Bool
  | [] => true
  | (r, _) :: l => (hasSt st r || s.fresh (rn m r)) && newB s m st l
theorem newB_get {s : St} {m : List (Nat × Nat)} {st : Store} : ∀ {st' : Store}, newB s m st st' = true → ∀ r, hasSt st' r = true → hasSt st r = false → s.fresh (rn m r) = true
  | [], h, r, hr, hn => by cases hr
  | (k, g) :: l, h, r, hr, hn => by
    simp only [newB, Bool.and_eq_true, Bool.or_eq_true] at h
    simp only [hasSt, sget] at hr
    cases hk : k == r with
    | true =>
      have := eq_of_beq hk
      subst this
      rcases h.1 with h1 | h1
      · rw [hn] at h1; cases h1
      · exact h1
    | false => rw [hk] at hr; exact newB_get h.2 r hr hn

theorem does_callM {C : Ctx} {s : St} {d : Option Nat} {P : Program} {f : FuncId} {xs : List Operand} {args : List S} {st st' : Store} {X : S} (m : List (Nat × Nat)) (k : Bool) (hP : C.P = P) (hAC : AC P f args st (fun x s' => x = X ∧ ∀ r g, sget st' r = some g → sget s' r = some g))
    (hx : xs.map (fun x => mapS nilT (s.ev x)) = args.map (mapS (renT m))) (hst : leSt s.st (renSt m st)) (hinj : injB m (st ++ st') = true) (hcl : st'.all (fun p => p.2.pure || p.2.cs.all (inT st')) = true) (hnew : newB s m st st' = true)
    (hrest : (rest (renSt m st) s.st).all (fun p => p.2.pure || p.2.cs.all (stayM m st st')) = true) (hX : allS (inT st') X = true) (hk0 : k = true → st = []) (hfix : st.all (fun p => Nat.blt (rn m p.1) 100000 || !(Nat.blt p.1 100000)) = true) :
    Does C (.call f xs) d s k (· = (⟨mapE (movM m st st') s.env, renSt m st' ++ rest (renSt m st) s.st⟩ : St).put d (mapS (renT m) X)) := by
  subst hP
  intro o ho hd hn β a w hR next R' hK
  obtain ⟨cargs, ats, ho, rfl, hc⟩ := ho
  unfold Oper.wp
  rw [run_call ho hc, Oper.upon_enter]
  have hinj' : ∀ a b, (hasSt st a = true ∨ hasSt st' a = true) → (hasSt st b = true ∨ hasSt st' b = true) → rn m a = rn m b → a = b := fun a b ha hb he =>
    injB_inj hinj (by rw [hasSt_append]; rcases ha with h | h <;> rw [h] <;> simp only [Bool.true_or, Bool.or_true]) (by rw [hasSt_append]; rcases hb with h | h <;> rw [h] <;> simp only [Bool.true_or, Bool.or_true]) he
  have hinj0 : injB m st = true := by
    refine List.all_eq_true.2 fun p hp => List.all_eq_true.2 fun q hq => ?_
    exact List.all_eq_true.1 (List.all_eq_true.1 hinj p (List.mem_append_left _ hp)) q (List.mem_append_left _ hq)
  have hsub : ∀ r g, sget st r = some g → sget s.st (rn m r) = some (renG m g) := fun r g hg => renSt_get hst hinj0 hg
  have hsubS : ∀ r, hasSt st r = true → (sget s.st (rn m r)).isSome = true := fun r hr => by
    obtain ⟨g, hg⟩ := Option.isSome_iff_exists.1 hr
    rw [hsub r g hg]; rfl
  -- what is handed over
  have hhand : ∀ q, hasSt (renSt m st) q = true ↔ ∃ r, hasSt st r = true ∧ rn m r = q := by
    intro q
    simp only [hasSt, sget_renSt]
    cases hs : srcId m q st with
    | none => exact ⟨fun h => (by cases h), fun ⟨r, hr, e⟩ => absurd e (srcId_none hs r hr)⟩
    | some r =>
      obtain ⟨h1, h2⟩ := srcId_some hs
      refine ⟨fun _ => ⟨r, h1, h2⟩, fun _ => ?_⟩
      obtain ⟨g, hg⟩ := Option.isSome_iff_exists.1 h1
      simp [hg]
  let E : Nat → Prop := fun b => ∃ r, hasSt st r = true ∧ β (rn m r) = some b
  let βc : Nat → Option Nat := fun r => β (rn m r)
  let fix : Nat → Option (Option Nat) := fun r => bif Nat.blt r 100000 then none else (bif hasSt st r then some (βc r) else none)
  have fx : ∀ r, Nat.blt r 100000 = true → fix r = none := fun r hr => by simp only [fix, hr, cond_true]
  have h0 : ∀ b, C.I s.st β w b → b < w.heap.size ∧ ¬ E b := fun b hb => ⟨C.I_lt hR.ok.kept hb, fun ⟨r, hr, hrb⟩ => hR.ok.notI (hsubS r hr) hrb hb⟩
  let Cc : Ctx := ⟨C.P, 0, E, w, C.I s.st β w, h0, fix, fx⟩
  have hIn : ∀ b, C.I s.st β w b → Cc.I st βc w b := fun b h => .inl h
  have hren : ∀ t u, RelT w s.st β (C.I s.st β w) (renT m t) u → RelT w st βc (Cc.I st βc w) t u := by
    intro t u h
    cases t with
    | v x => exact Rep.mono (fun _ _ => rfl) hIn h
    | nil => exact Rep.mono (fun _ _ => rfl) hIn h
    | sl cs n => exact Rep.mono (fun _ _ => rfl) hIn h
    | dead => trivial
    | psl cs off =>
      obtain ⟨b, o, us, h1, h2, h3, h4⟩ := h
      exact ⟨b, o, us, hIn _ h1, h2, h3, fun j t hj => Rep.mono (fun _ _ => rfl) hIn (h4 j t hj)⟩
    | own r off n ap => intro hr; exact h (hsubS r hr)
    | ptr r off => intro hr; exact h (hsubS r hr)
  refine (hAC w E (C.I s.st β w) h0 fix fx βc (cargs.map a.eval) ⟨Kept.refl _ _, fun r g hg => ?_, fun r r' b hr hr' hb hb' => ?_, fun r b hr hb => .inl ⟨r, hr, hb⟩, fun r b hr hf => ?_⟩ ?_ ?_).mono ?_
  · have h1 := hR.ok.store (rn m r) _ (hsub r g hg)
    have hp : g.pure = true → ∀ t ∈ g.cs, t.isPure = true := fun hp t ht => by
      have h3 := h1.1
      unfold renG at h3
      rw [hp] at h3
      exact h3 hp t ht
    refine ⟨hp, ?_⟩
    have h2 := h1.2
    have hcs := renG_cs (m := m) hp
    show match β (rn m r) with | none => g.cs = [] | some b => _
    cases hb : β (rn m r) with
    | none => rw [hb] at h2; replace h2 : (renG m g).cs = [] := h2; rw [hcs] at h2; simpa using h2
    | some b =>
      rw [hb] at h2
      obtain ⟨cur, ety, h3, h4, h5⟩ := h2
      rw [hcs] at h4
      refine ⟨cur, ety, h3, by simpa using h4, fun j t hj => ?_⟩
      obtain ⟨u, h6, h7⟩ := h5 j (renT m t) (by rw [hcs, List.getElem?_map, hj]; rfl)
      exact ⟨u, h6, hren t u h7⟩
  · exact hinj' r r' (.inl hr) (.inl hr') (hR.ok.inj _ _ b (hsubS r hr) (hsubS r' hr') hb hb')
  · simp only [fix] at hf
    cases h1 : Nat.blt r 100000 with
    | true => rw [h1] at hf; cases hf
    | false =>
      rw [h1, cond_false] at hf
      have hr' : hasSt st r = true := hr
      rw [hr', cond_true] at hf
      injection hf
  · have := congrArg List.length hx
    simpa using this
  · intro i x v h1 h2
    have h3 : (args.map (mapS (renT m)))[i]? = some (mapS (renT m) x) := by rw [List.getElem?_map, h1]; rfl
    rw [← hx, List.getElem?_map] at h3
    obtain ⟨y, hy, hyx⟩ := Option.map_eq_some_iff.1 h3
    have hv : v = a.eval y := by
      rw [Array.getElem?_map] at h2
      have hy' : cargs[i]? = some y := by simpa using hy
      rw [hy'] at h2
      simpa using h2.symm
    subst hv
    have h5 : RelS w s.st β (C.I s.st β w) (mapS nilT (s.ev y)) (a.eval y) := RelS.map (fun t u h => by cases t <;> first | exact h | (cases h; exact .sl0 _ _)) (hR.ev y)
    rw [hyx] at h5
    exact RelS.unmap hren h5
  · rintro e w' ⟨v, x, s'', β'', rfl, hok, hrel, rfl, hle⟩
    have hk : Kept E w w' := hok.kept
    have hleS : ∀ r, hasSt st' r = true → (sget s'' r).isSome = true := fun r hr => by
      obtain ⟨g, hg⟩ := Option.isSome_iff_exists.1 hr
      rw [hle r g hg]; rfl
    have hEw : ∀ b, E b → C.E b ∨ C.w0.heap.size ≤ b := fun b ⟨r, hr, hb⟩ => hR.ok.wher (rn m r) b (hsubS r hr) hb
    have hsz := hk.size
    have hsz0 := hR.ok.kept.size
    let β2 : Nat → Option Nat := fun q => match srcId m q st' with | some r => β'' r | none => β q
    let S2 : Store := renSt m st' ++ rest (renSt m st) s.st
    have hβ2 : ∀ r, hasSt st' r = true → β2 (rn m r) = β'' r := by
      intro r hr
      simp only [β2]
      cases hs : srcId m (rn m r) st' with
      | none => exact absurd rfl (srcId_none hs r hr)
      | some q =>
        obtain ⟨h1, h2⟩ := srcId_some hs
        have := hinj' q r (.inr h1) (.inr hr) h2
        subst this
        rfl
    have hS2' : ∀ r, hasSt st' r = true → sget S2 (rn m r) = (sget st' r).map (renG m) := by
      intro r hr
      have h1 : sget (renSt m st') (rn m r) = (sget st' r).map (renG m) := by
        rw [sget_renSt]
        cases hs : srcId m (rn m r) st' with
        | none => exact absurd rfl (srcId_none hs r hr)
        | some q =>
          obtain ⟨h1, h2⟩ := srcId_some hs
          have := hinj' q r (.inr h1) (.inr hr) h2
          subst this
          rfl
      obtain ⟨g, hg⟩ := Option.isSome_iff_exists.1 hr
      simp only [S2, sget_append, hasSt, h1, hg, Option.map_some, Option.isSome_some, cond_true]
    have hS2n : ∀ q, (∀ r, hasSt st' r = true → rn m r ≠ q) → sget S2 q = bif hasSt (renSt m st) q then none else sget s.st q := by
      intro q hq
      have h1 : hasSt (renSt m st') q = false := by
        simp only [hasSt, sget_renSt]
        cases hs : srcId m q st' with
        | none => rfl
        | some r => obtain ⟨h1, h2⟩ := srcId_some hs; exact absurd h2 (hq r h1)
      simp only [S2, sget_append, h1, cond_false, sget_rest]
    -- each region of the store that there is then
    have hcase : ∀ q, (sget S2 q).isSome = true → (∃ r, hasSt st' r = true ∧ rn m r = q ∧ β2 q = β'' r) ∨ ((∀ r, hasSt st' r = true → rn m r ≠ q) ∧ hasSt (renSt m st) q = false ∧ (sget s.st q).isSome = true ∧ β2 q = β q) := by
      intro q hq
      cases hs : srcId m q st' with
      | some r =>
        obtain ⟨h1, rfl⟩ := srcId_some hs
        exact .inl ⟨r, h1, rfl, hβ2 r h1⟩
      | none =>
        have h1 := srcId_none hs
        rw [hS2n q h1] at hq
        cases h2 : hasSt (renSt m st) q with
        | true => rw [h2] at hq; cases hq
        | false => rw [h2, cond_false] at hq; exact .inr ⟨h1, rfl, hq, by simp only [β2, hs]⟩
    have hnE : ∀ q b, hasSt (renSt m st) q = false → (sget s.st q).isSome = true → β q = some b → ¬ E b := fun q b hq hs hb ⟨r, hr, hrb⟩ => by
      have := hR.ok.inj q (rn m r) b hs (hsubS r hr) hb hrb
      have h2 := (hhand q).2 ⟨r, hr, this.symm⟩
      rw [hq] at h2; cases h2
    have hblk : ∀ q b, hasSt (renSt m st) q = false → (sget s.st q).isSome = true → β q = some b → w'.heap[b]? = w.heap[b]? := fun q b hq hs hb => hk.block b (hR.ok.lt hs hb) (hnE q b hq hs hb)
    have hcross : ∀ r q' b, hasSt st' r = true → β'' r = some b → hasSt (renSt m st) q' = false → (sget s.st q').isSome = true → β q' = some b → False := by
      intro r q' b hq hb hq' hs hb'
      rcases hok.wher r b (hleS r hq) hb with h | h
      · exact hnE q' b hq' hs hb' h
      · have := hR.ok.lt hs hb'
        replace h : w.heap.size ≤ b := h
        omega
    have hI1 : ∀ b, C.I s.st β w b → C.I S2 β2 w' b := by
      intro b hb
      have hlt := (h0 b hb).1
      have hne := (h0 b hb).2
      rcases hb with h | ⟨h1, h2, h3⟩
      · exact .inl h
      · refine .inr ⟨h1, by omega, fun q hq => ?_⟩
        rcases hcase q hq with ⟨r, hq1, _, hq2⟩ | ⟨_, hq2, hq3, hq4⟩
        · rw [hq2]
          intro hqb
          rcases hok.wher r b (hleS r hq1) hqb with h | h
          · exact hne h
          · replace h : w.heap.size ≤ b := h
            omega
        · rw [hq4]; exact h3 q hq3
    have hI2 : ∀ b, Cc.I s'' β'' w' b → C.I S2 β2 w' b := by
      rintro b (h | ⟨h1, h2, h3⟩)
      · exact hI1 b h
      · replace h1 : E b ∨ w.heap.size ≤ b := h1
        refine .inr ⟨?_, h2, fun q hq => ?_⟩
        · rcases h1 with h1 | h1
          · exact hEw b h1
          · exact .inr (by omega)
        · rcases hcase q hq with ⟨r, hq1, _, hq2⟩ | ⟨_, hq2, hq3, hq4⟩
          · rw [hq2]; exact h3 r (hleS r hq1)
          · rw [hq4]
            intro hqb
            rcases h1 with h1 | h1
            · exact hnE q b hq2 hq3 hqb h1
            · have := hR.ok.lt hq3 hqb
              omega
    have hcells : ∀ a : Addr, C.I s.st β w a.block → w'.cell? a = w.cell? a := fun a ha => cell_of_heap (hk.block a.block (h0 _ ha).1 (h0 _ ha).2)
    -- what hung on the caller's regions; 't' must hang on none that is new
    have hf : ∀ t u, (∀ r, hasSt st' r = true → hasSt st r = false → t.has (rn m r) = false) → RelT w s.st β (C.I s.st β w) t u → RelT w' S2 β2 (C.I S2 β2 w') (movM m st st' t) u := by
      intro t u hfr h
      cases t with
      | v x => exact Rep.mono hcells hI1 h
      | nil => exact Rep.mono hcells hI1 h
      | sl cs n => exact Rep.mono hcells hI1 h
      | dead => trivial
      | psl cs off =>
        obtain ⟨b, o, us, h1, h2, h3, h4⟩ := h
        exact ⟨b, o, us, hI1 _ h1, h2, fun j t hj => (hcells ⟨b, o + j, none⟩ h1).trans (h3 j t hj), fun j t hj => Rep.mono hcells hI1 (h4 j t hj)⟩
      | own q off n ap =>
        simp only [movM]
        cases hm : (hasSt (renSt m st) q && !(anch m st st' q)) with
        | true => trivial
        | false =>
          intro hs
          rcases hcase q hs with ⟨r, hq1, rfl, hq2⟩ | ⟨_, hr, hq3, hq4⟩
          · cases hst0 : hasSt st r with
            | false => have := hfr r hq1 hst0; simp [T.has] at this
            | true =>
              rw [(hhand _).2 ⟨r, hst0, rfl⟩, Bool.true_and] at hm
              have ha : anch m st st' (rn m r) = true := by simpa using hm
              have h2 := h (hsubS r hst0)
              rw [hq2]
              have hbeq : β'' r = β (rn m r) := by
                unfold anch at ha
                cases hs2 : srcId m (rn m r) st' with
                | none => rw [hs2] at ha; cases ha
                | some q2 =>
                  obtain ⟨h3, h4⟩ := srcId_some hs2
                  have := hinj' q2 r (.inr h3) (.inr hq1) h4
                  subst this
                  rw [hs2] at ha
                  simp only [Bool.and_eq_true, Bool.not_eq_true'] at ha
                  exact hok.fixd q2 _ (hleS q2 hq1) (by show fix q2 = some (β (rn m q2)); simp only [fix, ha.1, cond_false, ha.2, cond_true]; rfl)
              rw [hbeq]
              unfold OwnOK at h2 ⊢
              cases hb : β (rn m r) with
              | none => rw [hb] at h2; exact h2
              | some b =>
                rw [hb] at h2
                obtain ⟨A, cap, cur, ety, e1, hh, hA, hn2, hap⟩ := h2
                obtain ⟨cur', h5, h6⟩ := hk.shape b cur ety hh
                refine ⟨A, cap, cur', ety, e1, h5, hA, hn2, fun k e hk => ?_⟩
                obtain ⟨a1, a2, a3, a4, a5⟩ := hap k e hk
                exact ⟨a1, a2, by rw [h6]; exact a3, a4, a5⟩
          · rw [hq4]
            have h2 := h hq3
            unfold OwnOK at h2 ⊢
            cases hb : β q with
            | none => rw [hb] at h2; exact h2
            | some b =>
              rw [hb] at h2
              obtain ⟨A, cap, cur, ety, e1, hh, hA⟩ := h2
              exact ⟨A, cap, cur, ety, e1, (hblk q b hr hq3 hb).trans hh, hA⟩
      | ptr q off =>
        simp only [movM]
        cases hm : (hasSt (renSt m st) q && !(anch m st st' q)) with
        | true => trivial
        | false =>
          intro hs
          rcases hcase q hs with ⟨r, hq1, rfl, hq2⟩ | ⟨_, _, hq3, hq4⟩
          · cases hst0 : hasSt st r with
            | false => have := hfr r hq1 hst0; simp [T.has] at this
            | true =>
              rw [(hhand _).2 ⟨r, hst0, rfl⟩, Bool.true_and] at hm
              have ha : anch m st st' (rn m r) = true := by simpa using hm
              obtain ⟨b, hb, hu⟩ := h (hsubS r hst0)
              refine ⟨b, ?_, hu⟩
              rw [hq2]
              unfold anch at ha
              cases hs2 : srcId m (rn m r) st' with
              | none => rw [hs2] at ha; cases ha
              | some q2 =>
                obtain ⟨h3, h4⟩ := srcId_some hs2
                have := hinj' q2 r (.inr h3) (.inr hq1) h4
                subst this
                rw [hs2] at ha
                simp only [Bool.and_eq_true, Bool.not_eq_true'] at ha
                exact hok.fixd q2 (some b) (hleS q2 hq1) (by show fix q2 = some (some b); simp only [fix, ha.1, cond_false, ha.2, cond_true]; exact congrArg some hb)
          · rw [hq4]; exact h hq3
    have hf2 : ∀ t u, inT st' t = true → RelT w' s'' β'' (Cc.I s'' β'' w') t u → RelT w' S2 β2 (C.I S2 β2 w') (renT m t) u := by
      intro t u hin h
      cases t with
      | v x => exact Rep.mono (fun _ _ => rfl) hI2 h
      | nil => exact Rep.mono (fun _ _ => rfl) hI2 h
      | sl cs n => exact Rep.mono (fun _ _ => rfl) hI2 h
      | dead => trivial
      | psl cs off =>
        obtain ⟨b, o, us, h1, h2, h3, h4⟩ := h
        exact ⟨b, o, us, hI2 _ h1, h2, h3, fun j t hj => Rep.mono (fun _ _ => rfl) hI2 (h4 j t hj)⟩
      | own r off n ap =>
        intro _
        have hr : hasSt st' r = true := hin
        show OwnOK w' (β2 (rn m r)) off n ap u
        rw [hβ2 r hr]
        exact h (hleS r hr)
      | ptr r off =>
        intro _
        have hr : hasSt st' r = true := hin
        show ∃ b, β2 (rn m r) = some b ∧ u = .pointer (some ⟨b, off, none⟩)
        rw [hβ2 r hr]
        exact h (hleS r hr)
    refine hK _ β2 (a.put o.dst v) w' rfl ?_ (fun h => ?_)
    rotate_left
    · have := hk0 h
      subst this
      exact ⟨hk.os, hk.tape, hk.output, hk.size, fun b hb _ => hk.block b hb (fun ⟨r, hr, _⟩ => by cases hr), hk.shape⟩
    rw [hd]
    refine R.putAny (s := ⟨mapE (movM m st st') s.env, S2⟩) ⟨⟨?_, ?_, ?_, ?_, ?_⟩, hR.defers, hR.size, fun i => ?_⟩ (RelS.mapIf hf2 hrel hX) hn
    · refine ⟨hk.os.trans hR.ok.kept.os, hk.tape.trans hR.ok.kept.tape, hk.output.trans hR.ok.kept.output, Nat.le_trans hsz0 hsz, fun b hb hE => ?_, fun b cur ety hh => ?_⟩
      · refine (hk.block b (by omega) fun h => ?_).trans (hR.ok.kept.block b hb hE)
        rcases hEw b h with h1 | h1
        · exact hE h1
        · omega
      · obtain ⟨c1, h1, h2⟩ := hR.ok.kept.shape b cur ety hh
        obtain ⟨c2, h3, h4⟩ := hk.shape b c1 ety h1
        exact ⟨c2, h3, h4.trans h2⟩
    · intro q g hg
      have hs : (sget S2 q).isSome = true := by rw [hg]; rfl
      rcases hcase q hs with ⟨r, hq1, rfl, hq2⟩ | ⟨hq1, hq2, hq3, hq4⟩
      · rw [hS2' r hq1] at hg
        obtain ⟨g0, hg0, rfl⟩ := Option.map_eq_some_iff.1 hg
        have h1 := hok.store r g0 (hle r g0 hg0)
        have hclq := List.all_eq_true.1 hcl _ (mem_of_sget hg0)
        have hcs := renG_cs (m := m) h1.1
        refine ⟨fun hp t ht => ?_, ?_⟩
        · unfold renG at hp ht
          cases hp0 : g0.pure with
          | true => rw [hp0] at ht; exact h1.1 hp0 t ht
          | false => rw [hp0] at hp; cases hp
        rw [hq2]
        have h2 := h1.2
        cases hb : β'' r with
        | none => rw [hb] at h2; replace h2 : g0.cs = [] := h2; show (renG m g0).cs = []; rw [hcs, h2]; rfl
        | some b =>
          rw [hb] at h2
          obtain ⟨cur, ety, h3, h4, h5⟩ := h2
          refine ⟨cur, ety, h3, by rw [hcs]; simpa using h4, fun j t hj => ?_⟩
          rw [hcs, List.getElem?_map] at hj
          obtain ⟨t0, hj0, rfl⟩ := Option.map_eq_some_iff.1 hj
          obtain ⟨u, h6, h7⟩ := h5 j t0 hj0
          refine ⟨u, h6, hf2 t0 u ?_ h7⟩
          cases hp : g0.pure with
          | true =>
            have := h1.1 hp t0 (List.mem_of_getElem? hj0)
            cases t0 <;> first | rfl | cases this
          | false =>
            simp only [hp, Bool.false_or] at hclq
            exact List.all_eq_true.1 hclq t0 (List.mem_of_getElem? hj0)
      · rw [hS2n q hq1, hq2, cond_false] at hg
        have h1 := hR.ok.store q g hg
        have hmem : (q, g) ∈ rest (renSt m st) s.st := mem_of_sget (by rw [sget_rest, hq2, cond_false]; exact hg)
        have hrq := List.all_eq_true.1 hrest _ hmem
        refine ⟨h1.1, ?_⟩
        rw [hq4]
        have h2 := h1.2
        cases hb : β q with
        | none => rw [hb] at h2; exact h2
        | some b =>
          rw [hb] at h2
          obtain ⟨cur, ety, h3, h4, h5⟩ := h2
          refine ⟨cur, ety, (hblk q b hq2 hq3 hb).trans h3, h4, fun j t hj => ?_⟩
          obtain ⟨u, h6, h7⟩ := h5 j t hj
          refine ⟨u, h6, ?_⟩
          have h8 := hf t u (fun r hr hr0 => St.fresh_st (newB_get hnew r hr hr0) hR.ok hg (List.mem_of_getElem? hj)) h7
          have : stayM m st st' t = true := by
            cases hp : g.pure with
            | true =>
              have := h1.1 hp t (List.mem_of_getElem? hj)
              cases t <;> first | rfl | cases this
            | false =>
              simp only [hp, Bool.false_or] at hrq
              exact List.all_eq_true.1 hrq t (List.mem_of_getElem? hj)
          rwa [movM_stay this] at h8
    · intro q q' b hq hq' hb hb'
      rcases hcase q hq with ⟨r, h1, rfl, h2⟩ | ⟨_, h2, h3, h4⟩ <;> rcases hcase q' hq' with ⟨r', k1, rfl, k2⟩ | ⟨_, k2, k3, k4⟩
      · rw [h2] at hb; rw [k2] at hb'
        rw [hok.inj r r' b (hleS r h1) (hleS r' k1) hb hb']
      · rw [h2] at hb; rw [k4] at hb'
        exact (hcross r q' b h1 hb k2 k3 hb').elim
      · rw [h4] at hb; rw [k2] at hb'
        exact (hcross r' q b k1 hb' h2 h3 hb).elim
      · rw [h4] at hb; rw [k4] at hb'
        exact hR.ok.inj q q' b h3 k3 hb hb'
    · intro q b hq hb
      rcases hcase q hq with ⟨r, h1, rfl, h2⟩ | ⟨_, h2, h3, h4⟩
      · rw [h2] at hb
        rcases hok.wher r b (hleS r h1) hb with h | h
        · exact hEw b h
        · replace h : w.heap.size ≤ b := h
          exact .inr (by omega)
      · rw [h4] at hb
        exact hR.ok.wher q b h3 hb
    · intro q b hq hfx
      rcases hcase q hq with ⟨r, h1, rfl, h2⟩ | ⟨_, h2, h3, h4⟩
      · rw [h2]
        cases hm : Nat.blt (rn m r) 100000 with
        | true => rw [C.fx _ hm] at hfx; cases hfx
        | false =>
          cases hst0 : hasSt st r with
          | false =>
            have := St.fresh_lt (newB_get hnew r h1 hst0)
            rw [hm] at this; cases this
          | true =>
            have hb := hR.ok.fixd _ b (hsubS r hst0) hfx
            have hm2 : Nat.blt r 100000 = false := by
              obtain ⟨g0, hg0⟩ := hasSt_mem hst0
              have := List.all_eq_true.1 hfix _ hg0
              simpa [hm] using this
            exact hok.fixd r b (hleS r h1) (by show fix r = some b; simp only [fix, hm2, cond_false, hst0, cond_true]; exact congrArg some hb)
      · rw [h4]; exact hR.ok.fixd q b h3 hfx
    · show RelS w' S2 β2 _ (eget (mapE (movM m st st') s.env) i) _
      rw [eget_mapE _ rfl]
      exact RelS.mapHas (N := fun q => ∃ r, hasSt st' r = true ∧ hasSt st r = false ∧ rn m r = q) (fun t u hN h => hf t u (fun r h1 h2 => hN _ ⟨r, h1, h2, rfl⟩) h) (fun q ⟨r, h1, h2, e⟩ => e ▸ St.fresh_env (newB_get hnew r h1 h2) i) (hR.env i)
attribute [simp] rn renT renG renSt srcId anch movM inT stayM allS allS.allL newB injB
end Go.V
