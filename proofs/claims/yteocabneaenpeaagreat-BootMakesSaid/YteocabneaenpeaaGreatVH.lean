/- The V-layer, part H: ghost moves: an owned slice that is not written any more, nil that is to be grown, weaker values. No premises. -/
import Derived.Test.YteocabneaenpeaaGreatVG
set_option linter.unusedVariables false
set_option linter.unusedSimpArgs false
namespace Go.V
open Go.RowKit

def mapS (f : T → T) : S → S
  | .one t => .one (f t)
  | .agg ts => .agg (ts.map f)
  | .tup l => .tup (mapL f l)
where mapL (f : T → T) : List S → List S
  | [] => []
  | s :: l => mapS f s :: mapL f l
def mapE (f : T → T) : Env → Env
  | [] => []
  | (i, x) :: l => (i, mapS f x) :: mapE f l
theorem mapL_get (f : T → T) : ∀ (l : List S) (i : Nat), (mapS.mapL f l)[i]? = (l[i]?).map (mapS f)
  | [], i => by simp [mapS.mapL]
  | s :: l, 0 => by simp [mapS.mapL]
  | s :: l, i + 1 => by simp [mapS.mapL, mapL_get f l i]
theorem mapL_len (f : T → T) : ∀ (l : List S), (mapS.mapL f l).length = l.length
  | [] => rfl
  | s :: l => by simp [mapS.mapL, mapL_len f l]
theorem eget_mapE (f : T → T) (hf : f .dead = .dead) : ∀ (e : Env) (i : Nat), eget (mapE f e) i = mapS f (eget e i)
  | [], i => by simp [mapE, eget, mapS, hf]
  | (k, x) :: l, i => by
    simp only [mapE, eget]
    cases k == i
    · exact eget_mapE f hf l i
    · rfl
theorem RelS.map {w w' : World} {st st' : Store} {β β' : Nat → Option Nat} {I I' : Nat → Prop} {f : T → T} (hf : ∀ t u, RelT w st β I t u → RelT w' st' β' I' (f t) u) {s : S} {u : Value} (h : RelS w st β I s u) : RelS w' st' β' I' (mapS f s) u := by
  induction h with
  | one h => exact .one (hf _ _ h)
  | agg hs h =>
    refine .agg (by simpa using hs) fun i t u h1 h2 => ?_
    rw [List.getElem?_map] at h1
    obtain ⟨t', h3, rfl⟩ := Option.map_eq_some_iff.1 h1
    exact hf _ _ (h i t' u h3 h2)
  | tup hs h ih =>
    refine .tup (by rw [mapL_len]; exact hs) fun i s u h1 h2 => ?_
    rw [mapL_get] at h1
    obtain ⟨s', h3, rfl⟩ := Option.map_eq_some_iff.1 h1
    exact ih i s' u h3 h2

/-! ### An owned slice that is not written any more -/
def frzO (cs : List T) (off n : Nat) : Option (Nat × TypeId) → T
  | some _ => .sl (cs.drop off) n
  | none => bif n == 0 then .sl [] 0 else .sl (cs.drop off) n
def frzT (r : Nat) (cs : List T) : T → T
  | .own q off n ap => bif q == r then frzO cs off n ap else .own q off n ap
  | t => t
def frzG (r : Nat) (cs : List T) (g : Reg) : Reg := bif g.pure then g else ⟨allPure (g.cs.map (frzT r cs)), g.cs.map (frzT r cs)⟩
def frzSt (r : Nat) (cs : List T) : Store → Store
  | [] => []
  | (q, g) :: l => bif q == r then frzSt r cs l else (q, frzG r cs g) :: frzSt r cs l
theorem sget_frzSt_same (r : Nat) (cs : List T) : ∀ (st : Store), sget (frzSt r cs st) r = none
  | [] => rfl
  | (k, g) :: l => by
    simp only [frzSt]
    cases hk : k == r
    · simp only [cond_false, sget, hk]; exact sget_frzSt_same r cs l
    · exact sget_frzSt_same r cs l
theorem sget_frzSt_ne (r : Nat) (cs : List T) {q : Nat} (hq : q ≠ r) : ∀ (st : Store), sget (frzSt r cs st) q = (sget st q).map (frzG r cs)
  | [] => rfl
  | (k, g) :: l => by
    simp only [frzSt]
    cases hk : k == r
    · simp only [cond_false, sget]
      cases hkq : k == q
      · exact sget_frzSt_ne r cs hq l
      · rfl
    · have : k = r := eq_of_beq hk
      subst this
      simp only [cond_true, sget, beq_false' (fun e => hq e.symm : k ≠ q), cond_false]
      exact sget_frzSt_ne k cs hq l

theorem own_rep {w : World} {st : Store} {β : Nat → Option Nat} {I I' : Nat → Prop} {r off n : Nat} {ap : Option (Nat × TypeId)} {u : Value} {g : Reg} (hs : (sget st r).isSome = true) (hreg : RegOK w st β I (β r) g) (hp : g.pure = true) (hI : ∀ b, I b → I' b) (hb : ∀ b, β r = some b → I' b)
    (h : RelT w st β I (.own r off n ap) u) : Rep w I' (frzO g.cs off n ap) u := by
  have h1 := h hs
  obtain ⟨hpure, h2⟩ := hreg
  unfold OwnOK at h1
  cases hbr : β r with
  | none =>
    rw [hbr] at h1 h2
    obtain ⟨rfl, rfl⟩ := h1
    have h2 : g.cs = [] := h2
    rw [h2]
    cases ap <;> simp [frzO] <;> exact .sl0 _ _
  | some b =>
    rw [hbr] at h1 h2
    obtain ⟨A, cap, cur, ety, rfl, hh, hA, hn, hap⟩ := h1
    obtain ⟨cur', ety', hh', hl, hc⟩ := h2
    rw [hh] at hh'; injection hh' with hh'; injection hh' with hh' _; subst hh'
    have main : A = some ⟨b, off, none⟩ → Rep w I' (.sl (g.cs.drop off) n) (.slice A n cap) := by
      rintro rfl
      have hex : ∀ j : Nat, ∃ u : Value, ∀ t, (g.cs.drop off)[j]? = some t → w.cell? ⟨b, off + j, none⟩ = some u ∧ Rep w I' t u := by
        intro j
        cases hj : (g.cs.drop off)[j]? with
        | none => exact ⟨undef, fun t ht => by cases ht⟩
        | some t =>
          rw [List.getElem?_drop] at hj
          obtain ⟨u, h3, h4⟩ := hc _ t hj
          refine ⟨u, fun t' ht => ?_⟩
          injection ht with ht; subst ht
          refine ⟨?_, Rep.mono (fun _ _ => rfl) hI (T.pure_rep (hpure hp t (List.mem_of_getElem? hj)) w st β I u h4)⟩
          rw [cell_row hh]; exact h3
      exact .sl (fun j => (hex j).choose) (hb b hbr) (fun j t hj => ((hex j).choose_spec t hj).1) (fun j t hj => ((hex j).choose_spec t hj).2) hn
    cases ap with
    | some p => exact main ((hap p.1 p.2 rfl).1 ▸ (hap p.1 p.2 rfl).2.1)
    | none =>
      by_cases h0 : n = 0
      · subst h0; exact .sl0 _ _
      · have : (n == 0) = false := by simpa using h0
        simp only [frzO, this, cond_false]
        exact main (hA (by omega))

theorem Le_frz {s : St} {r : Nat} {g : Reg} (hg : sget s.st r = some g) (hp : g.pure = true) : Le s ⟨mapE (frzT r g.cs) s.env, frzSt r g.cs s.st⟩ := by
  intro C β a w hR
  have hrs : (sget s.st r).isSome = true := by rw [hg]; rfl
  have hsome : ∀ q, (sget (frzSt r g.cs s.st) q).isSome = true → q ≠ r ∧ (sget s.st q).isSome = true := by
    intro q hq
    by_cases h : q = r
    · subst h; rw [sget_frzSt_same] at hq; cases hq
    · rw [sget_frzSt_ne _ _ h] at hq; exact ⟨h, by simpa using hq⟩
  have hI : ∀ b, C.I s.st β w b → C.I (frzSt r g.cs s.st) β w b := by
    rintro b (h0 | ⟨h1, h2, h3⟩)
    · exact .inl h0
    · exact .inr ⟨h1, h2, fun q hq => h3 q (hsome q hq).2⟩
  have hb : ∀ b, β r = some b → C.I (frzSt r g.cs s.st) β w b := by
    intro b hb
    refine .inr ⟨hR.ok.wher r b hrs hb, hR.ok.lt hrs hb, fun q hq hqb => ?_⟩
    obtain ⟨h1, h2⟩ := hsome q hq
    exact h1 (hR.ok.inj q r b h2 hrs hqb hb)
  have hf : ∀ t u, RelT w s.st β (C.I s.st β w) t u → RelT w (frzSt r g.cs s.st) β (C.I (frzSt r g.cs s.st) β w) (frzT r g.cs t) u := by
    intro t u h
    cases t with
    | v x => exact Rep.mono (fun _ _ => rfl) hI h
    | nil => exact Rep.mono (fun _ _ => rfl) hI h
    | sl cs n => exact Rep.mono (fun _ _ => rfl) hI h
    | dead => trivial
    | ptr q off => exact fun hq => h (hsome q hq).2
    | psl cs off =>
      obtain ⟨b, o, us, h1, h2, h3, h4⟩ := h
      exact ⟨b, o, us, hI _ h1, h2, h3, fun j t hj => Rep.mono (fun _ _ => rfl) hI (h4 j t hj)⟩
    | own q off n ap =>
      simp only [frzT]
      cases hq : q == r with
      | false => exact fun hs => h (hsome q hs).2
      | true =>
        have : q = r := eq_of_beq hq
        subst this
        have := own_rep (I' := C.I (frzSt q g.cs s.st) β w) hrs (hR.ok.store q g hg) hp hI hb h
        simp only [cond_true]
        exact this.relT
  refine ⟨⟨hR.ok.kept, fun q g' hq => ?_, fun q q' b h h' => hR.ok.inj q q' b (hsome q h).2 (hsome q' h').2, fun q b h => hR.ok.wher q b (hsome q h).2, fun q b h => hR.ok.fixd q b (hsome q h).2⟩, hR.defers, hR.size, fun i => ?_⟩
  · have hne := (hsome q (by rw [hq]; rfl)).1
    rw [sget_frzSt_ne _ _ hne] at hq
    obtain ⟨g0, hg0, rfl⟩ := Option.map_eq_some_iff.1 hq
    have h1 := hR.ok.store q g0 hg0
    unfold frzG
    cases hgp : g0.pure with
    | true =>
      simp only [cond_true]
      refine ⟨h1.1, ?_⟩
      have h2 := h1.2
      cases hbq : β q with
      | none => rw [hbq] at h2; exact h2
      | some b =>
        rw [hbq] at h2
        obtain ⟨cur, ety, h3, h4, h5⟩ := h2
        refine ⟨cur, ety, h3, h4, fun j t hj => ?_⟩
        obtain ⟨u, h6, h7⟩ := h5 j t hj
        exact ⟨u, h6, (Rep.mono (fun _ _ => rfl) hI (T.pure_rep (h1.1 hgp t (List.mem_of_getElem? hj)) w _ _ _ u h7)).relT⟩
    | false =>
      simp only [cond_false]
      refine ⟨(fun h t ht => allPure_mem h t ht), ?_⟩
      have h2 := h1.2
      cases hbq : β q with
      | none => rw [hbq] at h2; simp only at h2 ⊢; rw [h2]; rfl
      | some b =>
        rw [hbq] at h2
        obtain ⟨cur, ety, h3, h4, h5⟩ := h2
        refine ⟨cur, ety, h3, by simpa using h4, fun j t hj => ?_⟩
        simp only [List.getElem?_map] at hj
        obtain ⟨t', h8, rfl⟩ := Option.map_eq_some_iff.1 hj
        obtain ⟨u, h6, h7⟩ := h5 j t' h8
        exact ⟨u, h6, hf _ _ h7⟩
  · show RelS w (frzSt r g.cs s.st) β _ (eget (mapE (frzT r g.cs) s.env) i) _
    rw [eget_mapE _ rfl]
    exact RelS.map hf (hR.env i)

/-! ### Weaker values in slots -/
theorem Le_put {s : St} {i : Nat} {x : S} (h : ∀ w β I u, RelS w s.st β I (eget s.env i) u → RelS w s.st β I x u) : Le s ⟨(i, x) :: s.env, s.st⟩ := by
  intro C β a w hR
  refine ⟨hR.ok, hR.defers, hR.size, fun j => ?_⟩
  simp only [eget]
  cases hb : i == j with
  | true => have : i = j := eq_of_beq hb; subst this; exact h _ _ _ _ (hR.env i)
  | false => exact hR.env j
/-- A region that stands nowhere yet. -/
theorem R.virt {C : Ctx} {s : St} {β : Nat → Option Nat} {a : Act} {w : World} (hR : R C s β a w) {r : Nat} (hf : s.fresh r = true) :
    R C ⟨s.env, (r, ⟨true, []⟩) :: s.st⟩ (fun q => if q = r then none else β q) a w := by
  have hsome : ∀ q, (sget ((r, (⟨true, []⟩ : Reg)) :: s.st) q).isSome = true → q = r ∨ (q ≠ r ∧ (sget s.st q).isSome = true) := by
    intro q hq
    by_cases h : q = r
    · exact .inl h
    · rw [sget_cons_ne _ _ (fun e => h e.symm)] at hq; exact .inr ⟨h, hq⟩
  have hI : ∀ b, C.I s.st β w b → C.I ((r, ⟨true, []⟩) :: s.st) (fun q => if q = r then none else β q) w b := by
    rintro b (h0 | ⟨h1, h2, h3⟩)
    · exact .inl h0
    · refine .inr ⟨h1, h2, fun q hq => ?_⟩
      rcases hsome q hq with rfl | ⟨hne, hq'⟩
      · simp
      · simp only [hne, if_false]; exact h3 q hq'
  have hx : ExtN (· = r) (C.I s.st β w) (C.I ((r, ⟨true, []⟩) :: s.st) (fun q => if q = r then none else β q) w) s.st ((r, ⟨true, []⟩) :: s.st) β (fun q => if q = r then none else β q) w w := by
    refine ⟨hI, fun b hb => rfl, fun q hq hs => ?_, fun q b hq hs hb c e hh => ⟨c, hh, rfl⟩⟩
    rcases hsome q hs with h | ⟨_, h⟩
    · exact absurd h hq
    · exact ⟨h, by simp [show ¬ q = r from hq]⟩
  refine hR.turn (N := (· = r)) ⟨hR.ok.kept, ?_, ?_, ?_, fun q b hq hf' => by
    rcases hsome q hq with rfl | ⟨hne, h⟩
    · rw [C.fx q (St.fresh_lt hf)] at hf'; cases hf'
    · simp only [hne, if_false]; exact hR.ok.fixd q b h hf'⟩ hx (by rintro q rfl i; exact St.fresh_env hf i)
  · intro q g' hg
    by_cases hq : q = r
    · subst hq
      rw [sget_cons_same] at hg
      injection hg with hg
      subst hg
      exact ⟨fun _ t ht => by simp at ht, by simp⟩
    · rw [sget_cons_ne _ _ (fun e => hq e.symm)] at hg
      have := hR.ok.store q g' hg
      refine ⟨this.1, ?_⟩
      have h2 := this.2
      simp only [hq, if_false]
      cases hb : β q with
      | none => rw [hb] at h2; exact h2
      | some b =>
        rw [hb] at h2
        obtain ⟨c, e, h3, h4, h5⟩ := h2
        refine ⟨c, e, h3, h4, fun j t hj => ?_⟩
        obtain ⟨u, h6, h7⟩ := h5 j t hj
        exact ⟨u, h6, RelT.extN hx (fun q' hq' => by subst hq'; exact St.fresh_st hf hR.ok hg (List.mem_of_getElem? hj)) h7⟩
  · intro q q' b hq hq' hb hb'
    rcases hsome q hq with rfl | ⟨hne, h⟩ <;> rcases hsome q' hq' with rfl | ⟨hne', h'⟩
    · rfl
    · simp at hb
    · simp at hb'
    · simp only [hne, if_false] at hb; simp only [hne', if_false] at hb'
      exact hR.ok.inj q q' b h h' hb hb'
  · intro q b hq hb
    rcases hsome q hq with rfl | ⟨hne, h⟩
    · simp at hb
    · simp only [hne, if_false] at hb
      exact hR.ok.wher q b h hb

/-- Two states, where the regions may stand elsewhere. -/
def LeB (s s' : St) : Prop := ∀ (C : Ctx) β a w, R C s β a w → ∃ β', R C s' β' a w
theorem Le.b {s s' : St} (h : Le s s') : LeB s s' := fun C β a w hR => ⟨β, h C β a w hR⟩
theorem LeB_trans {s s' s'' : St} (h : LeB s s') (h' : LeB s' s'') : LeB s s'' := fun C β a w hR => let ⟨β', h1⟩ := h C β a w hR; h' C β' a w h1
/-- A slot with nil, that is to be grown. -/
theorem LeB_nilown {s : St} {i r : Nat} (k e : Nat) (h : eget s.env i = .one .nil) (hf : s.fresh r = true) : LeB s ⟨(i, .one (.own r 0 0 (some (k, e)))) :: s.env, (r, ⟨true, []⟩) :: s.st⟩ := by
  intro C β a w hR
  refine ⟨fun x => if x = r then none else β x, ?_⟩
  have h1 := hR.virt hf
  refine ⟨h1.ok, h1.defers, h1.size, fun j => ?_⟩
  simp only [eget]
  cases hb : i == j with
  | false => exact h1.env j
  | true =>
    have : i = j := eq_of_beq hb
    subst this
    have h2 := h1.env i
    replace h2 : RelS w _ _ _ (eget s.env i) _ := h2
    rw [h] at h2
    generalize a.tmps.getD i undef = u at h2 ⊢
    cases h2 with
    | one h2 =>
      cases h2
      refine .one fun _ => ?_
      simp only [if_true]
      exact ⟨rfl, rfl⟩
/-- A cell with nil, that is to be grown. -/
theorem LeB_nilownC {s : St} {q j r : Nat} {g : Reg} (k e : Nat) (hg : sget s.st q = some g) (hj : g.cs[j]? = some .nil) (hf : s.fresh r = true) (hp : ∀ t ∈ g.cs, t.has r = false) :
    LeB s ⟨s.env, (r, ⟨true, []⟩) :: sset s.st q ⟨false, g.cs.set j (.own r 0 0 (some (k, e)))⟩⟩ := by
  intro C β a w hR
  refine ⟨fun x => if x = r then none else β x, ?_⟩
  have h1 := hR.virt hf
  have hqr : r ≠ q := by
    intro e; subst e
    have := St.fresh_none hf
    rw [this] at hg; cases hg
  have hs : ∀ x, (sget ((r, (⟨true, []⟩ : Reg)) :: sset s.st q ⟨false, g.cs.set j (.own r 0 0 (some (k, e)))⟩) x).isSome = (sget ((r, (⟨true, []⟩ : Reg)) :: s.st) x).isSome := by
    intro x
    simp only [sget]
    cases r == x
    · exact sget_sset_isSome ..
    · rfl
  have hI : C.I ((r, ⟨true, []⟩) :: sset s.st q ⟨false, g.cs.set j (.own r 0 0 (some (k, e)))⟩) (fun x => if x = r then none else β x) w = C.I ((r, ⟨true, []⟩) :: s.st) (fun x => if x = r then none else β x) w := by
    funext b; unfold Ctx.I; simp only [hs]
  have hx : Ext (C.I ((r, ⟨true, []⟩) :: s.st) (fun x => if x = r then none else β x) w) (C.I ((r, ⟨true, []⟩) :: sset s.st q ⟨false, g.cs.set j (.own r 0 0 (some (k, e)))⟩) (fun x => if x = r then none else β x) w) ((r, ⟨true, []⟩) :: s.st) ((r, ⟨true, []⟩) :: sset s.st q ⟨false, g.cs.set j (.own r 0 0 (some (k, e)))⟩) (fun x => if x = r then none else β x) (fun x => if x = r then none else β x) w w :=
    ⟨fun b hb => by rw [hI]; exact hb, fun _ _ => rfl, fun x hx => ⟨by rw [← hs]; exact hx, rfl⟩, fun _ _ _ _ cur ety hh => ⟨cur, hh, rfl⟩⟩
  refine ⟨⟨h1.ok.kept, fun x g' hgx => ?_, fun x x' b h h' => h1.ok.inj x x' b (by rw [← hs]; exact h) (by rw [← hs]; exact h'), fun x b h => h1.ok.wher x b (by rw [← hs]; exact h), fun x b h => h1.ok.fixd x b (by rw [← hs]; exact h)⟩, h1.defers, h1.size, fun i => RelS.ext hx (h1.env i)⟩
  have reg : ∀ g0, sget ((r, (⟨true, []⟩ : Reg)) :: s.st) x = some g0 → RegOK w ((r, ⟨true, []⟩) :: sset s.st q ⟨false, g.cs.set j (.own r 0 0 (some (k, e)))⟩) (fun x => if x = r then none else β x) (C.I ((r, ⟨true, []⟩) :: sset s.st q ⟨false, g.cs.set j (.own r 0 0 (some (k, e)))⟩) (fun x => if x = r then none else β x) w) (if x = r then none else β x) g0 := by
    intro g0 h0
    have h2 := h1.ok.store x g0 h0
    refine ⟨h2.1, ?_⟩
    have h3 := h2.2
    simp only at h3
    cases hb : (if x = r then none else β x) with
    | none => rw [hb] at h3; exact h3
    | some b =>
      rw [hb] at h3
      obtain ⟨cur, ety, h4, h5, h6⟩ := h3
      exact ⟨cur, ety, h4, h5, fun j t hj => by obtain ⟨u, h7, h8⟩ := h6 j t hj; exact ⟨u, h7, RelT.ext hx h8⟩⟩
  by_cases hxr : r = x
  · subst hxr
    rw [sget_cons_same] at hgx
    exact reg g' (by rw [sget_cons_same]; exact hgx)
  · rw [sget_cons_ne _ _ hxr] at hgx
    by_cases hxq : q = x
    · subst hxq
      rw [sget_sset_same _ _ _ (by rw [hg]; rfl)] at hgx
      injection hgx with hgx
      subst hgx
      have h2 := reg g (by rw [sget_cons_ne _ _ hxr]; exact hg)
      refine ⟨(fun h => by cases h), ?_⟩
      have h3 := h2.2
      simp only [if_neg (fun e => hxr e.symm : ¬ q = r)] at h3 ⊢
      cases hb : β q with
      | none => rw [hb] at h3; simp only at h3; rw [h3] at hj; cases hj
      | some b =>
        rw [hb] at h3
        obtain ⟨cur, ety, h4, h5, h6⟩ := h3
        refine ⟨cur, ety, h4, by simpa using h5, fun i t hi => ?_⟩
        by_cases hij : i = j
        · subst hij
          have hlt : i < g.cs.length := (List.getElem?_eq_some_iff.1 hj).1
          simp [hlt] at hi
          subst hi
          obtain ⟨u, h7, h8⟩ := h6 i _ hj
          refine ⟨u, h7, fun _ => ?_⟩
          cases h8
          simp only [if_true]
          exact ⟨rfl, rfl⟩
        · rw [List.getElem?_set_ne (fun e => hij e.symm)] at hi
          exact h6 i t hi
    · rw [sget_sset_ne _ _ hxq] at hgx
      exact reg g' (by rw [sget_cons_ne _ _ hxr]; exact hgx)

section
variable {C : Ctx} {Q : Exit → St → Prop} {s s' : St} {K : St → Prop} {l : List VOp}
theorem E_ghost {v : VCode} (h : LeB s s') (hv : EV C v Q s') : EV C v Q s := fun c hc β a w hR => let ⟨β', h1⟩ := h C β a w hR; hv c hc β' a w h1
theorem W_ghost (h : LeB s s') (hv : WL C l s' K) : WL C l s K := fun ops idx hl hr β a w hR => let ⟨β', h1⟩ := h C β a w hR; hv ops idx hl hr β' a w h1
end
attribute [simp] mapS mapE mapS.mapL frzO frzT frzG frzSt
end Go.V
