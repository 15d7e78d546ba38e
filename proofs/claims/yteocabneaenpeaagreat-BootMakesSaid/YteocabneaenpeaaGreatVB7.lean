/- The V-layer, part B7: append, copy. No premises. -/
import Derived.Test.YteocabneaenpeaaGreatVB6
set_option linter.unusedVariables false
set_option linter.unusedSimpArgs false
namespace Go.V
open Go.RowKit

/-! ### What hangs on a region is let go -/
def killT (r : Nat) (t : T) : T := bif t.has r then .dead else t
def killS (r : Nat) : S → S
  | .one t => .one (killT r t)
  | .agg ts => .agg (ts.map (killT r))
  | .tup l => .tup (killL r l)
where killL (r : Nat) : List S → List S
  | [] => []
  | s :: l => killS r s :: killL r l
def killE (r : Nat) : Env → Env
  | [] => []
  | (i, x) :: l => (i, killS r x) :: killE r l
def killG (r : Nat) (g : Reg) : Reg := bif g.pure then g else ⟨false, g.cs.map (killT r)⟩
def killSt (r : Nat) : Store → Store
  | [] => []
  | (q, g) :: l => (q, killG r g) :: killSt r l

theorem killL_get (r : Nat) : ∀ (l : List S) (i : Nat), (killS.killL r l)[i]? = (l[i]?).map (killS r)
  | [], i => by simp [killS.killL]
  | s :: l, 0 => by simp [killS.killL]
  | s :: l, i + 1 => by simp [killS.killL, killL_get r l i]
theorem killL_len (r : Nat) : ∀ (l : List S), (killS.killL r l).length = l.length
  | [] => rfl
  | s :: l => by simp [killS.killL, killL_len r l]
theorem eget_killE (r : Nat) : ∀ (e : Env) (i : Nat), eget (killE r e) i = killS r (eget e i)
  | [], i => by simp [killE, eget, killS, killT, T.has]
  | (k, x) :: l, i => by
    simp only [killE, eget]
    cases k == i
    · exact eget_killE r l i
    · rfl
theorem sget_killSt (r : Nat) : ∀ (st : Store) (q : Nat), sget (killSt r st) q = (sget st q).map (killG r)
  | [], q => rfl
  | (k, g) :: l, q => by
    simp only [killSt, sget]
    cases k == q
    · exact sget_killSt r l q
    · rfl
theorem killT_has (r : Nat) (t : T) : (killT r t).has r = false := by
  unfold killT
  cases h : t.has r
  · simpa using h
  · rfl
theorem killS_has (r : Nat) : ∀ (s : S), (killS r s).has r = false
  | .one t => by simp only [killS, S.has]; exact killT_has r t
  | .agg ts => by
    simp only [killS, S.has, List.any_eq_false]
    intro t ht
    obtain ⟨t', _, rfl⟩ := List.mem_map.1 ht
    simpa using killT_has r t'
  | .tup l => by
    simp only [killS, S.has]
    exact go l
where go : ∀ (l : List S), S.has.hasL r (killS.killL r l) = false
  | [] => rfl
  | s :: l => by simp only [killS.killL, S.has.hasL, killS_has r s, go l, Bool.or_self]

section
variable {w : World} {st : Store} {β : Nat → Option Nat} {I : Nat → Prop}
theorem RelT.kill {t : T} {u : Value} (r : Nat) (h : RelT w st β I t u) : RelT w st β I (killT r t) u := by
  unfold killT
  cases t.has r
  · exact h
  · trivial
theorem RelS.kill {s : S} {u : Value} (r : Nat) (h : RelS w st β I s u) : RelS w st β I (killS r s) u := by
  induction h with
  | one h => exact .one (h.kill r)
  | agg hs h =>
    refine .agg (by simpa using hs) fun i t u h1 h2 => ?_
    rw [List.getElem?_map] at h1
    obtain ⟨t', h3, rfl⟩ := Option.map_eq_some_iff.1 h1
    exact (h i t' u h3 h2).kill r
  | tup hs h ih =>
    refine .tup (by rw [killL_len]; exact hs) fun i s u h1 h2 => ?_
    rw [killL_get] at h1
    obtain ⟨s', h3, rfl⟩ := Option.map_eq_some_iff.1 h1
    exact ih i s' u h3 h2
end

theorem R.kill {C : Ctx} {s : St} {β : Nat → Option Nat} {a : Act} {w : World} (hR : R C s β a w) (r : Nat) : R C ⟨killE r s.env, killSt r s.st⟩ β a w := by
  have hs : ∀ q, (sget (killSt r s.st) q).isSome = (sget s.st q).isSome := by intro q; rw [sget_killSt]; cases sget s.st q <;> rfl
  have hI : C.I (killSt r s.st) β w = C.I s.st β w := by
    funext b
    unfold Ctx.I
    simp only [hs]
  have hx : Ext (C.I s.st β w) (C.I (killSt r s.st) β w) s.st (killSt r s.st) β β w w :=
    ⟨fun b h => by rw [hI]; exact h, fun _ _ => rfl, fun q h => ⟨by rw [← hs]; exact h, rfl⟩, fun _ _ _ _ cur ety hh => ⟨cur, hh, rfl⟩⟩
  refine ⟨⟨hR.ok.kept, fun q g hg => ?_, fun q q' b h h' => hR.ok.inj q q' b (by rw [← hs]; exact h) (by rw [← hs]; exact h'), fun q b h => hR.ok.wher q b (by rw [← hs]; exact h), fun q b h => hR.ok.fixd q b (by rw [← hs]; exact h)⟩, hR.defers, hR.size, fun i => ?_⟩
  · rw [sget_killSt] at hg
    obtain ⟨g', hg', rfl⟩ := Option.map_eq_some_iff.1 hg
    have h1 := hR.ok.store q g' hg'
    unfold killG
    cases hp : g'.pure with
    | true =>
      simp only [cond_true]
      refine ⟨h1.1, ?_⟩
      have h2 := h1.2
      cases hb : β q with
      | none => rw [hb] at h2; exact h2
      | some b =>
        rw [hb] at h2
        obtain ⟨cur, ety, h3, h4, h5⟩ := h2
        exact ⟨cur, ety, h3, h4, fun j t hj => by obtain ⟨u, h6, h7⟩ := h5 j t hj; exact ⟨u, h6, RelT.ext hx h7⟩⟩
    | false =>
      simp only [cond_false]
      refine ⟨(fun h => by cases h), ?_⟩
      have h2 := h1.2
      cases hb : β q with
      | none => rw [hb] at h2; simp only at h2 ⊢; rw [h2]; rfl
      | some b =>
        rw [hb] at h2
        obtain ⟨cur, ety, h3, h4, h5⟩ := h2
        refine ⟨cur, ety, h3, by simpa using h4, fun j t hj => ?_⟩
        simp only [List.getElem?_map] at hj
        obtain ⟨t', h8, rfl⟩ := Option.map_eq_some_iff.1 hj
        obtain ⟨u, h6, h7⟩ := h5 j t' h8
        exact ⟨u, h6, (RelT.ext hx h7).kill r⟩
  · show RelS w (killSt r s.st) β _ (eget (killE r s.env) i) _
    rw [eget_killE]
    exact (RelS.ext hx (hR.env i)).kill r

theorem killE_all (r : Nat) : ∀ (e : Env), (killE r e).all (fun p => !p.2.has r) = true
  | [] => rfl
  | (i, x) :: l => by simp only [killE, List.all_cons, killS_has, killE_all r l, Bool.not_false, Bool.and_self]
theorem sdel_killSt_all (r q : Nat) : ∀ (st : Store), (sdel (killSt r st) q).all (fun p => p.2.pure || p.2.cs.all fun t => !t.has r) = true
  | [] => rfl
  | (k, g) :: l => by
    simp only [killSt, sdel]
    cases k == q
    · simp only [cond_false, List.all_cons, sdel_killSt_all r q l, Bool.and_true]
      unfold killG
      cases hp : g.pure
      · simp only [cond_false, Bool.false_or, List.all_eq_true]
        intro t ht
        obtain ⟨t', _, rfl⟩ := List.mem_map.1 ht
        rw [killT_has]; rfl
      · simp only [cond_true, hp, Bool.true_or]
    · exact sdel_killSt_all r q l
theorem fresh_killed (r : Nat) (s : St) (hlt : Nat.blt r 100000 = true) : (⟨killE r s.env, sdel (killSt r s.st) r⟩ : St).fresh r = true := by
  simp only [St.fresh, hlt, sget_sdel_same, Option.isNone_none, killE_all, sdel_killSt_all, Bool.and_self]

/-- What is appended or copied: these cells stand there, m elements. -/
inductive Src (s : St) (k : Nat) : S → List T → Nat → Prop
  | sl {cs : List T} {m : Nat} (h : cs.length = m * k) : Src s k (.one (.sl cs m)) cs m
  | nil : Src s k (.one .nil) [] 0
  | own {r off m : Nat} {ap : Option (Nat × TypeId)} {g : Reg} {ys : List T} (hg : sget s.st r = some g) (hy : ∀ (j : Nat) (t : T), ys[j]? = some t → g.cs[off + j]? = some t) (h : ys.length = m * k) : Src s k (.one (.own r off m ap)) ys m

theorem Src.rel {C : Ctx} {s : St} {β : Nat → Option Nat} {a : Act} {w : World} {k : Nat} {x : S} {ys : List T} {m : Nat} {u : Value} (h : Src s k x ys m) (hk : k ≠ 0) (hR : R C s β a w) (hx : RelS w s.st β (C.I s.st β w) x u) :
    ys.length = m * k ∧ ∃ A cap, u = .slice A m cap ∧ (m = 0 ∨ ∃ b off, A = some ⟨b, off, none⟩ ∧ CellsAt w s.st β (C.I s.st β w) b off ys) := by
  cases h with
  | sl h =>
    refine ⟨h, ?_⟩
    have h1 := hx.t
    cases h1 with
    | sl0 A cap => exact ⟨A, cap, rfl, .inl rfl⟩
    | sl us hI hc hr hn => exact ⟨_, _, rfl, .inr ⟨_, _, rfl, fun j t hj => ⟨_, hc j t hj, (hr j t hj).relT⟩⟩⟩
  | nil =>
    have h1 := hx.t
    cases h1
    exact ⟨by simp, none, 0, rfl, .inl rfl⟩
  | own hg hy h =>
    rename_i r off ap g
    refine ⟨h, ?_⟩
    have h1 := hx.t (by rw [hg]; rfl)
    unfold OwnOK at h1
    cases hb : β r with
    | none => rw [hb] at h1; obtain ⟨rfl, rfl⟩ := h1; exact ⟨none, 0, rfl, .inl rfl⟩
    | some b =>
      rw [hb] at h1
      obtain ⟨A, cap, cur, ety, rfl, hh, hA, hn, _⟩ := h1
      refine ⟨A, cap, rfl, ?_⟩
      by_cases hm : m = 0
      · exact .inl hm
      · refine .inr ⟨b, off, hA (by omega), fun j t hj => ?_⟩
        have h2 := (hR.ok.store r g hg).2
        rw [hb] at h2
        obtain ⟨cur', ety', h3, h4, h5⟩ := h2
        obtain ⟨u, h6, h7⟩ := h5 _ t (hy j t hj)
        exact ⟨u, by rw [cell_row h3]; exact h6, h7⟩

/-- Regions let go. -/
theorem R.drop {C : Ctx} {s : St} {β : Nat → Option Nat} {a : Act} {w : World} (hR : R C s β a w) {st' : Store} (h : ∀ r g, sget st' r = some g → sget s.st r = some g) : R C ⟨s.env, st'⟩ β a w := by
  have hs : ∀ r, (sget st' r).isSome = true → (sget s.st r).isSome = true := by
    intro r hr
    obtain ⟨g, hg⟩ := Option.isSome_iff_exists.1 hr
    rw [h r g hg]; rfl
  have hI : ∀ b, C.I s.st β w b → C.I st' β w b := by
    rintro b (h0 | ⟨h1, h2, h3⟩)
    · exact .inl h0
    · exact .inr ⟨h1, h2, fun r hr => h3 r (hs r hr)⟩
  have hx : Ext (C.I s.st β w) (C.I st' β w) s.st st' β β w w := ⟨hI, fun _ _ => rfl, fun r hr => ⟨hs r hr, rfl⟩, fun r b _ _ cur ety hh => ⟨cur, hh, rfl⟩⟩
  refine hR.turn (N := fun _ => False) ⟨hR.ok.kept, ?_, fun r r' b hr hr' => hR.ok.inj r r' b (hs r hr) (hs r' hr'), fun r b hr => hR.ok.wher r b (hs r hr), fun r b hr => hR.ok.fixd r b (hs r hr)⟩ (hx.toN _) (fun _ hh => hh.elim)
  intro r g hg
  have := hR.ok.store r g (h r g hg)
  refine ⟨this.1, ?_⟩
  have h2 := this.2
  cases hb : β r with
  | none => rw [hb] at h2; exact h2
  | some b =>
    rw [hb] at h2
    obtain ⟨cur, ety, h3, h4, h5⟩ := h2
    refine ⟨cur, ety, h3, h4, fun j t hj => ?_⟩
    obtain ⟨u, h6, h7⟩ := h5 j t hj
    exact ⟨u, h6, RelT.ext hx h7⟩
theorem R.stEq {C : Ctx} {s : St} {β : Nat → Option Nat} {a : Act} {w : World} (hR : R C s β a w) {st' : Store} (h : ∀ q, sget st' q = sget s.st q) : R C ⟨s.env, st'⟩ β a w := by
  have hI : C.I st' β w = C.I s.st β w := by funext b; unfold Ctx.I; simp only [h]
  have hx : Ext (C.I s.st β w) (C.I st' β w) s.st st' β β w w := ⟨fun b hb => by rw [hI]; exact hb, fun _ _ => rfl, fun r hr => ⟨by rw [← h]; exact hr, rfl⟩, fun _ _ _ _ cur ety hh => ⟨cur, hh, rfl⟩⟩
  refine hR.turn (N := fun _ => False) ⟨hR.ok.kept, fun r g hg => ?_, fun r r' b hr hr' => hR.ok.inj r r' b (by rw [← h]; exact hr) (by rw [← h]; exact hr'), fun r b hr => hR.ok.wher r b (by rw [← h]; exact hr), fun r b hr => hR.ok.fixd r b (by rw [← h]; exact hr)⟩ (hx.toN _) (fun _ hh => hh.elim)
  have h1 := hR.ok.store r g (by rw [← h]; exact hg)
  refine ⟨h1.1, ?_⟩
  have h2 := h1.2
  cases hb : β r with
  | none => rw [hb] at h2; exact h2
  | some b =>
    rw [hb] at h2
    obtain ⟨cur, ety, h3, h4, h5⟩ := h2
    exact ⟨cur, ety, h3, h4, fun j t hj => by obtain ⟨u, h6, h7⟩ := h5 j t hj; exact ⟨u, h6, RelT.ext hx h7⟩⟩

theorem kill_ext {C : Ctx} {st : Store} {β : Nat → Option Nat} {w : World} (r : Nat) : Ext (C.I st β w) (C.I (killSt r st) β w) st (killSt r st) β β w w := by
  have hs : ∀ q, (sget (killSt r st) q).isSome = (sget st q).isSome := by intro q; rw [sget_killSt]; cases sget st q <;> rfl
  exact ⟨fun b h => by unfold Ctx.I at *; simpa only [hs] using h, fun _ _ => rfl, fun q h => ⟨by rw [← hs]; exact h, rfl⟩, fun _ _ _ _ cur ety hh => ⟨cur, hh, rfl⟩⟩

/-- A draw turns nothing. -/
theorem R.drew {C : Ctx} {s : St} {β : Nat → Option Nat} {a : Act} {w : World} (hR : R C s β a w) : R C s β a w.drew := by
  have hx : Ext (C.I s.st β w) (C.I s.st β w.drew) s.st s.st β β w w.drew := ⟨fun _ h => h, fun _ _ => rfl, fun _ h => ⟨h, rfl⟩, fun _ _ _ _ cur ety hh => ⟨cur, hh, rfl⟩⟩
  have := hR.turn (st' := s.st) (β' := β) (w' := w.drew) (N := fun _ => False) ⟨⟨hR.ok.kept.os, hR.ok.kept.tape, hR.ok.kept.output, hR.ok.kept.size, hR.ok.kept.block, hR.ok.kept.shape⟩, fun r g hg => ?_, hR.ok.inj, hR.ok.wher, hR.ok.fixd⟩ (hx.toN _) (fun _ hh => hh.elim)
  · exact this
  · have h1 := hR.ok.store r g hg
    refine ⟨h1.1, ?_⟩
    have h2 := h1.2
    cases hb : β r with
    | none => rw [hb] at h2; exact h2
    | some b =>
      rw [hb] at h2
      obtain ⟨cur, ety, h3, h4, h5⟩ := h2
      exact ⟨cur, ety, h3, h4, fun j t hj => by obtain ⟨u, h6, h7⟩ := h5 j t hj; exact ⟨u, h6, RelT.ext hx h7⟩⟩

theorem killG_same {r : Nat} {g : Reg} (h : (g.pure || g.cs.all fun t => !t.has r) = true) : killG r g = g := by
  unfold killG
  cases hp : g.pure with
  | true => rfl
  | false =>
    rw [hp] at h
    simp only [Bool.false_or, List.all_eq_true] at h
    simp only [cond_false]
    have : g.cs.map (killT r) = g.cs := by
      conv => rhs; rw [← List.map_id g.cs]
      apply List.map_congr_left
      intro t ht
      have := h t ht
      unfold killT
      simp only [Bool.not_eq_true'] at this
      rw [this]; rfl
    rw [this, ← hp]

theorem does_app {C : Ctx} {s : St} {d : Option Nat} {t e k bytes r n m : Nat} {x y : Operand} {g : Reg} {ys : List T} {z : S} (hx : s.ev x = .one (.own r 0 n (some (k, e)))) (hg : sget s.st r = some g) (hgl : g.cs.length = n * k) (hgs : (g.pure || g.cs.all fun t => !t.has r) = true)
    (hy : s.ev y = z) (hsrc : Src s k z ys m) (hlive : ys.all (live1 s.st) = true) (hself : ys.all (fun t => !t.has r) = true) (hbytes : (n + m) * bytes ≤ 140737488355328) (hlt : Nat.blt r 100000 = true) :
    Does C (.app t e k bytes x y) d s false (· = (⟨killE r s.env, (r, ⟨g.pure && allPure ys, g.cs ++ ys⟩) :: sdel (killSt r s.st) r⟩ : St).put d (.one (.own r 0 (n + m) (some (k, e))))) := by
  refine does_new fun o ho β a w hR => ?_
  obtain ⟨i, zv, ho, hu, hi, hz, rfl, rfl, hk0, hzk, hby0⟩ := ho
  have hrs : (sget s.st r).isSome = true := by rw [hg]; rfl
  have hown := (hx ▸ hR.ev x).t hrs
  obtain ⟨hyl, A, c, hvy, hcells⟩ := hsrc.rel hk0 hR (hy ▸ hR.ev y)
  have hpos : 0 < i.bytes := by omega
  have hnm : n + m ≤ 140737488355328 := Nat.le_trans (Nat.le_mul_of_pos_right _ hpos) hbytes
  have hRk := hR.kill r
  have hgk : sget (killSt r s.st) r = some g := by rw [sget_killSt, hg]; simp only [Option.map_some]; rw [killG_same hgs]
  have hself' : ∀ t ∈ ys, t.has r = false := fun t ht => by have := List.all_eq_true.1 hself t ht; simpa using this
  have hkill : ∀ t u, t.has r = false → RelT w s.st β (C.I s.st β w) t u → RelT w (killSt r s.st) β (C.I (killSt r s.st) β w) t u := fun t u _ h => RelT.ext (kill_ext r) h
  have hp' : (g.pure && allPure ys) = true → ∀ t ∈ g.cs ++ ys, t.isPure = true ∨ (g.pure = true ∧ t ∈ g.cs) := by
    intro h t ht
    simp only [Bool.and_eq_true] at h
    rcases List.mem_append.1 ht with h1 | h1
    · exact .inr ⟨h.1, h1⟩
    · exact .inl (allPure_mem h.2 t h1)
  -- the cells that are appended, as values
  have hvals : m ≠ 0 → ∃ (ad : Addr) (us : List Value), A = some ad ∧ us.length = m * i.size ∧ (∀ j u, us[j]? = some u → w.cell? (ad.add j) = some u) ∧ (∀ u ∈ us, u.oneCell' = true) ∧ ∀ (j : Nat) (t : T), ys[j]? = some t → ∃ u, us[j]? = some u ∧ RelT w s.st β (C.I s.st β w) t u := by
    intro hm
    rcases hcells with h | ⟨b, off, hA, hc⟩
    · exact absurd h hm
    · have hex : ∀ j : Nat, ∃ u : Value, ∀ t, ys[j]? = some t → w.cell? ⟨b, off + j, none⟩ = some u ∧ RelT w s.st β (C.I s.st β w) t u := by
        intro j
        cases hj : ys[j]? with
        | none => exact ⟨undef, fun t ht => by cases ht⟩
        | some t => obtain ⟨u, h1, h2⟩ := hc j t hj; exact ⟨u, fun t' ht => by injection ht with ht; subst ht; exact ⟨h1, h2⟩⟩
      let f : Nat → Value := fun j => (hex j).choose
      have hf : ∀ j t, ys[j]? = some t → w.cell? ⟨b, off + j, none⟩ = some (f j) ∧ RelT w s.st β (C.I s.st β w) t (f j) := fun j => (hex j).choose_spec
      have hfu : ∀ j u, ((List.range ys.length).map f)[j]? = some u → ∃ t, ys[j]? = some t ∧ u = f j := by
        intro j u hj
        rw [List.getElem?_map] at hj
        obtain ⟨j', hj', rfl⟩ := Option.map_eq_some_iff.1 hj
        have hlt : j < ys.length := by have := (List.getElem?_eq_some_iff.1 hj').1; simpa using this
        rw [List.getElem?_range hlt] at hj'
        injection hj' with hj'; subst hj'
        exact ⟨ys[j], List.getElem?_eq_getElem hlt, rfl⟩
      refine ⟨_, (List.range ys.length).map f, hA, by simp [hyl], fun j u hj => ?_, fun u hu => ?_, fun j t hj => ?_⟩
      · obtain ⟨t, ht, rfl⟩ := hfu j u hj
        rw [addr_add]; exact (hf j t ht).1
      · obtain ⟨j, hj⟩ := List.mem_iff_getElem?.1 hu
        obtain ⟨t, ht, rfl⟩ := hfu j u hj
        exact live_oneCell (List.all_eq_true.1 hlive t (List.mem_of_getElem? ht)) (hf j t ht).2
      · have hlt := (List.getElem?_eq_some_iff.1 hj).1
        exact ⟨f j, by rw [List.getElem?_map, List.getElem?_range hlt]; rfl, (hf j t hj).2⟩
  have hexec : ∀ v w', (Builtin.append_ #[t, t] o.type #[a.eval x, a.eval y]).run C.P w = .ok v w' → (execOp a.eval o).run C.P w = .ok (.value v) w' := by
    intro v w' h
    simp only [execOp, ho, resolve, Sem.run_bind, Sem.run_pure, Result.andThen_ok, invoke, builtin]
    have he : (#[x, y] : Array Operand).map a.eval = #[a.eval x, a.eval y] := by simp
    rw [he, h]
    rfl
  by_cases hm0 : m = 0
  · subst hm0
    obtain rfl : ys = [] := List.eq_nil_of_length_eq_zero (by simpa using hyl)
    have hst : ∀ q, sget ((r, (⟨g.pure && allPure [], g.cs ++ []⟩ : Reg)) :: sdel (killSt r s.st) r) q = sget (killSt r s.st) q := by
      intro q
      by_cases hq : r = q
      · subst hq; rw [sget_cons_same, hgk]; simp [allPure]
      · rw [sget_cons_ne _ _ hq, sget_sdel_ne _ hq]
    refine ⟨a.eval x, w, β, hexec _ _ ?_, hRk.stEq hst, .one fun _ => ?_, fun h => by cases h⟩
    · unfold OwnOK at hown
      cases hb : β r with
      | none =>
        rw [hb] at hown
        obtain ⟨rfl, hvx⟩ := hown
        rw [hvx, hvy]
        simp [Builtin.append_, run_underlying hu, sizeOf, typeInfo, hi, Builtin.lenOf]
        cases A <;> simp [Builtin.firstCells, loadCells, loadCellsFrom]
      | some b =>
        rw [hb] at hown
        obtain ⟨A', cap, cur, ety, hvx, hh, hA', hn, hap⟩ := hown
        obtain ⟨_, hA2, _⟩ := hap _ _ rfl
        subst hA2
        rw [hvx, hvy]
        simp [Builtin.append_, run_underlying hu, sizeOf, typeInfo, hi, Builtin.lenOf, hn]
        cases A <;> simp [Builtin.firstCells, loadCells, loadCellsFrom, storeCells]
    · simp only [Nat.add_zero]; exact hown
  · obtain ⟨ad, us, rfl, hul, hucell, hu1, hurel⟩ := hvals hm0
    have hgrow : ∀ (olds : List Value) (w2 : World), w2 = w.drew → (∀ (j : Nat) (t : T), g.cs[j]? = some t → ∃ u, olds[j]? = some u ∧ RelT w s.st β (C.I s.st β w) t u) → olds.length = n * i.size → ∀ (rest : Array Value) (cap' : Nat), n + m ≤ cap' → cap' ≤ maxLen → (olds.toArray ++ us.toArray ++ rest).size = cap' * i.size →
        ∃ β', R C ⟨killE r s.env, (r, ⟨g.pure && allPure ys, g.cs ++ ys⟩) :: sdel (killSt r s.st) r⟩ β' a (w2.alloc (.cells (olds.toArray ++ us.toArray ++ rest) e)) ∧
          RelS (w2.alloc (.cells (olds.toArray ++ us.toArray ++ rest) e)) ((r, ⟨g.pure && allPure ys, g.cs ++ ys⟩) :: sdel (killSt r s.st) r) β' (C.I ((r, ⟨g.pure && allPure ys, g.cs ++ ys⟩) :: sdel (killSt r s.st) r) β' (w2.alloc (.cells (olds.toArray ++ us.toArray ++ rest) e))) (.one (.own r 0 (n + m) (some (i.size, e)))) (.slice (some ⟨w2.heap.size, 0, none⟩) (n + m) cap') := by
      intro olds w2 hw2 hold hol rest cap' hc1 hc2 hsz
      subst hw2
      have hRd : R C ⟨killE r s.env, sdel (killSt r s.st) r⟩ β a w := hRk.drop (st' := sdel (killSt r s.st) r) (fun q g' hq => by
        by_cases h : r = q
        · subst h; rw [sget_sdel_same] at hq; cases hq
        · rw [sget_sdel_ne _ h] at hq; exact hq)
      have hRd' := hRd.drew
      have hext : ∀ t u, t.has r = false → RelT w s.st β (C.I s.st β w) t u → RelT w.drew (sdel (killSt r s.st) r) β (C.I (sdel (killSt r s.st) r) β w.drew) t u := by
        intro t u ht h
        have h1 := hkill t u ht h
        refine RelT.extN (N := (· = r)) (w := w) (w' := w.drew) ⟨fun b hb => ?_, fun _ _ => rfl, fun q hq hs => ⟨?_, rfl⟩, fun _ _ _ _ _ cur ety hh => ⟨cur, hh, rfl⟩⟩ (fun q hq => by subst hq; exact ht) h1
        · rcases hb with h0 | ⟨h2, h3, h4⟩
          · exact .inl h0
          · refine .inr ⟨h2, h3, fun q hq => h4 q ?_⟩
            by_cases hqr : r = q
            · subst hqr; rw [sget_sdel_same] at hq; cases hq
            · rwa [sget_sdel_ne _ hqr] at hq
        · by_cases hqr : r = q
          · exact absurd hqr.symm hq
          · rwa [sget_sdel_ne _ hqr] at hs
      have hal := hRd'.alloc (fresh_killed r s hlt) (olds.toArray ++ us.toArray ++ rest) e ⟨g.pure && allPure ys, g.cs ++ ys⟩ (by
          rw [hsz]; simp only [List.length_append, hgl, hyl, ← Nat.add_mul]; exact Nat.mul_le_mul_right _ hc1)
        (fun h t ht => by
          rcases hp' h t ht with h1 | ⟨h1, h2⟩
          · exact h1
          · -- a pure region's cells
            exact (hR.ok.store r g hg).1 h1 t h2)
        (fun j t hj => by
          have hcs : g.cs.length = olds.length := by rw [hgl, hol]
          by_cases hjl : j < g.cs.length
          · rw [List.getElem?_append_left hjl] at hj
            obtain ⟨u, h1, h2⟩ := hold j t hj
            refine ⟨u, ?_, hext t u ?_ h2, ?_⟩
            · rw [Array.append_assoc, Array.getElem?_append_left (by simp; omega)]; simpa using h1
            · exact (by
                rcases Bool.or_eq_true _ _ ▸ hgs with h3 | h3
                · exact T.has_pure ((hR.ok.store r g hg).1 h3 t (List.mem_of_getElem? hj)) r
                · have := List.all_eq_true.1 h3 t (List.mem_of_getElem? hj); simpa using this)
            · exact (by
                rcases Bool.or_eq_true _ _ ▸ hgs with h3 | h3
                · exact T.has_pure ((hR.ok.store r g hg).1 h3 t (List.mem_of_getElem? hj)) r
                · have := List.all_eq_true.1 h3 t (List.mem_of_getElem? hj); simpa using this)
          · rw [List.getElem?_append_right (by omega)] at hj
            obtain ⟨u, h1, h2⟩ := hurel _ t hj
            have hlt := (List.getElem?_eq_some_iff.1 h1).1
            refine ⟨u, ?_, hext t u (hself' t (List.mem_of_getElem? hj)) h2, hself' t (List.mem_of_getElem? hj)⟩
            rw [Array.getElem?_append_left (by simp; omega), Array.getElem?_append_right (by simp; omega)]
            simp only [List.size_toArray, ← hcs]
            simpa using h1)
      refine ⟨_, hal, .one fun _ => ?_⟩
      simp only [if_true]
      refine ⟨_, cap', _, e, rfl, heap_alloc_new w.drew _, fun _ => rfl, hc1, fun k' e' he => ?_⟩
      injection he with he
      injection he with h6 h7
      subst h6; subst h7
      exact ⟨rfl, rfl, hsz, hc2, rfl⟩
    have hbig : n + m ≤ maxLen := by simp only [maxLen]; omega
    unfold OwnOK at hown
    cases hb : β r with
    | none =>
      rw [hb] at hown
      obtain ⟨rfl, hvx⟩ := hown
      have hgc : g.cs = [] := List.eq_nil_of_length_eq_zero (by simpa using hgl)
      have hrun := run_append_nil (P := C.P) w t o.type e i zv hu hi hz ad m c us hul hucell (by omega) (by omega) (by simp only [Nat.zero_add] at hbytes; omega)
      obtain ⟨β', h1, h2⟩ := hgrow [] w.drew rfl (fun j t hj => by rw [hgc] at hj; simp at hj) (by simp) (Builtin.zeroCells zv.cells (grownCap w m 0 e - m)) (grownCap w m 0 e) (by simp only [Nat.zero_add]; exact grownCap_ge w m 0 e) (grownCap_le_maxLen w m 0 e (by simp only [Nat.zero_add] at hbig; exact hbig))
        (by
          have h3 := grownCap_ge w m 0 e
          simp only [Array.size_append, List.size_toArray, List.length_nil, size_zeroCells, hzk, hul, ← Nat.add_mul, Nat.zero_add]
          congr 1; omega)
      have he0 : ([] : List Value).toArray = #[] := rfl
      simp only [he0, Array.empty_append] at h1 h2
      refine ⟨_, _, β', hexec _ _ ?_, h1, h2, fun h => by cases h⟩
      rw [hvx, hvy, hrun]
      simp
    | some b =>
      rw [hb] at hown
      obtain ⟨A', cap, cur, ety, hvx, hh, _, hn, hap⟩ := hown
      obtain ⟨_, hA2, hcs, hcm, rfl⟩ := hap _ _ rfl
      subst hA2
      obtain ⟨_, h2⟩ := hR.ok.store r g hg
      rw [hb] at h2
      obtain ⟨cur', ety', h3, hgl', h5⟩ := h2
      rw [hh] at h3; injection h3 with h3; injection h3 with h3 _; subst h3
      have hold : ∀ (j : Nat) (t : T), g.cs[j]? = some t → ∃ u, (cur.toList.take (n * i.size))[j]? = some u ∧ RelT w s.st β (C.I s.st β w) t u := by
        intro j t hj
        have hjl := (List.getElem?_eq_some_iff.1 hj).1
        obtain ⟨u, h6, h7⟩ := h5 j t hj
        exact ⟨u, by rw [List.getElem?_take_of_lt (by omega)]; simpa using h6, h7⟩
      have hnc : n * i.size ≤ cur.size := by rw [hcs]; exact Nat.mul_le_mul_right _ hn
      by_cases hroom : n + m ≤ cap
      · have hfit : n * i.size + us.length ≤ cur.size := by rw [hul, hcs, ← Nat.add_mul]; exact Nat.mul_le_mul_right _ hroom
        have hrun := run_append_room (P := C.P) w t o.type ety i hu hi b n cap cur hh ad m c us hul hucell hu1 hroom hfit
        have hwr := hRk.write hgk hb (cur.toList.take (n * i.size) ++ us ++ cur.toList.drop (n * i.size + us.length)).toArray ⟨g.pure && allPure ys, g.cs ++ ys⟩
          (by simp [hgl, hyl, hul]; omega) (fun c' e' hc' => by rw [hh] at hc'; injection hc' with hc'; injection hc' with hc' _; subst hc'; simp; omega) hp'
          (fun j t hj => by
            rw [List.getElem?_toArray, splice_get _ _ _ (by simpa using hfit)]
            by_cases hj1 : j < n * i.size
            · rw [if_pos hj1]
              rw [List.getElem?_append_left (by rw [hgl]; exact hj1)] at hj
              obtain ⟨u, h6, h7⟩ := h5 j t hj
              refine ⟨u, by simpa using h6, hkill t u ?_ h7⟩
              rcases Bool.or_eq_true _ _ ▸ hgs with h8 | h8
              · exact T.has_pure ((hR.ok.store r g hg).1 h8 t (List.mem_of_getElem? hj)) r
              · have := List.all_eq_true.1 h8 t (List.mem_of_getElem? hj); simpa using this
            · rw [if_neg hj1]
              rw [List.getElem?_append_right (by omega), hgl] at hj
              obtain ⟨u, h6, h7⟩ := hurel _ t hj
              have hlt := (List.getElem?_eq_some_iff.1 h6).1
              rw [if_pos (by omega)]
              exact ⟨u, h6, hkill t u (hself' t (List.mem_of_getElem? hj)) h7⟩)
        have hst : ∀ q, sget ((r, (⟨g.pure && allPure ys, g.cs ++ ys⟩ : Reg)) :: sdel (killSt r s.st) r) q = sget (sset (killSt r s.st) r ⟨g.pure && allPure ys, g.cs ++ ys⟩) q := by
          intro q
          by_cases hq : r = q
          · subst hq; rw [sget_cons_same, sget_sset_same _ _ _ (by rw [hgk]; rfl)]
          · rw [sget_cons_ne _ _ hq, sget_sdel_ne _ hq, sget_sset_ne _ _ hq]
        refine ⟨_, _, β, hexec _ _ (by rw [hvx, hvy]; exact hrun), hwr.stEq hst, .one fun _ => ?_, fun h => by cases h⟩
        rw [hb]
        refine ⟨_, cap, _, ety, rfl, setRow_heap w b cur _ ety _ hh, fun _ => rfl, hroom, fun k' e' he => ?_⟩
        injection he with he
        injection he with h6 h7
        subst h6; subst h7
        refine ⟨rfl, rfl, ?_, hcm, rfl⟩
        simp only [List.size_toArray, List.length_append, List.length_take, List.length_drop, Array.length_toList]
        omega
      · have holds : ∀ j u, (cur.toList.take (n * i.size))[j]? = some u → w.cell? ((⟨b, 0, none⟩ : Addr).add j) = some u := by
          intro j u hj
          rw [addr_add, Nat.zero_add, cell_row hh]
          have hjl : j < n * i.size := by have := (List.getElem?_eq_some_iff.1 hj).1; simp at this; omega
          rw [List.getElem?_take_of_lt hjl] at hj
          simpa using hj
        have hrun := run_append_grow (P := C.P) w t o.type ety i zv hu hi hz ⟨b, 0, none⟩ n cap (cur.toList.take (n * i.size)) (by simp; omega) holds ad m c us hul hucell (by omega) (by omega) (growslice_fits (by omega) hbytes)
        obtain ⟨β', h1, h2⟩ := hgrow (cur.toList.take (n * i.size)) w.drew rfl hold (by simp; omega) (Builtin.zeroCells zv.cells (grownCap w (n + m) cap ety - (n + m))) (grownCap w (n + m) cap ety) (grownCap_ge ..) (grownCap_le_maxLen _ _ _ _ hbig)
          (by
            have h3 := grownCap_ge w (n + m) cap ety
            have h4 : (cur.toList.take (n * i.size)).length = n * i.size := by simp; omega
            simp only [Array.size_append, List.size_toArray, h4, size_zeroCells, hzk, hul, ← Nat.add_mul]
            congr 1; omega)
        refine ⟨_, _, β', hexec _ _ ?_, h1, h2, fun h => by cases h⟩
        rw [hvx, hvy, hrun]
        simp
end Go.V
