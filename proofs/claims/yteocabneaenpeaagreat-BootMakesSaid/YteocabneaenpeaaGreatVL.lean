/- The V-layer, part L: copy, calls that read what is owned, slices read as arrays, strings' bytes. No premises. -/
import Derived.Test.YteocabneaenpeaaGreatVK
import Derived.Laws.IdiomCopy
set_option linter.unusedVariables false
set_option linter.unusedSimpArgs false
namespace Go.V
open Go.RowKit

/-- The values of cells that stand somewhere. -/
theorem CellsAt.vals {w : World} {st : Store} {β : Nat → Option Nat} {I : Nat → Prop} {b off : Nat} {ys : List T} (h : CellsAt w st β I b off ys) (hlive : ys.all (live1 st) = true) :
    ∃ us : List Value, us.length = ys.length ∧ (∀ j u, us[j]? = some u → w.cell? ⟨b, off + j, none⟩ = some u) ∧ (∀ u ∈ us, u.oneCell' = true) ∧ ∀ (j : Nat) (t : T), ys[j]? = some t → ∃ u, us[j]? = some u ∧ RelT w st β I t u := by
  have hex : ∀ j : Nat, ∃ u : Value, ∀ t, ys[j]? = some t → w.cell? ⟨b, off + j, none⟩ = some u ∧ RelT w st β I t u := by
    intro j
    cases hj : ys[j]? with
    | none => exact ⟨undef, fun t ht => by cases ht⟩
    | some t => obtain ⟨u, h1, h2⟩ := h j t hj; exact ⟨u, fun t' ht => by injection ht with ht; subst ht; exact ⟨h1, h2⟩⟩
  let f : Nat → Value := fun j => (hex j).choose
  have hf : ∀ j t, ys[j]? = some t → w.cell? ⟨b, off + j, none⟩ = some (f j) ∧ RelT w st β I t (f j) := fun j => (hex j).choose_spec
  have hfu : ∀ j u, ((List.range ys.length).map f)[j]? = some u → ∃ t, ys[j]? = some t ∧ u = f j := by
    intro j u hj
    rw [List.getElem?_map] at hj
    obtain ⟨j', hj', rfl⟩ := Option.map_eq_some_iff.1 hj
    have hlt : j < ys.length := by have := (List.getElem?_eq_some_iff.1 hj').1; simpa using this
    rw [List.getElem?_range hlt] at hj'
    injection hj' with hj'; subst hj'
    exact ⟨ys[j], List.getElem?_eq_getElem hlt, rfl⟩
  refine ⟨(List.range ys.length).map f, by simp, fun j u hj => ?_, fun u hu => ?_, fun j t hj => ?_⟩
  · obtain ⟨t, ht, rfl⟩ := hfu j u hj; exact (hf j t ht).1
  · obtain ⟨j, hj⟩ := List.mem_iff_getElem?.1 hu
    obtain ⟨t, ht, rfl⟩ := hfu j u hj
    exact live_oneCell (List.all_eq_true.1 hlive t (List.mem_of_getElem? ht)) (hf j t ht).2
  · have hlt := (List.getElem?_eq_some_iff.1 hj).1
    exact ⟨f j, by rw [List.getElem?_map, List.getElem?_range hlt]; rfl, (hf j t hj).2⟩

theorem splice_nil (l : List T) (off : Nat) : splice l off [] = l := by simp [splice]

theorem does_copy {C : Ctx} {s : St} {d : Option Nat} {x y : Operand} {r off n m : Nat} {ap : Option (Nat × TypeId)} {g : Reg} {z : S} {ys : List T} (hx : s.ev x = .one (.own r off n ap)) (hg : sget s.st r = some g)
    (hy : s.ev y = z) (hsrc : Src s 1 z ys m) (hlive : ys.all (live1 s.st) = true) (hfit : off + min m n ≤ g.cs.length) :
    Does C (.copy 1 x y) d s false (· = (⟨s.env, sset s.st r ⟨g.pure && allPure (ys.take (min m n)), splice g.cs off (ys.take (min m n))⟩⟩ : St).put d (.one (.v (.int .i64 (min m n : Nat))))) := by
  refine does_new fun o ho β a w hR => ?_
  obtain ⟨t, e, ho, hu, hk⟩ := ho
  have hrs : (sget s.st r).isSome = true := by rw [hg]; rfl
  have hown := (hx ▸ hR.ev x).t hrs
  obtain ⟨hyl, A, c, hvy, hcells⟩ := hsrc.rel (by omega) hR (hy ▸ hR.ev y)
  simp only [Nat.mul_one] at hyl
  have hk' : (C.P.info? e).map (·.size) = some 1 := hk
  have hexec : ∀ v w', (Builtin.copy_ #[t, t] o.type #[a.eval x, a.eval y]).run C.P w = .ok v w' → (execOp a.eval o).run C.P w = .ok (.value v) w' := by
    intro v w' h
    simp only [execOp, ho, resolve, Sem.run_bind, Sem.run_pure, Result.andThen_ok, invoke, builtin]
    have he : (#[x, y] : Array Operand).map a.eval = #[a.eval x, a.eval y] := by simp
    rw [he, h]
    rfl
  have hvx : ∃ A' cap, a.eval x = .slice A' n cap ∧ (0 < n → ∃ b, β r = some b ∧ A' = some ⟨b, off, none⟩) := by
    unfold OwnOK at hown
    cases hb : β r with
    | none => rw [hb] at hown; obtain ⟨rfl, h⟩ := hown; exact ⟨_, _, h, fun h => by omega⟩
    | some b => rw [hb] at hown; obtain ⟨A', cap, cur, ety, h, _, hA, _⟩ := hown; exact ⟨A', cap, h, fun hn => ⟨b, rfl, hA hn⟩⟩
  obtain ⟨A', cap, hvx, hpos⟩ := hvx
  by_cases h0 : min m n = 0
  · refine ⟨.int .i64 (min m n : Nat), w, β, hexec _ _ ?_, hR.stEq (st' := sset s.st r _) (fun q => ?_), .one (.v rfl), fun h => by cases h⟩
    · rw [hvx, hvy, h0]
      exact run_copy_none (P := C.P) w t t o.type e A' A n cap m c hu hk' h0
    · rw [h0]
      simp only [List.take_zero, splice_nil, allPure, Bool.and_true]
      by_cases h : r = q
      · subst h; rw [sget_sset_same _ _ _ hrs, hg]
      · rw [sget_sset_ne _ _ h]
  · obtain ⟨b, hb, rfl⟩ := hpos (by omega)
    rcases hcells with hm | ⟨b2, off2, rfl, hc⟩
    · omega
    · have hc' : CellsAt w s.st β (C.I s.st β w) b2 off2 (ys.take (min m n)) := fun j t hj => hc j t (by
        have hlt : j < min m n := by have := (List.getElem?_eq_some_iff.1 hj).1; simp at this; omega
        rw [List.getElem?_take_of_lt hlt] at hj; exact hj)
      obtain ⟨us, hul, hucell, hu1, hurel⟩ := hc'.vals (List.all_eq_true.2 fun t ht => List.all_eq_true.1 hlive t (List.mem_of_mem_take ht))
      have hul' : us.length = min m n := by rw [hul]; simp; omega
      obtain ⟨cur, ety, hh, hlen, hcur⟩ : ∃ cur ety, w.heap[b]? = some (.cells cur ety (0, 0)) ∧ g.cs.length ≤ cur.size ∧ ∀ (j : Nat) (t : T), g.cs[j]? = some t → ∃ u, cur[j]? = some u ∧ RelT w s.st β (C.I s.st β w) t u := by
        have := (hR.ok.store r g hg).2
        rw [hb] at this
        exact this
      have hrun := run_copy_row (P := C.P) w t t o.type e b off n cap ⟨b2, off2, none⟩ m c cur ety us hu hk' hh hul' (fun j v hj => by rw [addr_add]; exact hucell j v hj) (by rw [hul']; omega) hu1
      have hyl2 : (ys.take (min m n)).length = us.length := by rw [hul]
      have hR' := hR.write hg hb (cur.toList.take off ++ us ++ cur.toList.drop (off + us.length)).toArray ⟨g.pure && allPure (ys.take (min m n)), splice g.cs off (ys.take (min m n))⟩
        (by simp [splice]; omega) (fun c e hc => by rw [hh] at hc; injection hc with hc; injection hc with hc; subst hc; simp; omega)
        (fun hp t ht => by
          simp only [Bool.and_eq_true] at hp
          simp only [splice, List.mem_append] at ht
          rcases ht with (ht | ht) | ht
          · exact .inr ⟨hp.1, List.mem_of_mem_take ht⟩
          · exact .inl (allPure_mem hp.2 t ht)
          · exact .inr ⟨hp.1, List.mem_of_mem_drop ht⟩)
        (fun j t hj => by
          simp only [splice] at hj
          rw [splice_get _ _ _ (by omega)] at hj
          rw [List.getElem?_toArray, splice_get _ _ _ (by simp; omega)]
          by_cases ha : j < off
          · rw [if_pos ha] at hj ⊢
            obtain ⟨u, h3, h4⟩ := hcur j t hj
            exact ⟨u, by simpa using h3, h4⟩
          · rw [if_neg ha] at hj ⊢
            rw [← hyl2]
            by_cases hb2 : j < off + (ys.take (min m n)).length
            · rw [if_pos hb2] at hj ⊢
              exact hurel _ t hj
            · rw [if_neg hb2] at hj ⊢
              obtain ⟨u, h3, h4⟩ := hcur j t hj
              exact ⟨u, by simpa using h3, h4⟩)
      refine ⟨.int .i64 (min m n : Nat), _, β, hexec _ _ ?_, hR', .one (.v rfl), fun h => by cases h⟩
      rw [hvx, hvy, hrun, hul']
      rfl
/-- Words copied into words. -/
def cpy {α : Type} (l : List α) (a : Nat) (n : Nat) (l2 : List α) : List α := l.take a ++ l2.take (min (min l2.length n) (l.length - a)) ++ l.drop (a + min (min l2.length n) (l.length - a))
theorem cpy_length {α : Type} (l : List α) (a : Nat) (n : Nat) (l2 : List α) : (cpy l a n l2).length = l.length := by
  simp only [cpy, List.length_append, List.length_take, List.length_drop]
  omega
theorem cpy_eq {α : Type} (l : List α) (a : Nat) (n : Nat) (l2 : List α) (h : a + min l2.length n ≤ l.length) : cpy l a n l2 = l.take a ++ l2.take (min l2.length n) ++ l.drop (a + min l2.length n) := by
  have : min (min l2.length n) (l.length - a) = min l2.length n := by omega
  simp only [cpy, this]
theorem does_copyF {C : Ctx} {s : St} {d : Option Nat} {α : Type} {e : α → List T} {x y : Operand} {r off n : Nat} {ap : Option (Nat × TypeId)} {l l2 : List α} {z : S} (hx : s.ev x = .one (.own r off n ap)) (hg : sget s.st r = some ⟨true, flat e l⟩) (hk : ∀ x, (e x).length = 1) (he : ∀ x, allPure (e x) = true)
    (hy : s.ev y = z) (hsrc : Src s 1 z (flat e l2) l2.length) (hfit : off + min l2.length n ≤ l.length) :
    Does C (.copy 1 x y) d s false (· = (⟨s.env, sset s.st r ⟨true, flat e (cpy l off n l2)⟩⟩ : St).put d (.one (.v (.int .i64 (min l2.length n : Nat))))) := by
  refine (does_copy hx hg hy hsrc (pure_live (flat_pure he _) _) (by simp only [flat_len hk, Nat.mul_one]; exact hfit)).cast ?_
  have h1 := flat_take hk (min l2.length n) l2
  simp only [Nat.mul_one] at h1
  have h2 := flat_take hk off l
  have h3 := flat_drop hk (off + min l2.length n) l
  simp only [Nat.mul_one] at h2 h3
  have hle : (flat e (l2.take (min l2.length n))).length = min l2.length n := by rw [flat_len hk]; simp
  simp only [h1, flat_pure he, Bool.and_true, splice, hle, h2, h3, cpy_eq _ _ _ _ hfit, flat_append]

/-! ### Calls that read what is owned -/
def brwT (st : Store) : T → T
  | .own r off n ap => match sget st r with
    | some g => bif g.pure then frzO g.cs off n ap else .dead
    | none => .dead
  | .ptr _ _ => .dead
  | .psl _ _ => .dead
  | .nil => .sl [] 0
  | t => t
/-- Hangs nothing on memory? -/
def T.flatB : T → Bool
  | .v _ => true
  | .nil => true
  | _ => false
def S.flatB : S → Bool
  | .one t => t.flatB
  | .agg ts => ts.all T.flatB
  | .tup l => flatL l
where flatL : List S → Bool
  | [] => true
  | s :: l => S.flatB s && flatL l
theorem S.flatL_get {l : List S} (h : S.flatB.flatL l = true) {i : Nat} {s : S} (hi : l[i]? = some s) : s.flatB = true := by
  induction l generalizing i with
  | nil => simp at hi
  | cons x l ih =>
    simp only [S.flatB.flatL, Bool.and_eq_true] at h
    cases i with
    | zero => simp at hi; subst hi; exact h.1
    | succ i => exact ih h.2 (by simpa using hi)
theorem RelS.flatB {w w' : World} {st st' : Store} {β β' : Nat → Option Nat} {I I' : Nat → Prop} {x : S} {u : Value} (h : RelS w st β I x u) (hp : x.flatB = true) : RelS w' st' β' I' x u := by
  have ht : ∀ (t : T) (u : Value), RelT w st β I t u → t.flatB = true → RelT w' st' β' I' t u := by
    intro t u h hp
    cases t <;> first | cases hp | skip
    · cases h with | v h => exact .v h
    · cases h; exact .nil
  induction h with
  | one h => exact .one (ht _ _ h hp)
  | agg hs h => exact .agg hs fun i t u h1 h2 => ht t u (h i t u h1 h2) (List.all_eq_true.1 hp t (List.mem_of_getElem? h1))
  | tup hs h ih => exact .tup hs fun i s u h1 h2 => ih i s u h1 h2 (S.flatL_get hp h1)

theorem does_callB {C : Ctx} {s : St} {d : Option Nat} {P : Program} {f : FuncId} {xs : List Operand} {ps : List S} {X : S} (hP : C.P = P) (hAC : PC P f ps X) (hx : xs.map (fun x => mapS (brwT s.st) (s.ev x)) = ps) (hX : X.flatB = true) :
    Does C (.call f xs) d s true (· = s.put d X) := by
  subst hP
  intro o ho hd hn β a w hR next R' hK
  obtain ⟨args, ats, ho, rfl, hc⟩ := ho
  unfold Oper.wp
  rw [run_call ho hc, Oper.upon_enter]
  have h0 : ∀ b, b < w.heap.size → b < w.heap.size ∧ ¬ False := fun b hb => ⟨hb, fun h => h⟩
  refine (hAC w (fun _ => False) (fun b => b < w.heap.size) h0 (fun _ => none) (fun _ _ => rfl) (fun _ => none) (args.map a.eval) ⟨Kept.refl _ _, fun r g h => (by cases h), fun r r' b h => (by cases h), fun r b h => (by cases h), fun r b h => (by cases h)⟩ ?_ ?_).mono ?_
  · subst hx; simp
  · intro i x v h1 h2
    subst hx
    rw [List.getElem?_map] at h1
    obtain ⟨y, hy, rfl⟩ := Option.map_eq_some_iff.1 h1
    have hv : v = a.eval y := by
      rw [Array.getElem?_map] at h2
      have hy' : args[i]? = some y := by simpa using hy
      rw [hy'] at h2
      simpa using h2.symm
    subst hv
    have hI : ∀ b, C.I s.st β w b → b < w.heap.size := fun b hb => C.I_lt hR.ok.kept hb
    refine RelS.map (f := brwT s.st) ?_ (hR.ev y)
    intro t u h
    have hII : ∀ b, C.I s.st β w b → Ctx.I ⟨C.P, 0, fun _ => False, w, fun b => b < w.heap.size, h0, fun _ => none, fun _ _ => rfl⟩ [] (fun _ => none) w b := fun b hb => .inl (hI b hb)
    cases t with
    | v x => exact Rep.mono (fun _ _ => rfl) hII h
    | nil => cases h; exact .sl0 _ _
    | sl cs n => exact Rep.mono (fun _ _ => rfl) hII h
    | dead => trivial
    | ptr q off => trivial
    | psl cs off => trivial
    | own q off n ap =>
      simp only [brwT]
      cases hq : sget s.st q with
      | none => trivial
      | some g =>
        simp only
        cases hp : g.pure with
        | false => trivial
        | true =>
          simp only [cond_true]
          exact (own_rep (by rw [hq]; rfl) (hR.ok.store q g hq) hp hII (fun b hb => .inl (hR.ok.lt (by rw [hq]; rfl) hb)) h).relT
  · rintro e w' ⟨v, x, st', β', rfl, hok, hrel, rfl, rfl⟩
    have hk : Kept (fun _ => False) w w' := hok.kept
    obtain ⟨hR', hx'⟩ := hR.later hk
    refine hK (s.put d x) β (a.put o.dst v) w' rfl ?_ (fun _ => hk)
    rw [hd]
    exact hR'.putAny (RelS.flatB hrel hX) hn
attribute [simp] brwT
def nilT : T → T
  | .nil => .sl [] 0
  | t => t
attribute [simp] nilT
theorem Src.part {s : St} {α : Type} {e : α → List T} {k r off m : Nat} {ap : Option (Nat × TypeId)} {g : Reg} (l2 : List α) (hg : sget s.st r = some g) (hk : ∀ x, (e x).length = k) (h : (g.cs.drop off).take (m * k) = flat e l2) (hm : m = l2.length) : Src s k (.one (.own r off m ap)) (flat e l2) m := by
  subst hm
  exact .own hg (fun j t hj => by rw [← h] at hj; exact take_drop_get _ _ _ j t hj) (flat_len hk _)
theorem take_lit {α : Type} [Inhabited α] {e : α → List T} (hk : ∀ x, (e x).length = 1) : ∀ (n : Nat) (l : List α), n ≤ l.length → (flat e l).take n = (List.range n).flatMap (fun i : Nat => e (nth l (i : Int))) := by
  intro n
  induction n with
  | zero => intro l _; simp
  | succ n ih =>
    intro l h
    have h1 := ih l (by omega)
    have hlt : n < l.length := by omega
    have h2 := flat_get hk l n l[n] (List.getElem?_eq_getElem hlt) 0 (by omega)
    simp only [Nat.mul_one, Nat.add_zero] at h2
    have h3 : nth l (n : Int) = l[n] := by unfold nth; rw [List.getD_eq_getElem?_getD]; simp [hlt]
    rw [List.range_succ, List.flatMap_append, ← h1, List.take_add_one, h2]
    simp only [List.flatMap_cons, List.flatMap_nil, List.append_nil, h3]
    congr 1
    obtain ⟨t, ht⟩ : ∃ t, e l[n] = [t] := by
      have := hk l[n]
      match h : e l[n], this with
      | [t], _ => exact ⟨t, rfl⟩
    rw [ht]; rfl
/-- A list's first cells, copied into a part of a box. -/
theorem does_copyL {C : Ctx} {s : St} {d : Option Nat} {α : Type} [Inhabited α] {e : α → List T} {x y : Operand} {r off n : Nat} {ap : Option (Nat × TypeId)} {g : Reg} {l2 : List α} {z : S} {lit : List T} (hx : s.ev x = .one (.own r off n ap)) (hg : sget s.st r = some g) (hk : ∀ x, (e x).length = 1) (he : ∀ x, allPure (e x) = true)
    (hy : s.ev y = z) (hsrc : Src s 1 z (flat e l2) l2.length) (hfit : off + n ≤ g.cs.length) (hn : n ≤ l2.length) (hlit : (List.range n).flatMap (fun i : Nat => e (nth l2 (i : Int))) = lit) :
    Does C (.copy 1 x y) d s false (· = (⟨s.env, sset s.st r ⟨g.pure, splice g.cs off lit⟩⟩ : St).put d (.one (.v (.int .i64 (n : Nat))))) := by
  have hm : min l2.length n = n := by omega
  refine (does_copy hx hg hy hsrc (pure_live (flat_pure he _) _) (by rw [hm]; exact hfit)).cast ?_
  have h1 := take_lit hk n l2 hn
  have h2 := flat_take hk n l2
  simp only [Nat.mul_one] at h2
  rw [hm, h1, hlit]
  have : allPure lit = true := by rw [← hlit, ← h1, h2]; exact flat_pure he _
  simp only [this, Bool.and_true]
/-- An owned slice's length, told otherwise. -/
theorem Le_ownlen {s : St} {i r off n : Nat} {ap : Option (Nat × TypeId)} (n' : Nat) (h : eget s.env i = .one (.own r off n ap)) (he : n = n') : Le s ⟨(i, .one (.own r off n' ap)) :: s.env, s.st⟩ :=
  Le_put fun w β I u hu => by rw [h] at hu; subst he; exact hu

section
variable {C : Ctx} {Q : Exit → St → Prop} {s : St}
/-- Ways that come together. -/
theorem E_seqJ {a b : VCode} {α : Type} (f : α → St) (G : α → Prop) (hrest : ∀ i, G i → EV C b Q (f i)) (ha : EV C a (QThen (fun s => ∃ i, G i ∧ LeB s (f i)) Q) s) : EV C (.seq a b) Q s := by
  refine E_seq (E_mono ha ?_)
  intro e s' h
  cases e with
  | normal =>
    obtain ⟨i, hG, hle⟩ := h
    exact E_ghost hle (hrest i hG)
  | _ => exact h
theorem E_loopB {x : VCode} {α : Type} (f : α → St) (J : Nat → α → Prop) (n0 : Nat) (a0 : α) (h0 : J n0 a0) (hle : LeB s (f a0))
    (round : ∀ n i, J n i → EV C x (QThen (fun s' => ∃ m j, m < n ∧ J m j ∧ LeB s' (f j)) Q) (f i)) : EV C (.loop x) Q s := by
  refine E_ghost hle ?_
  intro c hc
  obtain ⟨cb, rfl, hb⟩ := cspec_of hc
  intro β a w hR
  refine wp_loop_ghost (fun n a w => ∃ i β, J n i ∧ R C (f i) β a w) n0 ⟨a0, β, h0, hR⟩ ?_
  rintro n a w ⟨i, β, hJ, hR⟩
  refine wp_mono (round n i hJ cb hb β a w hR) ?_
  rintro e a' w' ⟨s', β', hR', hq⟩
  cases e with
  | normal =>
    obtain ⟨m, j, hlt, hj, hle'⟩ := hq
    obtain ⟨β2, h2⟩ := hle' C β' a' w' hR'
    exact ⟨m, hlt, j, β2, hj, h2⟩
  | _ => exact ⟨s', β', hR', hq⟩
end
section
variable {C : Ctx} {s : St} {K : St → Prop} {l : List VOp} {d : Option Nat}
/-- A guard that itself hangs on one. -/
theorem W_lazy2 {i : VI} {gd : Nat} {want b c k : Bool} {x : S} (hg : eget s.env gd = bif c then .one (.v (.bool b)) else .tup []) (h1 : c = true → b = want → Does C i d s k (· = s.put d x)) (h2 : WL C l (s.put d (bif (c && (b == want)) then x else .tup [])) K) : WL C (⟨i, d, some (some gd, want)⟩ :: l) s K := by
  cases c with
  | true => exact W_lazyD (by rw [hg]; rfl) (h1 rfl) (by simpa using h2)
  | false => exact W_un (by rw [hg]; rfl) (by simpa using h2)
end
section
variable {s : St}
/-- nil, in a slot's value, read as an empty slice. -/
theorem Le_nilS {i : Nat} {x : S} (h : eget s.env i = x) : Le s ⟨(i, mapS nilT x) :: s.env, s.st⟩ :=
  Le_put fun w β I u hu => by
    rw [h] at hu
    exact RelS.map (fun t u h => by cases t <;> first | exact h | (cases h; exact .sl0 _ _)) hu
theorem LeB_nilownB {q j r : Nat} {g : Reg} (k e : Nat) (hg : sget s.st q = some g) (hj : g.cs[j]? = some .nil) (hf : s.fresh r = true) (hp : g.cs.all (fun t => !t.has r) = true) :
    LeB s ⟨s.env, (r, ⟨true, []⟩) :: sset s.st q ⟨false, g.cs.set j (.own r 0 0 (some (k, e)))⟩⟩ :=
  LeB_nilownC k e hg hj hf fun t ht => by have := List.all_eq_true.1 hp t ht; simpa using this
/-- nil, in a region's cells, read as an empty slice. -/
theorem Le_nilR {q : Nat} {g : Reg} (hg : sget s.st q = some g) : Le s ⟨s.env, sset s.st q ⟨g.pure, g.cs.map nilT⟩⟩ := by
  intro C β a w hR
  have hs : ∀ x, (sget (sset s.st q ⟨g.pure, g.cs.map nilT⟩) x).isSome = (sget s.st x).isSome := fun x => sget_sset_isSome ..
  have hI : C.I (sset s.st q ⟨g.pure, g.cs.map nilT⟩) β w = C.I s.st β w := by funext b; unfold Ctx.I; simp only [hs]
  have hx : Ext (C.I s.st β w) (C.I (sset s.st q ⟨g.pure, g.cs.map nilT⟩) β w) s.st (sset s.st q ⟨g.pure, g.cs.map nilT⟩) β β w w :=
    ⟨fun b hb => by rw [hI]; exact hb, fun _ _ => rfl, fun x hx => ⟨by rw [← hs]; exact hx, rfl⟩, fun _ _ _ _ cur ety hh => ⟨cur, hh, rfl⟩⟩
  refine ⟨⟨hR.ok.kept, fun x g' hgx => ?_, fun x x' b h h' => hR.ok.inj x x' b (by rw [← hs]; exact h) (by rw [← hs]; exact h'), fun x b h => hR.ok.wher x b (by rw [← hs]; exact h), fun x b h => hR.ok.fixd x b (by rw [← hs]; exact h)⟩, hR.defers, hR.size, fun i => RelS.ext hx (hR.env i)⟩
  by_cases hxq : q = x
  · subst hxq
    rw [sget_sset_same _ _ _ (by rw [hg]; rfl)] at hgx
    injection hgx with hgx
    subst hgx
    have h2 := hR.ok.store q g hg
    refine ⟨fun hp t ht => ?_, ?_⟩
    · obtain ⟨t', h3, rfl⟩ := List.mem_map.1 ht
      have := h2.1 hp t' h3
      cases t' <;> first | exact this | rfl
    · have h3 := h2.2
      cases hb : β q with
      | none => rw [hb] at h3; simp only at h3 ⊢; rw [h3]; rfl
      | some b =>
        rw [hb] at h3
        obtain ⟨cur, ety, h4, h5, h6⟩ := h3
        refine ⟨cur, ety, h4, by simpa using h5, fun j t hj => ?_⟩
        simp only [List.getElem?_map] at hj
        obtain ⟨t', h8, rfl⟩ := Option.map_eq_some_iff.1 hj
        obtain ⟨u, h7, h9⟩ := h6 j t' h8
        refine ⟨u, h7, ?_⟩
        have h10 := RelT.ext hx h9
        cases t' <;> first | exact h10 | (cases h10; exact .sl0 _ _)
  · rw [sget_sset_ne _ _ hxq] at hgx
    have h2 := hR.ok.store x g' hgx
    refine ⟨h2.1, ?_⟩
    have h3 := h2.2
    cases hb : β x with
    | none => rw [hb] at h3; exact h3
    | some b =>
      rw [hb] at h3
      obtain ⟨cur, ety, h4, h5, h6⟩ := h3
      exact ⟨cur, ety, h4, h5, fun j t hj => by obtain ⟨u, h7, h8⟩ := h6 j t hj; exact ⟨u, h7, RelT.ext hx h8⟩⟩
end
section
variable {C : Ctx} {l : List DOp} {qs : List Nat} {z : Bool} {done : List Bool} {s : St} {K : St → Prop}
theorem guard2 {b c want : Bool} {gd : Nat} (hg : eget s.env gd = bif c then .one (.v (.bool b)) else .tup []) {ops : Array Oper} {o : Oper} (hgd : guardOf ops o = some (some gd, want)) {β : Nat → Option Nat} {a : Act} {w : World} (hR : R C s β a w) :
    Region.wanted o (yielded ops a.tmps) = (c && (b == want)) := by
  obtain ⟨j, hj, hw⟩ := guard_some hgd (yielded ops a.tmps)
  cases c with
  | true => rw [hw, yielded_of hR hj (by rw [hg]; rfl)]; simp
  | false => rw [hw, yielded_undef hR hj (by rw [hg]; rfl)]; rfl
theorem XQ_lazy2 (i : Nat) {vi : VI} {d : Option Nat} {gd : Nat} {want b c : Bool} {ws : List Nat} {x : S} (hv : l[i]? = some (⟨vi, d, some (some gd, want)⟩, ws)) (hq : qs.contains i = true) (hr : readyB l done i = true)
    (hg : eget s.env gd = bif c then .one (.v (.bool b)) else .tup []) (hx : c = true → b = want → Quiet C vi s x) (h : XW C l qs true (done.set i true) (s.put d (bif (c && (b == want)) then x else .tup [])) K) : XW C l qs true done s K :=
  X_take i hv hq hr ⟨c && (b == want), fun ops o hgd β a w hR => guard2 hg hgd hR, fun h => by
    rw [h]
    simp only [Bool.and_eq_true, beq_iff_eq] at h
    exact hx h.1 h.2, fun h => by rw [h]; rfl⟩ h
theorem X3 {i j k : Nat} (hr : readyD l done = [i, j, k]) (h1 : XStep C l qs z done s K i) (h2 : XStep C l qs z done s K j) (h3 : XStep C l qs z done s K k) : XW C l qs z done s K :=
  X_step hr (by simp) fun m hm => by
    have : m = i ∨ m = j ∨ m = k := by simpa using hm
    rcases this with rfl | rfl | rfl
    · exact h1
    · exact h2
    · exact h3
end
/-- Models of ways that come together. -/
def jn {κ ρ : Type} (k : κ) (f : κ → Option ρ) : Option ρ := f k
theorem of_jn {κ ρ : Type} {k : κ} {f : κ → Option ρ} {r : ρ} (h : jn k f = some r) : ∃ k', k' = k ∧ f k' = some r := ⟨k, rfl, h⟩
end Go.V
