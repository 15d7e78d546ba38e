/- The V-layer, part L: copy, calls that read what is owned, slices read as arrays, strings' bytes. No premises. -/
import Derived.Test.YtopidcbmhdeclaaGreatG0
import Derived.Laws.IdiomCopy
import Derived.Sort.Row
import Derived.Sort.Grow
import Derived.Lib.SlicesCompact
import Derived.Carry
import Derived.Deep.Slices
import Derived.OpenShut
set_option linter.unusedVariables false
set_option linter.unusedSimpArgs false
namespace Go.V
open Go.RowKit
theorem AQ.vals {w : World} {st : Store} {β : Nat → Option Nat} {I : Nat → Prop} {b off : Nat} {ys : List T} (h : AQ w st β I b off ys) (hlive : ys.all (Nv st) = true) :
  ∃ us : List Value, us.length = ys.length ∧ (∀ j u, us[j]? = some u → w.cell? ⟨b, off + j, none⟩ = some u) ∧ (∀ u ∈ us, u.oneCell' = true) ∧ ∀ (j : Nat) (t : T), ys[j]? = some t → ∃ u, us[j]? = some u ∧ jc w st β I t u := by
 have hex : ∀ j : Nat, ∃ u : Value, ∀ t, ys[j]? = some t → w.cell? ⟨b, off + j, none⟩ = some u ∧ jc w st β I t u := by
  intro j
  cases hj : ys[j]? with
  | none => exact ⟨undef, fun t ht => by cases ht⟩
  | some t => obtain ⟨u, h1, h2⟩ := h j t hj; exact ⟨u, fun t' ht => by injection ht with ht; subst ht; exact ⟨h1, h2⟩⟩
 let f : Nat → Value := fun j => (hex j).choose
 have hf : ∀ j t, ys[j]? = some t → w.cell? ⟨b, off + j, none⟩ = some (f j) ∧ jc w st β I t (f j) := fun j => (hex j).choose_spec
 have hfu : ∀ j u, ((List.range ys.length).map f)[j]? = some u → ∃ t, ys[j]? = some t ∧ u = f j := by
  intro j u hj
  rw [List.getElem?_map] at hj
  obtain ⟨j', hj', rfl⟩ := Option.map_eq_some_iff.1 hj
  have hlt : j < ys.length := by have := (List.getElem?_eq_some_iff.1 hj').1; simpa using this
  rw [List.getElem?_range hlt] at hj'
  injection hj' with hj'; subst hj'
  exact ⟨ys[j], List.getElem?_eq_getElem hlt, rfl⟩
 refine ⟨(List.range ys.length).map f, by simp, fun j u hj => ?_, fun u hu => ?_, fun j t hj => ?_⟩
 ·obtain ⟨t, ht, rfl⟩ := hfu j u hj; exact (hf j t ht).1
 ·obtain ⟨j, hj⟩ := List.mem_iff_getElem?.1 hu
  obtain ⟨t, ht, rfl⟩ := hfu j u hj
  exact AV (List.all_eq_true.1 hlive t (List.mem_of_getElem? ht)) (hf j t ht).2
 ·have hlt := (List.getElem?_eq_some_iff.1 hj).1
  exact ⟨f j, by rw [List.getElem?_map, List.getElem?_range hlt]; rfl, (hf j t hj).2⟩
theorem VH (l : List T) (off : Nat) : splice l off [] = l := by simp [splice]
theorem Pj {C : Ctx} {s : St} {d : Option Nat} {x y : Operand} {r off n m : Nat} {ap : Option (Nat × TypeId)} {g : Reg} {z : S} {ys : List T} (hx : s.ev x = .one (.own r off n ap)) (hg : dH s.st r = some g)
  (hy : s.ev y = z) (hsrc : Src s 1 z ys m) (hlive : ys.all (Nv s.st) = true) (hfit : off + min m n ≤ g.cs.length) :
  Does C (.copy 1 x y) d s false (· = (⟨s.env, sset s.st r ⟨g.pure && gG (ys.take (min m n)), splice g.cs off (ys.take (min m n))⟩⟩ : St).put d (.one (.v (.int .i64 (min m n : Nat))))) := by
 refine Ag fun o ho β a w hR => ?_
 obtain ⟨t, e, ho, hu, hk⟩ := ho
 have hrs : (dH s.st r).isSome = true := by rw [hg]; rfl
 have hown := (hx ▸ hR.ev x).t hrs
 obtain ⟨hyl, A, c, hvy, hcells⟩ := hsrc.rel (by omega) hR (hy ▸ hR.ev y)
 simp only [Nat.mul_one] at hyl
 have hk' : (C.P.info? e).map (·.size) = some 1 := hk
 have NI : ∀ v w', (Builtin.copy_ #[t, t] o.type #[a.eval x, a.eval y]).run C.P w = .ok v w' → (execOp a.eval o).run C.P w = .ok (.value v) w' := by
  intro v w' h
  simp only [execOp, ho, resolve, Sem.run_bind, Sem.run_pure, Result.andThen_ok, invoke, builtin]
  have he : (#[x, y] : Array Operand).map a.eval = #[a.eval x, a.eval y] := by simp
  rw [he, h]
  rfl
 have hvx : ∃ A' cap, a.eval x = .slice A' n cap ∧ (0 < n → ∃ b, β r = some b ∧ A' = some ⟨b, off, none⟩) := by
  unfold sQ at hown
  cases hb : β r with
  | none => rw [hb] at hown; obtain ⟨rfl, h⟩ := hown; exact ⟨_, _, h, fun h => by omega⟩
  | some b => rw [hb] at hown; obtain ⟨A', cap, cur, ety, h, _, hA, _⟩ := hown; exact ⟨A', cap, h, fun hn => ⟨b, rfl, hA hn⟩⟩
 obtain ⟨A', cap, hvx, hpos⟩ := hvx
 by_cases h0 : min m n = 0
 ·refine ⟨.int .i64 (min m n : Nat), w, β, NI _ _ ?_, hR.aaA (st' := sset s.st r _) (fun q => ?_), .one (.v rfl), fun h => by cases h⟩
  ·rw [hvx, hvy, h0]
   exact run_copy_none (P := C.P) w t t o.type e A' A n cap m c hu hk' h0
  ·rw [h0]
   simp only [List.take_zero, VH, gG, Bool.and_true]
   by_cases h : r = q
   ·subst h; rw [nV _ _ _ hrs, hg]
   ·rw [qG _ _ h]
 ·obtain ⟨b, hb, rfl⟩ := hpos (by omega)
  rcases hcells with hm | ⟨b2, off2, rfl, hc⟩
  ·omega
  ·have hc' : AQ w s.st β (C.I s.st β w) b2 off2 (ys.take (min m n)) := fun j t hj => hc j t (by
    have hlt : j < min m n := by have := (List.getElem?_eq_some_iff.1 hj).1; simp at this; omega
    rw [List.getElem?_take_of_lt hlt] at hj; exact hj)
   obtain ⟨us, hul, NJ, hu1, Wp⟩ := hc'.vals (List.all_eq_true.2 fun t ht => List.all_eq_true.1 hlive t (List.mem_of_mem_take ht))
   have acz : us.length = min m n := by rw [hul]; simp; omega
   obtain ⟨cur, ety, hh, hlen, hcur⟩ : ∃ cur ety, w.heap[b]? = some (.cells cur ety (0, 0)) ∧ g.cs.length ≤ cur.size ∧ ∀ (j : Nat) (t : T), g.cs[j]? = some t → ∃ u, cur[j]? = some u ∧ jc w s.st β (C.I s.st β w) t u := by
    have := (hR.ok.store r g hg).2
    rw [hb] at this
    exact this
   have hrun := run_copy_row (P := C.P) w t t o.type e b off n cap ⟨b2, off2, none⟩ m c cur ety us hu hk' hh acz (fun j v hj => by rw [addr_add]; exact NJ j v hj) (by rw [acz]; omega) hu1
   have ae5 : (ys.take (min m n)).length = us.length := by rw [hul]
   have hR' := hR.write hg hb (cur.toList.take off ++ us ++ cur.toList.drop (off + us.length)).toArray ⟨g.pure && gG (ys.take (min m n)), splice g.cs off (ys.take (min m n))⟩
    (by simp [splice]; omega) (fun c e hc => by rw [hh] at hc; injection hc with hc; injection hc with hc; subst hc; simp; omega)
    (fun hp t ht => by
     simp only [Bool.and_eq_true] at hp
     simp only [splice, List.mem_append] at ht
     rcases ht with (ht | ht) | ht
     ·exact .inr ⟨hp.1, List.mem_of_mem_take ht⟩
     ·exact .inl (kK hp.2 t ht)
     ·exact .inr ⟨hp.1, List.mem_of_mem_drop ht⟩)
    (fun j t hj => by
     simp only [splice] at hj
     rw [vU _ _ _ (by omega)] at hj
     rw [List.getElem?_toArray, vU _ _ _ (by simp; omega)]
     by_cases ha : j < off
     ·rw [if_pos ha] at hj ⊢
      obtain ⟨u, h3, h4⟩ := hcur j t hj
      exact ⟨u, by simpa using h3, h4⟩
     ·rw [if_neg ha] at hj ⊢
      rw [← ae5]
      by_cases hb2 : j < off + (ys.take (min m n)).length
      ·rw [if_pos hb2] at hj ⊢
       exact Wp _ t hj
      ·rw [if_neg hb2] at hj ⊢
       obtain ⟨u, h3, h4⟩ := hcur j t hj
       exact ⟨u, by simpa using h3, h4⟩)
   refine ⟨.int .i64 (min m n : Nat), _, β, NI _ _ ?_, hR', .one (.v rfl), fun h => by cases h⟩
   rw [hvx, hvy, hrun, acz]
   rfl
def cpy {α : Type} (l : List α) (a : Nat) (n : Nat) (l2 : List α) : List α := l.take a ++ l2.take (min (min l2.length n) (l.length - a)) ++ l.drop (a + min (min l2.length n) (l.length - a))
theorem au {α : Type} (l : List α) (a : Nat) (n : Nat) (l2 : List α) : (cpy l a n l2).length = l.length := by
 simp only [cpy, List.length_append, List.length_take, List.length_drop]
 omega
theorem Yo {α : Type} (l : List α) (a : Nat) (n : Nat) (l2 : List α) (h : a + min l2.length n ≤ l.length) : cpy l a n l2 = l.take a ++ l2.take (min l2.length n) ++ l.drop (a + min l2.length n) := by
 have : min (min l2.length n) (l.length - a) = min l2.length n := by omega
 simp only [cpy, this]
theorem FH {C : Ctx} {s : St} {d : Option Nat} {α : Type} {e : α → List T} {x y : Operand} {r off n : Nat} {ap : Option (Nat × TypeId)} {l l2 : List α} {z : S} (hx : s.ev x = .one (.own r off n ap)) (hg : dH s.st r = some ⟨true, flat e l⟩) (hk : ∀ x, (e x).length = 1) (he : ∀ x, gG (e x) = true)
  (hy : s.ev y = z) (hsrc : Src s 1 z (flat e l2) l2.length) (hfit : off + min l2.length n ≤ l.length) :
  Does C (.copy 1 x y) d s false (· = (⟨s.env, sset s.st r ⟨true, flat e (cpy l off n l2)⟩⟩ : St).put d (.one (.v (.int .i64 (min l2.length n : Nat))))) := by
 refine (Pj hx hg hy hsrc (Em (Aj he _) _) (by simp only [uU hk, Nat.mul_one]; exact hfit)).cast ?_
 have h1 := Ak hk (min l2.length n) l2
 simp only [Nat.mul_one] at h1
 have h2 := Ak hk off l
 have h3 := IW hk (off + min l2.length n) l
 simp only [Nat.mul_one] at h2 h3
 have hle : (flat e (l2.take (min l2.length n))).length = min l2.length n := by rw [uU hk]; simp
 simp only [h1, Aj he, Bool.and_true, splice, hle, h2, h3, Yo _ _ _ _ hfit, JE]
def aaI (st : Store) : T → T
 | .own r off n ap => match dH st r with
  | some g => bif g.pure then XF g.cs off n ap else .dead
  | none => .dead
 | .ptr _ _ => .dead
 | .psl _ _ => .dead
 | .uO _ _ => .dead
 | .nil => .sl [] 0
 | t => t
def T.BM : T → Bool
 | .v _ => true
 | .nil => true
 | _ => false
def S.BM : S → Bool
 | .one t => t.BM
 | .agg ts => ts.all T.BM
 | .tup l => Wv l
where Wv : List S → Bool
 | [] => true
 | s :: l => S.BM s && Wv l
theorem S.XG {l : List S} (h : S.BM.Wv l = true) {i : Nat} {s : S} (hi : l[i]? = some s) : s.BM = true := by
 induction l generalizing i with
 | nil => simp at hi
 | cons x l ih =>
  simp only [S.BM.Wv, Bool.and_eq_true] at h
  cases i with
  | zero => simp at hi; subst hi; exact h.1
  | succ i => exact ih h.2 (by simpa using hi)
theorem iy.BM {w w' : World} {st st' : Store} {β β' : Nat → Option Nat} {I I' : Nat → Prop} {x : S} {u : Value} (h : iy w st β I x u) (hp : x.BM = true) : iy w' st' β' I' x u := by
 have ht : ∀ (t : T) (u : Value), jc w st β I t u → t.BM = true → jc w' st' β' I' t u := by
  intro t u h hp
  cases t <;> first | cases hp | skip
  ·cases h with | v h => exact .v h
  ·cases h; exact .nil
 induction h with
 | one h => exact .one (ht _ _ h hp)
 | agg hs h => exact .agg hs fun i t u h1 h2 => ht t u (h i t u h1 h2) (List.all_eq_true.1 hp t (List.mem_of_getElem? h1))
 | tup hs h ih => exact .tup hs fun i s u h1 h2 => ih i s u h1 h2 (S.XG hp h1)
theorem nU {C : Ctx} {s : St} {d : Option Nat} {P : Program} {f : FuncId} {xs : List Operand} {ps : List S} {X : S} (hP : C.P = P) (hAC : PC P f ps X) (hx : xs.map (fun x => oZ (aaI s.st) (s.ev x)) = ps) (hX : X.BM = true) :
  Does C (.call f xs) d s true (· = s.put d X) := by
 subst hP
 intro o ho hd hn β a w hR next R' hK
 obtain ⟨args, ats, ho, rfl, hc⟩ := ho
 unfold Oper.wp
 rw [Ai ho hc, Oper.upon_enter]
 have h0 : ∀ b, b < w.heap.size → b < w.heap.size ∧ ¬ False := fun b hb => ⟨hb, fun h => h⟩
 refine (hAC w (fun _ => False) (fun b => b < w.heap.size) h0 (fun _ => none) (fun _ _ => rfl) (fun _ => none) (args.map a.eval) ⟨Kept.refl _ _, fun r g h => (by cases h), fun r r' b h => (by cases h), fun r b h => (by cases h), fun r b h => (by cases h)⟩ ?_ ?_).mono ?_
 ·subst hx; simp
 ·intro i x v h1 h2
  subst hx
  rw [List.getElem?_map] at h1
  obtain ⟨y, hy, rfl⟩ := Option.map_eq_some_iff.1 h1
  have hv : v = a.eval y := by
   rw [Array.getElem?_map] at h2
   have hy' : args[i]? = some y := by simpa using hy
   rw [hy'] at h2
   simpa using h2.symm
  subst hv
  have hI : ∀ b, C.I s.st β w b → b < w.heap.size := fun b hb => C.Hy hR.ok.kept hb
  refine iy.map (f := aaI s.st) ?_ (hR.ev y)
  intro t u h
  have hII : ∀ b, C.I s.st β w b → Ctx.I ⟨C.P, 0, fun _ => False, w, fun b => b < w.heap.size, h0, fun _ => none, fun _ _ => rfl⟩ [] (fun _ => none) w b := fun b hb => .inl (hI b hb)
  cases t with
  | v x => exact Rep.mono (fun _ _ => rfl) hII h
  | nil => cases h; exact .sl0 _ _
  | sl cs n => exact Rep.mono (fun _ _ => rfl) hII h
  | clo f cs => exact Rep.mono (fun _ _ => rfl) hII h
  | dead => trivial
  | uO b m => trivial
  | ptr q off => trivial
  | psl cs off => trivial
  | own q off n ap =>
   simp only [aaI]
   cases hq : dH s.st q with
   | none => trivial
   | some g =>
    simp only
    cases hp : g.pure with
    | false => trivial
    | true =>
     simp only [cond_true]
     exact (Ws (by rw [hq]; rfl) (hR.ok.store q g hq) hp hII (fun b hb => .inl (hR.ok.lt (by rw [hq]; rfl) hb)) h).Ou
 ·rintro e w' ⟨v, x, st', β', rfl, hok, hrel, rfl, rfl⟩
  have hk : Kept (fun _ => False) w w' := hok.kept
  obtain ⟨hR', hx'⟩ := hR.later hk
  refine hK (s.put d x) β (a.put o.dst v) w' rfl ?_ (fun _ => hk)
  rw [hd]
  exact hR'.rQ (iy.BM hrel hX) hn
attribute [simp] aaI
def EF : T → T
 | .nil => .sl [] 0
 | t => t
attribute [simp] EF
theorem FQ {C : Ctx} {s : St} {d : Option Nat} {P : Program} {f : FuncId} {xs : List Operand} {ps : List S} {X : S} (hP : C.P = P) (hAC : PC P f ps X) (hx : xs.map (fun x => oZ EF (s.ev x)) = ps) (hp : S.isPure.DV ps = true) (hX : X.isPure = true) :
  Does C (.call f xs) d s true (· = s.put d X) := by
 subst hP
 intro o ho hd hn β a w hR next R' hK
 obtain ⟨args, ats, ho, rfl, hc⟩ := ho
 unfold Oper.wp
 rw [Ai ho hc, Oper.upon_enter]
 have h0 : ∀ b, C.I s.st β w b → b < w.heap.size ∧ ¬ False := fun b hb => ⟨C.Hy hR.ok.kept hb, fun h => h⟩
 refine (hAC w (fun _ => False) (C.I s.st β w) h0 (fun _ => none) (fun _ _ => rfl) (fun _ => none) (args.map a.eval) ⟨Kept.refl _ _, fun r g h => (by cases h), fun r r' b h => (by cases h), fun r b h => (by cases h), fun r b h => (by cases h)⟩ ?_ ?_).mono ?_
 ·subst hx; simp
 ·intro i x v h1 h2
  have h4 := h1
  subst hx
  rw [List.getElem?_map] at h1
  obtain ⟨y, hy, rfl⟩ := Option.map_eq_some_iff.1 h1
  have hv : v = a.eval y := by
   rw [Array.getElem?_map] at h2
   have hy' : args[i]? = some y := by simpa using hy
   rw [hy'] at h2
   simpa using h2.symm
  subst hv
  have h5 : iy w s.st β (C.I s.st β w) (oZ EF (s.ev y)) (a.eval y) := iy.map (fun t u h => by cases t <;> first | exact h | (cases h; exact .sl0 _ _)) (hR.ev y)
  exact iy.pure (I := C.I s.st β w) (fun b hb => .inl hb) h5 (S.xG hp h4)
 ·rintro e w' ⟨v, x, st', β', rfl, hok, hrel, rfl, rfl⟩
  have hk : Kept (fun _ => False) w w' := hok.kept
  obtain ⟨hR', hx'⟩ := hR.later hk
  refine hK (s.put d x) β (a.put o.dst v) w' rfl ?_ (fun _ => hk)
  rw [hd]
  refine hR'.rQ ?_ hn
  refine iy.pure (fun b hb => ?_) hrel hX
  rcases hb with h1 | ⟨h1 | h1, h2, _⟩
  ·exact hx'.imm b h1
  ·exact h1.elim
  ·refine .inr ⟨.inr (by have := hR.ok.kept.size; replace h1 : w.heap.size ≤ b := h1; omega), h2, fun r hr hrb => ?_⟩
   have := hR.ok.lt hr hrb
   replace h1 : w.heap.size ≤ b := h1
   omega
theorem Src.part {s : St} {α : Type} {e : α → List T} {k r off m : Nat} {ap : Option (Nat × TypeId)} {g : Reg} (l2 : List α) (hg : dH s.st r = some g) (hk : ∀ x, (e x).length = k) (h : (g.cs.drop off).take (m * k) = flat e l2) (hm : m = l2.length) : Src s k (.one (.own r off m ap)) (flat e l2) m := by
 subst hm
 exact .own hg (fun j t hj => by rw [← h] at hj; exact qU _ _ _ j t hj) (uU hk _)
theorem ZJ {α : Type} [Inhabited α] {e : α → List T} (hk : ∀ x, (e x).length = 1) : ∀ (n : Nat) (l : List α), n ≤ l.length → (flat e l).take n = (List.range n).flatMap (fun i : Nat => e (nth l (i : Int))) := by
 intro n
 induction n with
 | zero => intro l _; simp
 | succ n ih =>
  intro l h
  have h1 := ih l (by omega)
  have hlt : n < l.length := by omega
  have h2 := flat_get hk l n l[n] (List.getElem?_eq_getElem hlt) 0 (by omega)
  simp only [Nat.mul_one, Nat.add_zero] at h2
  have h3 : nth l (n : Int) = l[n] := by unfold nth; rw [List.getD_eq_getElem?_getD]; simp [hlt]
  rw [List.range_succ, List.flatMap_append, ← h1, List.take_add_one, h2]
  simp only [List.flatMap_cons, List.flatMap_nil, List.append_nil, h3]
  congr 1
  obtain ⟨t, ht⟩ : ∃ t, e l[n] = [t] := by
   have := hk l[n]
   match h : e l[n], this with
   | [t], _ => exact ⟨t, rfl⟩
  rw [ht]; rfl
theorem Md {C : Ctx} {s : St} {d : Option Nat} {α : Type} [Inhabited α] {e : α → List T} {x y : Operand} {r off n : Nat} {ap : Option (Nat × TypeId)} {g : Reg} {l2 : List α} {z : S} {lit : List T} (hx : s.ev x = .one (.own r off n ap)) (hg : dH s.st r = some g) (hk : ∀ x, (e x).length = 1) (he : ∀ x, gG (e x) = true)
  (hy : s.ev y = z) (hsrc : Src s 1 z (flat e l2) l2.length) (hfit : off + n ≤ g.cs.length) (hn : n ≤ l2.length) (hlit : (List.range n).flatMap (fun i : Nat => e (nth l2 (i : Int))) = lit) :
  Does C (.copy 1 x y) d s false (· = (⟨s.env, sset s.st r ⟨g.pure, splice g.cs off lit⟩⟩ : St).put d (.one (.v (.int .i64 (n : Nat))))) := by
 have hm : min l2.length n = n := by omega
 refine (Pj hx hg hy hsrc (Em (Aj he _) _) (by rw [hm]; exact hfit)).cast ?_
 have h1 := ZJ hk n l2 hn
 have h2 := Ak hk n l2
 simp only [Nat.mul_one] at h2
 rw [hm, h1, hlit]
 have : gG lit = true := by rw [← hlit, ← h1, h2]; exact Aj he _
 simp only [this, Bool.and_true]
theorem jM {s : St} {i r off n : Nat} {ap : Option (Nat × TypeId)} (n' : Nat) (h : jT s.env i = .one (.own r off n ap)) (he : n = n') : Le s ⟨(i, .one (.own r off n' ap)) :: s.env, s.st⟩ :=
 ZH fun w β I u hu => by rw [h] at hu; subst he; exact hu
section
variable {C : Ctx} {Q : Exit → St → Prop} {s : St}
theorem dJ {a b : cO} {α : Type} (f : α → St) (G : α → Prop) (hrest : ∀ i, G i → EV C b Q (f i)) (ha : EV C a (zV (fun s => ∃ i, G i ∧ LeB s (f i)) Q) s) : EV C (.seq a b) Q s := by
 refine bG (acp ha ?_)
 intro e s' h
 cases e with
 | normal =>
  obtain ⟨i, hG, hle⟩ := h
  exact dR hle (hrest i hG)
 | _ => exact h
theorem NR {P : Program} {a : Act} {w : World} {Q : Exit → Act → World → Prop} {c rest : Code} (l : Nat) (J : Nat → Act → World → Prop) (hf : findLabel c l = some rest)
  (first : c.wp P (Exit.jump l (fun a w => ∃ n, J n a w) Q) a w)
  (pass : ∀ n a w, J n a w → rest.wp P (Exit.jump l (fun a' w' => ∃ m, m < n ∧ J m a' w') Q) a w) : (Code.scope c).wp P Q a w := by
 intro b k cs
 have hg : gotoIn l (.inScope c :: k) = some (.code rest :: .inScope c :: k) := by simp [gotoIn, hf]
 have key : ∀ n a w, J n a w → ∃ e a' w', Q e a' w' ∧ Arrives P (lone (b.at a (.code rest :: .inScope c :: k)) cs w) b k cs e a' w' := by
  intro n
  induction n using Nat.strongRecOn with
  | _ n ih =>
   intro a w hJ
   obtain ⟨e, a₁, w₁, hq, harr⟩ := pass n a w hJ b (.inScope c :: k) cs
   cases e with
   | normal => exact ⟨.normal, a₁, w₁, hq, Steps.trans harr (.one step_inScope)⟩
   | exit id => exact ⟨.exit id, a₁, w₁, hq, fun k' hk => harr k' (by simp [exitTo, hk])⟩
   | goto l' =>
    obtain ⟨rfl, m, hlt, hJ'⟩ := hq
    obtain ⟨e₂, a₂, w₂, hq₂, harr₂⟩ := ih m hlt a₁ w₁ hJ'
    exact ⟨e₂, a₂, w₂, hq₂, .of_steps (harr _ hg) harr₂⟩
   | ret => exact ⟨_, a₁, w₁, hq, harr⟩
   | panic ch => exact ⟨_, a₁, w₁, hq, harr⟩
   | outgrown => exact ⟨_, a₁, w₁, hq, harr⟩
 obtain ⟨e, a₁, w₁, hq, harr⟩ := first b (.inScope c :: k) cs
 cases e with
 | normal => exact ⟨.normal, a₁, w₁, hq, .head step_scope (Steps.trans harr (.one step_inScope))⟩
 | exit id => exact ⟨.exit id, a₁, w₁, hq, fun k' hk => .head step_scope (harr k' (by simp [exitTo, hk]))⟩
 | goto l' =>
  obtain ⟨rfl, n, hJ'⟩ := hq
  obtain ⟨e₂, a₂, w₂, hq₂, harr₂⟩ := key n a₁ w₁ hJ'
  exact ⟨e₂, a₂, w₂, hq₂, .of_steps (.head step_scope (harr _ hg)) harr₂⟩
 | ret => exact ⟨_, a₁, w₁, hq, .of_steps (.one step_scope) harr⟩
 | panic ch => exact ⟨_, a₁, w₁, hq, .of_steps (.one step_scope) harr⟩
 | outgrown => exact ⟨_, a₁, w₁, hq, .of_steps (.one step_scope) harr⟩
theorem Zp {l : Nat} {x y : cO} {α : Type} (f : α → St) (J : Nat → α → Prop) (first : EV C x (ada (fun s => ∃ n i, J n i ∧ LeB s (f i)) Q) s)
  (round : ∀ n i, J n i → EV C y (aaX l (fun s' => ∃ m j, m < n ∧ J m j ∧ LeB s' (f j)) Q) (f i)) : EV C (.scope l x y) Q s := by
 intro c hc
 obtain ⟨a, b, rfl, hf, ha, hb⟩ := rV hc
 intro β ac w hR
 have pass : ∀ n ac w, (∃ i β, J n i ∧ R C (f i) β ac w) → b.wp C.P (Exit.jump l (fun a' w' => ∃ m, m < n ∧ ∃ i β, J m i ∧ R C (f i) β a' w') (fun e a' w' => ∃ s' β', R C s' β' a' w' ∧ Q e s')) ac w := by
  rintro n ac w ⟨i, β, hJ, hR⟩
  refine wp_mono (round n i hJ b hb β ac w hR) ?_
  rintro e a' w' ⟨s', β', hR', hq⟩
  cases e with
  | goto l' =>
   obtain ⟨rfl, m, j, hlt, hj, hle⟩ := hq
   obtain ⟨β2, hR2⟩ := hle C β' a' w' hR'
   exact ⟨rfl, m, hlt, j, β2, hj, hR2⟩
  | _ => exact ⟨s', β', hR', hq⟩
 refine NR l (fun n a w => ∃ i β, J n i ∧ R C (f i) β a w) (rest := .seq .skip b) (by simp [findLabel, hf]) ?_ (fun n ac w hJ => wp_seq (wp_skip (pass n ac w hJ)))
 refine wp_seq (wp_mono (first a ha β ac w hR) ?_)
 rintro e a' w' ⟨s', β', hR', hq⟩
 cases e with
 | normal =>
  obtain ⟨n, i, hJ, hle⟩ := hq
  obtain ⟨β2, hR2⟩ := hle C β' a' w' hR'
  refine wp_seq (wp_label ?_)
  refine wp_mono (pass n a' w' ⟨i, β2, hJ, hR2⟩) ?_
  rintro e a'' w'' h
  cases e with
  | goto l' =>
   obtain ⟨rfl, m, _, i, β3, h1, h2⟩ := h
   exact ⟨rfl, m, i, β3, h1, h2⟩
  | _ => exact h
 | goto l' => exact hq.elim
 | _ => exact ⟨s', β', hR', hq⟩
theorem eG {x : cO} {α : Type} (f : α → St) (J : Nat → α → Prop) (n0 : Nat) (a0 : α) (h0 : J n0 a0) (hle : LeB s (f a0))
  (round : ∀ n i, J n i → EV C x (zV (fun s' => ∃ m j, m < n ∧ J m j ∧ LeB s' (f j)) Q) (f i)) : EV C (.loop x) Q s := by
 refine dR hle ?_
 intro c hc
 obtain ⟨cb, rfl, hb⟩ := rV hc
 intro β a w hR
 refine wp_loop_ghost (fun n a w => ∃ i β, J n i ∧ R C (f i) β a w) n0 ⟨a0, β, h0, hR⟩ ?_
 rintro n a w ⟨i, β, hJ, hR⟩
 refine wp_mono (round n i hJ cb hb β a w hR) ?_
 rintro e a' w' ⟨s', β', hR', hq⟩
 cases e with
 | normal =>
  obtain ⟨m, j, hlt, hj, hle'⟩ := hq
  obtain ⟨β2, h2⟩ := hle' C β' a' w' hR'
  exact ⟨m, hlt, j, β2, hj, h2⟩
 | _ => exact ⟨s', β', hR', hq⟩
end
section
variable {C : Ctx} {s : St} {K : St → Prop} {l : List VOp} {d : Option Nat}
theorem kJ {i : VI} {gd : Nat} {want b c k : Bool} {x : S} (hg : jT s.env gd = bif c then .one (.v (.bool b)) else .tup []) (h1 : c = true → b = want → Does C i d s k (· = s.put d x)) (h2 : WL C l (s.put d (bif (c && (b == want)) then x else .tup [])) K) : WL C (⟨i, d, some (some gd, want)⟩ :: l) s K := by
 cases c with
 | true => exact iM (by rw [hg]; rfl) (h1 rfl) (by simpa using h2)
 | false => exact ae2 (by rw [hg]; rfl) (by simpa using h2)
end
section
variable {s : St}
theorem Ee {i : Nat} {x : S} (h : jT s.env i = x) : Le s ⟨(i, oZ EF x) :: s.env, s.st⟩ :=
 ZH fun w β I u hu => by
  rw [h] at hu
  exact iy.map (fun t u h => by cases t <;> first | exact h | (cases h; exact .sl0 _ _)) hu
theorem rM {q j r : Nat} {g : Reg} (k e : Nat) (hg : dH s.st q = some g) (hj : g.cs[j]? = some .nil) (hf : s.fresh r = true) (hp : g.cs.all (fun t => !t.has r) = true) :
  LeB s ⟨s.env, (r, ⟨true, []⟩) :: sset s.st q ⟨false, g.cs.set j (.own r 0 0 (some (k, e)))⟩⟩ :=
 TW k e hg hj hf fun t ht => by have := List.all_eq_true.1 hp t ht; simpa using this
theorem ni {q : Nat} {g : Reg} (hg : dH s.st q = some g) : Le s ⟨s.env, sset s.st q ⟨g.pure, g.cs.map EF⟩⟩ := by
 intro C β a w hR
 have hs : ∀ x, (dH (sset s.st q ⟨g.pure, g.cs.map EF⟩) x).isSome = (dH s.st x).isSome := fun x => vT ..
 have hI : C.I (sset s.st q ⟨g.pure, g.cs.map EF⟩) β w = C.I s.st β w := by funext b; unfold Ctx.I; simp only [hs]
 have hx : Ext (C.I s.st β w) (C.I (sset s.st q ⟨g.pure, g.cs.map EF⟩) β w) s.st (sset s.st q ⟨g.pure, g.cs.map EF⟩) β β w w :=
  ⟨fun b hb => by rw [hI]; exact hb, fun _ _ => rfl, fun x hx => ⟨by rw [← hs]; exact hx, rfl⟩, fun _ _ _ _ cur ety hh => ⟨cur, hh, rfl⟩⟩
 refine ⟨⟨hR.ok.kept, fun x g' hgx => ?_, fun x x' b h h' => hR.ok.inj x x' b (by rw [← hs]; exact h) (by rw [← hs]; exact h'), fun x b h => hR.ok.uX x b (by rw [← hs]; exact h), fun x b h => hR.ok.yO x b (by rw [← hs]; exact h)⟩, hR.defers, hR.size, fun i => iy.ext hx (hR.env i)⟩
 by_cases hxq : q = x
 ·subst hxq
  rw [nV _ _ _ (by rw [hg]; rfl)] at hgx
  injection hgx with hgx
  subst hgx
  have h2 := hR.ok.store q g hg
  refine ⟨fun hp t ht => ?_, ?_⟩
  ·obtain ⟨t', h3, rfl⟩ := List.mem_map.1 ht
   have := h2.1 hp t' h3
   cases t' <;> first | exact this | rfl
  ·have h3 := h2.2
   cases hb : β q with
   | none => rw [hb] at h3; simp only at h3 ⊢; rw [h3]; rfl
   | some b =>
    rw [hb] at h3
    obtain ⟨cur, ety, h4, h5, h6⟩ := h3
    refine ⟨cur, ety, h4, by simpa using h5, fun j t hj => ?_⟩
    simp only [List.getElem?_map] at hj
    obtain ⟨t', h8, rfl⟩ := Option.map_eq_some_iff.1 hj
    obtain ⟨u, h7, h9⟩ := h6 j t' h8
    refine ⟨u, h7, ?_⟩
    have h10 := jc.ext hx h9
    cases t' <;> first | exact h10 | (cases h10; exact .sl0 _ _)
 ·rw [qG _ _ hxq] at hgx
  have h2 := hR.ok.store x g' hgx
  refine ⟨h2.1, ?_⟩
  have h3 := h2.2
  cases hb : β x with
  | none => rw [hb] at h3; exact h3
  | some b =>
   rw [hb] at h3
   obtain ⟨cur, ety, h4, h5, h6⟩ := h3
   exact ⟨cur, ety, h4, h5, fun j t hj => by obtain ⟨u, h7, h8⟩ := h6 j t hj; exact ⟨u, h7, jc.ext hx h8⟩⟩
end
section
variable {C : Ctx} {l : List DOp} {qs : List Nat} {z : Bool} {done : List Bool} {s : St} {K : St → Prop}
theorem acA {b c want : Bool} {gd : Nat} (hg : jT s.env gd = bif c then .one (.v (.bool b)) else .tup []) {ops : Array Oper} {o : Oper} (hgd : guardOf ops o = some (some gd, want)) {β : Nat → Option Nat} {a : Act} {w : World} (hR : R C s β a w) :
  Region.wanted o (yielded ops a.tmps) = (c && (b == want)) := by
 obtain ⟨j, hj, hw⟩ := rU hgd (yielded ops a.tmps)
 cases c with
 | true => rw [hw, uh hR hj (by rw [hg]; rfl)]; simp
 | false => rw [hw, EU hR hj (by rw [hg]; rfl)]; rfl
theorem sW (i : Nat) {vi : VI} {d : Option Nat} {gd : Nat} {want b c : Bool} {ws : List Nat} {x : S} (hv : l[i]? = some (⟨vi, d, some (some gd, want)⟩, ws)) (hq : qs.contains i = true) (hr : zG l done i = true)
  (hg : jT s.env gd = bif c then .one (.v (.bool b)) else .tup []) (hx : c = true → b = want → Quiet C vi s x) (h : XW C l qs true (done.set i true) (s.put d (bif (c && (b == want)) then x else .tup [])) K) : XW C l qs true done s K :=
 VA i hv hq hr ⟨c && (b == want), fun ops o hgd β a w hR => acA hg hgd hR, fun h => by
  rw [h]
  simp only [Bool.and_eq_true, beq_iff_eq] at h
  exact hx h.1 h.2, fun h => by rw [h]; rfl⟩ h
theorem X3 {i j k : Nat} (hr : yJ l done = [i, j, k]) (h1 : DW C l qs z done s K i) (h2 : DW C l qs z done s K j) (h3 : DW C l qs z done s K k) : XW C l qs z done s K :=
 VB hr (by simp) fun m hm => by
  have : m = i ∨ m = j ∨ m = k := by simpa using hm
  rcases this with rfl | rfl | rfl
  ·exact h1
  ·exact h2
  ·exact h3
end
def jn {κ ρ : Type} (k : κ) (f : κ → Option ρ) : Option ρ := f k
theorem eX {κ ρ : Type} {k : κ} {f : κ → Option ρ} {r : ρ} (h : jn k f = some r) : ∃ k', k' = k ∧ f k' = some r := ⟨k, rfl, h⟩
end Go.V
set_option linter.unusedVariables false
set_option linter.unusedSimpArgs false
namespace Go.V
open Go.RowKit
def one? (z : Value) : Option Value := bif z.oneCell' then some z else none
def int? (k : IntKind) : Value → Option Int
 | .int k' n => if k = k' then some n else none
 | _ => none
def bool? : Value → Option Bool
 | .bool b => some b
 | _ => none
def aff : Value → Option ByteArray
 | .string b => some b
 | _ => none
theorem Wx {z z' : Value} (h : one? z = some z') : z = z' ∧ z'.oneCell' = true := by
 unfold one? at h
 cases hb : z.oneCell' with
 | false => rw [hb] at h; cases h
 | true => rw [hb] at h; injection h with h; subst h; exact ⟨rfl, hb⟩
theorem aaJ {k : IntKind} {z : Value} {n : Int} (h : int? k z = some n) : z = .int k n := by
 unfold int? at h
 split at h
 ·split at h
  ·rename_i hk; injection h with h; subst h; subst hk; rfl
  ·cases h
 ·cases h
theorem ZK {z : Value} {b : Bool} (h : bool? z = some b) : z = .bool b := by
 unfold bool? at h
 split at h
 ·injection h with h; subst h; rfl
 ·cases h
def val? : Next → Option Value
 | .value z => some z
 | _ => none
theorem Wy {n : Next} {z : Value} (h : val? n = some z) : n = .value z := by
 cases n <;> first | (injection h with h; subst h; rfl) | cases h
def xc (P : Program) (f : FuncId) (vs : List Value) : Option Value := (mZ P (callFunc f vs.toArray)).bind val?
def cv (P : Program) (s d : TypeId) (x : Value) : Option Value := mZ P (convert s d x)
def bn (P : Program) (op : BinOp) (t : TypeId) (x y : Operand) (a b : Value) : Option Value := mZ P (do eqGuard op t x y a b; binOp op t a b)
def bu (P : Program) (b : Builtin) (ats : Array TypeId) (ty : TypeId) (cs : Array Bool) (vs : List Value) : Option Value := (mZ P (builtin b ats ty cs vs.toArray)).bind val?
section
variable {C : Ctx} {s : St}
theorem aaK {C : Ctx} {β : Nat → Option Nat} {ac : Act} {w : World} {args : Array Operand} {vs : List Value} (hR : R C s β ac w) (hx : args.toList.map s.ev = vs.map fun v => .one (.v v)) : args.map ac.eval = vs.toArray := by
 apply Array.toList_inj.1
 apply List.ext_getElem?
 intro i
 have := congrArg (fun l => l[i]?) hx
 simp only [List.getElem?_map] at this
 simp only [Array.toList_map, List.getElem?_map]
 cases ha : args.toList[i]? with
 | none => rw [ha] at this; cases hv : vs[i]? with
  | none => simp [hv]
  | some v => rw [hv] at this; cases this
 | some x =>
  rw [ha] at this
  cases hv : vs[i]? with
  | none => rw [hv] at this; cases this
  | some v =>
   rw [hv] at this
   simp only [Option.map_some, Option.some.injEq] at this
   simp [hv, (this ▸ hR.ev x).plain]
theorem qC {P : Program} {f : FuncId} {xs : List Operand} {vs : List Value} {z : Value} (hP : C.P = P) (hx : xs.map s.ev = vs.map fun v => .one (.v v)) (hz : xc P f vs = some z) (h1 : z.oneCell' = true) : Quiet C (.Bf f xs) s (.one (.v z)) := by
 subst hP
 refine fun o ho β ac w hR => ?_
 obtain ⟨args, ats, ho, rfl⟩ := ho
 refine ⟨z, fun w' hk' => ?_, .one (.v h1)⟩
 obtain ⟨n, hn, hz'⟩ := Option.bind_eq_some_iff.1 hz
 obtain rfl := Wy hz'
 have hv := aaK hR hx
 have := y9 hn w'
 simp only [execOp, ho, resolve, Sem.run_bind, Sem.run_pure, Result.andThen_ok, Act.eval, Deferred.ofValue, invoke]
 simpa [hv] using this
theorem Qq {P : Program} {src dst : TypeId} {x : Operand} {a z : Value} (hP : C.P = P) (hx : s.ev x = .one (.v a)) (hz : cv P src dst a = some z) (h1 : z.oneCell' = true) : Quiet C (.conv src dst x) s (.one (.v z)) := by
 subst hP; exact XA hx h1 hz
theorem GR {P : Program} {op : BinOp} {t : TypeId} {x y : Operand} {a b z : Value} (hP : C.P = P) (hx : s.ev x = .one (.v a)) (hy : s.ev y = .one (.v b)) (hz : bn P op t x y a b = some z) (h1 : z.oneCell' = true) : Quiet C (.bin op t x y) s (.one (.v z)) := by
 subst hP; exact Zy hx hy h1 hz
theorem Ed {P : Program} {b : Builtin} {ats : Array TypeId} {ty : TypeId} {cs : Array Bool} {xs : List Operand} {vs : List Value} {z : Value} (hP : C.P = P) (hx : xs.map s.ev = vs.map fun v => .one (.v v)) (hz : bu P b ats ty cs vs = some z) (h1 : z.oneCell' = true) : Quiet C (.bi b ats ty cs xs) s (.one (.v z)) := by
 subst hP
 obtain ⟨n, hn, hz'⟩ := Option.bind_eq_some_iff.1 hz
 obtain rfl := Wy hz'
 exact aay hx h1 hn
end
theorem bt {b w : Bool} (h : b = w) : (b == w) = true := by subst h; simp
theorem bt2 {c b w : Bool} (hc : c = true) (h : b = w) : (c && (b == w)) = true := by subst h; simp [hc]
theorem Does.ghost {C : Ctx} {i : VI} {d : Option Nat} {s s' : St} {k : Bool} {K' : St → Prop} (h : LeB s s') (hd : Does C i d s' k K') : Does C i d s k K' :=
 fun o ho h1 h2 β a w hR => let ⟨β', hR'⟩ := h C β a w hR; hd o ho h1 h2 β' a w hR'
theorem X_i {k : IntKind} {n : Int} {x : Option Value} (h : x.bind (int? k) = some n) : x = some (.int k n) := by
 obtain ⟨y, h1, h2⟩ := Option.bind_eq_some_iff.1 h
 rw [h1, aaJ h2]
theorem X_b {b : Bool} {x : Option Value} (h : x.bind bool? = some b) : x = some (.bool b) := by
 obtain ⟨y, h1, h2⟩ := Option.bind_eq_some_iff.1 h
 rw [h1, ZK h2]
theorem Ql {z' : Value} {x : Option Value} (h : x.bind one? = some z') : x = some z' := by
 obtain ⟨y, h1, h2⟩ := Option.bind_eq_some_iff.1 h
 obtain ⟨rfl, h3⟩ := Wx h2
 exact h1
theorem Qm {z' : Value} {x : Option Value} (h : x.bind one? = some z') : z'.oneCell' = true := by
 obtain ⟨y, h1, h2⟩ := Option.bind_eq_some_iff.1 h
 exact (Wx h2).2
end Go.V
set_option linter.unusedVariables false
set_option linter.unusedSimpArgs false
namespace Go.V
open Go.RowKit
theorem R.adopt {C : Ctx} {s : St} {β : Nat → Option Nat} {a : Act} {w w' : World} (hR : R C s β a w) (hk : Kept (fun _ => False) w w') {r b : Nat} (hf : s.fresh r = true) (hb0 : w.heap.size ≤ b) {cur : Array Value} {ety : TypeId} (hh : w'.heap[b]? = some (.cells cur ety (0, 0)))
  (g : Reg) (hp : ∀ t ∈ g.cs, t.isPure = true) (hl : g.cs.length ≤ cur.size) (hc : ∀ (j : Nat) (t : T), g.cs[j]? = some t → ∃ u, cur[j]? = some u ∧ Rep w' (fun b' => C.I s.st β w b' ∨ (w.heap.size ≤ b' ∧ b' < w'.heap.size ∧ b' ≠ b)) t u) :
  R C ⟨s.env, (r, g) :: s.st⟩ (fun q => if q = r then some b else β q) a w' := by
 have hnone := St.FW hf
 have hbl : b < w'.heap.size := (Array.getElem?_eq_some_iff.1 hh).1
 have hsome : ∀ q, (dH ((r, g) :: s.st) q).isSome = true → q = r ∨ (q ≠ r ∧ (dH s.st q).isSome = true) := by
  intro q hq
  by_cases h : q = r
  ·exact .inl h
  ·rw [kU _ _ (fun e => h e.symm)] at hq; exact .inr ⟨h, hq⟩
 have hheap : ∀ b, b < w.heap.size → w'.heap[b]? = w.heap[b]? := fun b hb => hk.block b hb (fun h => h)
 have hsz := hk.size
 have hI : ∀ b', C.I s.st β w b' → C.I ((r, g) :: s.st) (fun q => if q = r then some b else β q) w' b' := by
  intro b' hb
  have hlt := C.Hy hR.ok.kept hb
  rcases hb with h0 | ⟨h1, h2, h3⟩
  ·exact .inl h0
  ·refine .inr ⟨h1, by omega, fun q hq => ?_⟩
   rcases hsome q hq with rfl | ⟨hne, hq'⟩
   ·simp; omega
   ·simp only [hne, if_false]; exact h3 q hq'
 have hI2 : ∀ b', C.I s.st β w b' ∨ (w.heap.size ≤ b' ∧ b' < w'.heap.size ∧ b' ≠ b) → C.I ((r, g) :: s.st) (fun q => if q = r then some b else β q) w' b' := by
  rintro b' (h | ⟨h1, h2, h3⟩)
  ·exact hI b' h
  ·refine .inr ⟨.inr (by have := hR.ok.kept.size; omega), h2, fun q hq => ?_⟩
   rcases hsome q hq with rfl | ⟨hne, hq'⟩
   ·simp; omega
   ·simp only [hne, if_false]
    intro hb
    have := hR.ok.lt hq' hb
    omega
 have hx : TI (· = r) (C.I s.st β w) (C.I ((r, g) :: s.st) (fun q => if q = r then some b else β q) w') s.st ((r, g) :: s.st) β (fun q => if q = r then some b else β q) w w' := by
  refine ⟨hI, fun b hb => hheap b (C.Hy hR.ok.kept hb), fun q hq hs => ?_, fun q b hq hs hb c e hh => ?_⟩
  ·rcases hsome q hs with h | ⟨_, h⟩
   ·exact absurd h hq
   ·exact ⟨h, by simp [show ¬ q = r from hq]⟩
  ·rcases hsome q hs with h | ⟨_, h⟩
   ·exact absurd h hq
   ·exact ⟨c, (hheap b (hR.ok.lt h hb)).trans hh, rfl⟩
 refine hR.turn (N := (· = r)) ⟨?_, ?_, ?_, ?_, fun q b hq hf' => by
  rcases hsome q hq with rfl | ⟨hne, h⟩
  ·rw [C.fx q (St.HY hf)] at hf'; cases hf'
  ·simp only [hne, if_false]; exact hR.ok.yO q b h hf'⟩ hx ?_
 ·refine ⟨hk.os.trans hR.ok.kept.os, hk.tape.trans hR.ok.kept.tape, hk.output.trans hR.ok.kept.output, by have := hR.ok.kept.size; omega, fun b hb hE => (hheap b (by have := hR.ok.kept.size; omega)).trans (hR.ok.kept.block b hb hE), fun b c e hh => ?_⟩
  obtain ⟨c', h1, h2⟩ := hR.ok.kept.shape b c e hh
  exact ⟨c', (hheap b (Array.getElem?_eq_some_iff.1 h1).1).trans h1, h2⟩
 ·intro q g' hg
  by_cases hq : q = r
  ·subst hq
   rw [gU] at hg
   injection hg with hg
   subst hg
   refine ⟨fun _ t ht => hp t ht, ?_⟩
   simp only [if_true]
   refine ⟨cur, ety, hh, hl, fun j t hj => ?_⟩
   obtain ⟨u, h1, h2⟩ := hc j t hj
   exact ⟨u, h1, (Rep.mono (fun _ _ => rfl) hI2 h2).Ou⟩
  ·rw [kU _ _ (fun e => hq e.symm)] at hg
   have := hR.ok.store q g' hg
   refine ⟨this.1, ?_⟩
   have h2 := this.2
   simp only [hq, if_false]
   cases hb : β q with
   | none => rw [hb] at h2; exact h2
   | some b =>
    rw [hb] at h2
    obtain ⟨c, e, h3, h4, h5⟩ := h2
    refine ⟨c, e, (hheap b (hR.ok.lt (by rw [hg]; rfl) hb)).trans h3, h4, fun j t hj => ?_⟩
    obtain ⟨u, h6, h7⟩ := h5 j t hj
    exact ⟨u, h6, jc.DI hx (fun q' hq' => by subst hq'; exact St.Hz hf hR.ok hg (List.mem_of_getElem? hj)) h7⟩
 ·intro q q' b' hq hq' hb hb'
  rcases hsome q hq with rfl | ⟨hne, h⟩ <;> rcases hsome q' hq' with rfl | ⟨hne', h'⟩
  ·rfl
  ·simp only [if_true] at hb; simp only [hne', if_false] at hb'
   have := hR.ok.lt h' hb'
   injection hb with hb; omega
  ·simp only [if_true] at hb'; simp only [hne, if_false] at hb
   have := hR.ok.lt h hb
   injection hb' with hb'; omega
  ·simp only [hne, if_false] at hb; simp only [hne', if_false] at hb'
   exact hR.ok.inj q q' b' h h' hb hb'
 ·intro q b' hq hb
  rcases hsome q hq with rfl | ⟨hne, h⟩
  ·simp only [if_true] at hb; injection hb with hb
   have := hR.ok.kept.size
   exact .inr (by omega)
  ·simp only [hne, if_false] at hb
   exact hR.ok.uX q b' h hb
 ·rintro q rfl i
  exact St.Eh hf i
def OC (P : Program) (f : FuncId) (args : List S) (k e n : Nat) (cs : List T) : Prop := AC P f args [] (fun x st' => ∃ r0, x = .one (.own r0 0 n (some (k, e))) ∧ dH st' r0 = some ⟨true, cs⟩)
theorem Vj {C : Ctx} {s : St} {P : Program} {f : FuncId} {xs : List Operand} {ps : List S} {r k e n : Nat} {cs : List T} (hP : C.P = P) (hAC : OC P f ps k e n cs) (hx : xs.map (fun x => oZ EF (s.ev x)) = ps) (hp : S.isPure.DV ps = true) (hf : s.fresh r = true) :
  Does C (.call f xs) (some r) s true (· = (⟨s.env, (r, ⟨true, cs⟩) :: s.st⟩ : St).put (some r) (.one (.own r 0 n (some (k, e))))) := by
 subst hP
 intro o ho hd hn β a w hR next R' hK
 obtain ⟨args, ats, ho, rfl, hc⟩ := ho
 unfold Oper.wp
 rw [Ai ho hc, Oper.upon_enter]
 have h0 : ∀ b, C.I s.st β w b → b < w.heap.size ∧ ¬ False := fun b hb => ⟨C.Hy hR.ok.kept hb, fun h => h⟩
 refine (hAC w (fun _ => False) (C.I s.st β w) h0 (fun _ => none) (fun _ _ => rfl) (fun _ => none) (args.map a.eval) ⟨Kept.refl _ _, fun r g h => (by cases h), fun r r' b h => (by cases h), fun r b h => (by cases h), fun r b h => (by cases h)⟩ ?_ ?_).mono ?_
 ·subst hx; simp
 ·intro i x v h1 h2
  have h4 := h1
  subst hx
  rw [List.getElem?_map] at h1
  obtain ⟨y, hy, rfl⟩ := Option.map_eq_some_iff.1 h1
  have hv : v = a.eval y := by
   rw [Array.getElem?_map] at h2
   have hy' : args[i]? = some y := by simpa using hy
   rw [hy'] at h2
   simpa using h2.symm
  subst hv
  have h5 : iy w s.st β (C.I s.st β w) (oZ EF (s.ev y)) (a.eval y) := iy.map (fun t u h => by cases t <;> first | exact h | (cases h; exact .sl0 _ _)) (hR.ev y)
  exact iy.pure (I := C.I s.st β w) (fun b hb => .inl hb) h5 (S.xG hp h4)
 ·rintro e' w' ⟨v, x, st', β', rfl, hok, hrel, r0, rfl, hst⟩
  have hk : Kept (fun _ => False) w w' := hok.kept
  have hrs : (dH st' r0).isSome = true := by rw [hst]; rfl
  have ED := hok.store r0 _ hst
  have hown := hrel.t hrs
  unfold sQ at hown
  obtain ⟨hpc, ED⟩ := ED
  cases hb : β' r0 with
  | none =>
   rw [hb] at ED hown
   obtain ⟨rfl, rfl⟩ := hown
   replace ED : cs = [] := ED
   subst ED
   obtain ⟨hR', _⟩ := hR.later hk
   have h1 := hR'.acr hf
   refine hK _ (fun q => if q = r then none else β q) (a.put o.dst _) w' rfl ?_ (fun _ => hk)
   rw [hd]
   refine h1.rQ (.one fun _ => ?_) hn
   simp only [if_true]
   exact ⟨rfl, rfl⟩
  | some b =>
   rw [hb] at ED hown
   obtain ⟨A, cap, cur, ety, rfl, hh, hA, hn', hap⟩ := hown
   obtain ⟨cur', aaz, hh', hl, hcl⟩ := ED
   rw [hh] at hh'; injection hh' with hh'; injection hh' with hh' _; subst hh'
   have hb0 : w.heap.size ≤ b := by
    rcases hok.uX r0 b hrs hb with h | h
    ·exact h.elim
    ·exact h
   have h1 := hR.adopt hk hf hb0 hh ⟨true, cs⟩ (hpc rfl) hl (fun j t hj => by
    obtain ⟨u, h2, h3⟩ := hcl j t hj
    refine ⟨u, h2, Rep.mono (fun _ _ => rfl) (fun b' hb' => ?_) (T.yI (hpc rfl t (List.mem_of_getElem? hj)) w' st' β' _ u h3)⟩
    rcases hb' with h4 | ⟨h4 | h4, h5, h6⟩
    ·exact .inl h4
    ·exact h4.elim
    ·exact .inr ⟨h4, h5, fun e => h6 r0 hrs (by rw [hb, e])⟩)
   refine hK _ (fun q => if q = r then some b else β q) (a.put o.dst _) w' rfl ?_ (fun _ => hk)
   rw [hd]
   refine h1.rQ (.one fun _ => ?_) hn
   simp only [if_true]
   exact ⟨A, cap, cur, ety, rfl, hh, hA, hn', hap⟩
theorem Rep.take {w : World} {I : Nat → Prop} {cs : List T} {n : Nat} {u : Value} (m : Nat) (h : Rep w I (.sl cs n) u) : Rep w I (.sl (cs.take m) n) u := by
 cases h with
 | sl0 A cap => rw [List.take_nil]; exact .sl0 _ _
 | sl us hI hc hr hn =>
  have key : ∀ j t, (cs.take m)[j]? = some t → cs[j]? = some t := fun j t hj => by
   have hlt : j < m := by have := (List.getElem?_eq_some_iff.1 hj).1; simp at this; omega
   rwa [List.getElem?_take_of_lt hlt] at hj
  exact .sl us hI (fun j t hj => hc j t (key j t hj)) (fun j t hj => hr j t (key j t hj)) hn
theorem Zl {P : Program} {f : FuncId} {cs : List T} {n m : Nat} {X : S} (h : PC P f [S.one (.sl (cs.take m) n)] X) : PC P f [S.one (.sl cs n)] X := by
 intro w E I0 i0 fix fx β vs C hok hsz hrel
 refine h w E I0 i0 fix fx β vs hok hsz fun i x v hx hv => ?_
 cases i with
 | zero =>
  simp only [List.getElem?_cons_zero, Option.some.injEq] at hx
  subst hx
  have := hrel 0 _ v rfl hv
  exact .one (Rep.take m this.t)
 | succ i => simp at hx
theorem Oy {P : Program} (m : Nat) {t e : TypeId} (hu : P.underlying t = some (.slice e)) (A : Option Addr) (n c : Nat) (w : World) : (Op.equalIn (m + 1) t (.slice A n c) (.slice none 0 0)).run P w = .ok A.isNone w := by
 cases A <;> simp [Op.equalIn, run_underlying hu]
theorem Vh {C : Ctx} {s : St} {d : Option Nat} {t : TypeId} {e : TypeId} {x y : Operand} {cs : List T} {n : Nat} (hu : C.P.underlying t = some (.slice e)) (hx : s.ev x = .one (.sl cs n)) (hy : s.ev y = .one .nil) :
  Does C (.bin .eql t x y) d s true (fun s' => ∃ b : Bool, s' = s.put d (.one (.v (.bool b))) ∧ (b = true → n = 0)) := by
 intro o ho hd hn β a w hR next Q hK
 obtain ⟨t', ho⟩ := ho
 have h1 := (hx ▸ hR.ev x).t
 have h2 := (hy ▸ hR.ev y).t
 generalize hv : a.eval x = v at h1
 generalize hv2 : a.eval y = v2 at h2
 cases h2
 obtain ⟨A, cap, rfl⟩ : ∃ A cap, v = .slice A n cap := by
  cases h1 with
  | sl0 A cap => exact ⟨_, _, rfl⟩
  | sl us hI hc hr hn => exact ⟨_, _, rfl⟩
 have hgd : ∀ w, (eqGuard .eql t x y (.slice A n cap) (.slice none 0 0)).run C.P w = .ok () w := by intro w; unfold eqGuard; simp
 have hrun : (execOp a.eval o).run C.P w = .ok (.value (.bool A.isNone)) w := by
  have he : (Op.equal t (.slice A n cap) (.slice none 0 0)).run C.P w = .ok A.isNone w := Oy 9999 hu A n cap w
  simp [execOp, ho, hv, hv2, hgd, binOp, he]
 have hrun : ∃ b : Bool, (execOp a.eval o).run C.P w = .ok (.value (.bool b)) w ∧ (b = true → n = 0) := ⟨_, hrun, fun h => by
  cases h1 with
  | sl0 A cap => rfl
  | sl us hI hc hr hn => cases h⟩
 obtain ⟨b, h3, h4⟩ := hrun
 unfold Oper.wp
 rw [h3]
 show next (a.put o.dst _) w
 rw [hd]
 exact hK _ β _ w ⟨b, rfl, h4⟩ (hR.rQ (.one (.v rfl)) hn) (fun _ => Kept.refl _ _)
end Go.V
set_option linter.unusedVariables false
set_option linter.unusedSimpArgs false
namespace Go.V
open Go.RowKit
def gV (st : Store) (r : Nat) : Bool := (dH st r).isSome
def rest (st : Store) (l : Store) : Store := match l with
 | [] => []
 | (q, g) :: l => bif gV st q then rest st l else (q, g) :: rest st l
theorem En (st : Store) : ∀ (l : Store) (q : Nat), dH (rest st l) q = bif gV st q then none else dH l q
 | [], q => by simp [rest, dH]
 | (k, g) :: l, q => by
  simp only [rest]
  cases hk : gV st k with
  | true =>
   simp only [cond_true, En st l q]
   cases hq : gV st q with
   | true => rfl
   | false =>
    have : (k == q) = false := by
     cases hb : k == q with
     | false => rfl
     | true => have := eq_of_beq hb; subst this; rw [hk] at hq; cases hq
    simp only [cond_false, dH, this]
  | false =>
   simp only [cond_false, dH, En st l q]
   cases hb : k == q with
   | true => have := eq_of_beq hb; subst this; rw [hk]; rfl
   | false => rfl
theorem zl : ∀ (a b : Store) (q : Nat), dH (a ++ b) q = bif gV a q then dH a q else dH b q
 | [], b, q => by simp [gV, dH]
 | (k, g) :: a, b, q => by
  simp only [List.cons_append, dH, gV]
  cases hb : k == q with
  | true => rfl
  | false => exact zl a b q
def ae6 (st : Store) : T → T
 | .own r off n ap => bif gV st r then .dead else .own r off n ap
 | .ptr r off => bif gV st r && Nat.blt r 100000 then .dead else .ptr r off
 | t => t
def afa (st : Store) : T → Bool
 | .own r _ _ _ => !(gV st r)
 | .ptr r _ => !(gV st r && Nat.blt r 100000)
 | _ => true
def inT (st : Store) : T → Bool
 | .own r _ _ _ => gV st r
 | .ptr r _ => gV st r
 | _ => true
attribute [simp] gV rest ae6
end Go.V
set_option linter.unusedVariables false
set_option linter.unusedSimpArgs false
namespace Go.V
open Go.RowKit
def rn (l : List (Nat × Nat)) (r : Nat) : Nat := match l with
 | [] => r
 | (a, b) :: l => bif a == r then b else rn l r
def IX (m : List (Nat × Nat)) : T → T
 | .own r off n ap => .own (rn m r) off n ap
 | .ptr r off => .ptr (rn m r) off
 | t => t
def renG (m : List (Nat × Nat)) (g : Reg) : Reg := bif g.pure then g else ⟨false, g.cs.map (IX m)⟩
def nY (m : List (Nat × Nat)) : Store → Store
 | [] => []
 | (r, g) :: l => (rn m r, renG m g) :: nY m l
def uV (m : List (Nat × Nat)) (q : Nat) : Store → Option Nat
 | [] => none
 | (r, _) :: l => bif rn m r == q then some r else uV m q l
theorem o8 {m : List (Nat × Nat)} {q r : Nat} : ∀ {st : Store}, uV m q st = some r → gV st r = true ∧ rn m r = q
 | [], h => by cases h
 | (k, g) :: l, h => by
  simp only [uV] at h
  cases hb : rn m k == q with
  | true =>
   rw [hb, cond_true] at h
   injection h with h
   subst h
   exact ⟨by simp [gV, dH], eq_of_beq hb⟩
  | false =>
   rw [hb, cond_false] at h
   obtain ⟨h1, h2⟩ := o8 h
   refine ⟨?_, h2⟩
   simp only [gV, dH]
   cases k == r
   ·exact h1
   ·rfl
theorem vW {m : List (Nat × Nat)} {q : Nat} : ∀ {st : Store}, uV m q st = none → ∀ r, gV st r = true → rn m r ≠ q
 | [], h, r, hr => by cases hr
 | (k, g) :: l, h, r, hr => by
  simp only [uV] at h
  cases hb : rn m k == q with
  | true => rw [hb, cond_true] at h; cases h
  | false =>
   rw [hb, cond_false] at h
   simp only [gV, dH] at hr
   cases hk : k == r with
   | true =>
    have := eq_of_beq hk
    subst this
    intro e
    rw [e, beq_self_eq_true] at hb
    cases hb
   | false => rw [hk] at hr; exact vW h r hr
theorem yK {m : List (Nat × Nat)} {q : Nat} : ∀ (st : Store), dH (nY m st) q = match uV m q st with
  | some r => (dH st r).map (renG m)
  | none => none
 | [] => rfl
 | (k, g) :: l => by
  simp only [nY, dH, uV]
  cases hb : rn m k == q with
  | true => simp [beq_self_eq_true]
  | false =>
   simp only [cond_false]
   rw [yK l]
   cases hs : uV m q l with
   | none => rfl
   | some r =>
    simp only
    have h2 := (o8 hs).2
    have : (k == r) = false := by
     cases hk : k == r with
     | false => rfl
     | true =>
      have := eq_of_beq hk
      subst this
      rw [h2, beq_self_eq_true] at hb
      cases hb
    rw [this]
    rfl
def XH (m : List (Nat × Nat)) (st : Store) : Bool := st.all fun p => st.all fun q => !(rn m p.1 == rn m q.1) || p.1 == q.1
theorem IY {st : Store} {r : Nat} (h : gV st r = true) : ∃ g, (r, g) ∈ st := by
 obtain ⟨g, hg⟩ := Option.isSome_iff_exists.1 h
 exact ⟨g, wI hg⟩
theorem Ud {m : List (Nat × Nat)} {st : Store} (h : XH m st = true) {a b : Nat} (ha : gV st a = true) (hb : gV st b = true) (he : rn m a = rn m b) : a = b := by
 obtain ⟨g, hg⟩ := IY ha
 obtain ⟨g', hg'⟩ := IY hb
 have := List.all_eq_true.1 (List.all_eq_true.1 h _ hg) _ hg'
 simp only [he, beq_self_eq_true, Bool.not_true, Bool.false_or] at this
 exact eq_of_beq this
theorem XI {m : List (Nat × Nat)} {st : Store} {l : Store} (h : l9 l (nY m st)) (hi : XH m st = true) {r : Nat} {g : Reg} (hg : dH st r = some g) : dH l (rn m r) = some (renG m g) := by
 have hr : gV st r = true := by simp [gV, hg]
 refine H9 h _ _ ?_
 rw [yK]
 cases hs : uV m (rn m r) st with
 | none => exact absurd rfl (vW hs r hr)
 | some q =>
  obtain ⟨h1, h2⟩ := o8 hs
  have := Ud hi h1 hr h2
  subst this
  simp [hg]
theorem Ib (a b : Store) (q : Nat) : gV (a ++ b) q = (gV a q || gV b q) := by
 simp only [gV, zl]
 cases h : (dH a q).isSome <;> simp [h]
def anch (m : List (Nat × Nat)) (st st' : Store) (q : Nat) : Bool := match uV m q st' with
 | some r => !(Nat.blt r 100000) && gV st r
 | none => false
def Oz (m : List (Nat × Nat)) (st st' : Store) : T → T
 | .own r off n ap => bif gV (nY m st) r && !(anch m st st' r) then .dead else .own r off n ap
 | .ptr r off => bif gV (nY m st) r && !(anch m st st' r) then .dead else .ptr r off
 | t => t
def Pm (m : List (Nat × Nat)) (st st' : Store) : T → Bool
 | .own r _ _ _ => !(gV (nY m st) r && !(anch m st st' r))
 | .ptr r _ => !(gV (nY m st) r && !(anch m st st' r))
 | _ => true
theorem XJ {m : List (Nat × Nat)} {st st' : Store} {t : T} (h : Pm m st st' t = true) : Oz m st st' t = t := by
 cases t <;> simp only [Oz, Pm, Bool.not_eq_true'] at h ⊢ <;> simp only [h, cond_false]
def QX (p : T → Bool) : S → Bool
 | .one t => p t
 | .agg ts => ts.all p
 | .tup l => allL p l
where allL (p : T → Bool) : List S → Bool
 | [] => true
 | s :: l => QX p s && allL p l
theorem ZL {p : T → Bool} {l : List S} (h : QX.allL p l = true) {i : Nat} {s : S} (hi : l[i]? = some s) : QX p s = true := by
 induction l generalizing i with
 | nil => simp at hi
 | cons x l ih =>
  simp only [QX.allL, Bool.and_eq_true] at h
  cases i with
  | zero => simp at hi; subst hi; exact h.1
  | succ i => exact ih h.2 (by simpa using hi)
theorem iy.adr {w w' : World} {st st' : Store} {β β' : Nat → Option Nat} {I I' : Nat → Prop} {f : T → T} {p : T → Bool} (hf : ∀ t u, p t = true → jc w st β I t u → jc w' st' β' I' (f t) u) {s : S} {u : Value} (h : iy w st β I s u) (hp : QX p s = true) : iy w' st' β' I' (oZ f s) u := by
 induction h with
 | one h => exact .one (hf _ _ hp h)
 | agg hs h =>
  refine .agg (by simpa using hs) fun i t u h1 h2 => ?_
  rw [List.getElem?_map] at h1
  obtain ⟨t', h3, rfl⟩ := Option.map_eq_some_iff.1 h1
  exact hf _ _ (List.all_eq_true.1 hp _ (List.mem_of_getElem? h3)) (h i t' u h3 h2)
 | tup hs h ih =>
  refine .tup (by rw [DZ]; exact hs) fun i s u h1 h2 => ?_
  rw [DY] at h1
  obtain ⟨s', h3, rfl⟩ := Option.map_eq_some_iff.1 h1
  exact ih i s' u h3 h2 (ZL hp h3)
theorem iy.acB {N : Nat → Prop} {w w' : World} {st st' : Store} {β β' : Nat → Option Nat} {I I' : Nat → Prop} {f : T → T} (hf : ∀ t u, (∀ r, N r → t.has r = false) → jc w st β I t u → jc w' st' β' I' (f t) u) {s : S} {u : Value} (hN : ∀ r, N r → s.has r = false) (h : iy w st β I s u) : iy w' st' β' I' (oZ f s) u := by
 induction h with
 | one h => exact .one (hf _ _ hN h)
 | agg hs h =>
  refine .agg (by simpa using hs) fun i t u h1 h2 => ?_
  rw [List.getElem?_map] at h1
  obtain ⟨t', h3, rfl⟩ := Option.map_eq_some_iff.1 h1
  refine hf _ _ (fun r hr => ?_) (h i t' u h3 h2)
  have := hN r hr
  simp only [S.has, List.any_eq_false] at this
  simpa using this t' (List.mem_of_getElem? h3)
 | tup hs h ih =>
  refine .tup (by rw [DZ]; exact hs) fun i s u h1 h2 => ?_
  rw [DY] at h1
  obtain ⟨s', h3, rfl⟩ := Option.map_eq_some_iff.1 h1
  exact ih i s' u h3 h2 (fun r hr => S.Nq (hN r hr) h3)
theorem iy.unmap {w w' : World} {st st' : Store} {β β' : Nat → Option Nat} {I I' : Nat → Prop} {f : T → T} (hf : ∀ t u, jc w st β I (f t) u → jc w' st' β' I' t u) {s : S} {u : Value} (h : iy w st β I (oZ f s) u) : iy w' st' β' I' s u := by
 generalize hy : oZ f s = y at h
 induction h generalizing s with
 | one h =>
  cases s with
  | one t => simp only [oZ, S.one.injEq] at hy; subst hy; exact .one (hf _ _ h)
  | agg ts => simp [oZ] at hy
  | tup l => simp [oZ] at hy
 | agg hs h =>
  cases s with
  | one t => simp [oZ] at hy
  | agg ts =>
   simp only [oZ, S.agg.injEq] at hy
   subst hy
   refine .agg (by simpa using hs) fun i t u h1 h2 => hf _ _ (h i (f t) u (by rw [List.getElem?_map, h1]; rfl) h2)
  | tup l => simp [oZ] at hy
 | tup hs h ih =>
  cases s with
  | one t => simp [oZ] at hy
  | agg ts => simp [oZ] at hy
  | tup l =>
   simp only [oZ, S.tup.injEq] at hy
   subst hy
   rw [DZ] at hs
   exact .tup hs fun i s u h1 h2 => ih i (oZ f s) u (by rw [DY, h1]; rfl) h2 rfl
theorem XL {m : List (Nat × Nat)} {t : T} (h : t.isPure = true) : IX m t = t := by cases t <;> first | rfl | cases h
theorem WA {m : List (Nat × Nat)} {g : Reg} (hp : g.pure = true → ∀ t ∈ g.cs, t.isPure = true) : (renG m g).cs = g.cs.map (IX m) := by
 unfold renG
 cases h : g.pure with
 | true =>
  simp only [cond_true]
  have h1 := hp h
  exact ((List.map_congr_left (g := id) fun t ht => XL (h1 t ht)).trans (List.map_id _)).symm
 | false => rfl
def XM (s : St) (m : List (Nat × Nat)) (st : Store) : Store → Bool
 | [] => true
 | (r, _) :: l => (gV st r || s.fresh (rn m r)) && XM s m st l
theorem Ic {s : St} {m : List (Nat × Nat)} {st : Store} : ∀ {st' : Store}, XM s m st st' = true → ∀ r, gV st' r = true → gV st r = false → s.fresh (rn m r) = true
 | [], h, r, hr, hn => by cases hr
 | (k, g) :: l, h, r, hr, hn => by
  simp only [XM, Bool.and_eq_true, Bool.or_eq_true] at h
  simp only [gV, dH] at hr
  cases hk : k == r with
  | true =>
   have := eq_of_beq hk
   subst this
   rcases h.1 with h1 | h1
   ·rw [hn] at h1; cases h1
   ·exact h1
  | false => rw [hk] at hr; exact Ic h.2 r hr hn
theorem VJ {C : Ctx} {s : St} {d : Option Nat} {P : Program} {f : FuncId} {xs : List Operand} {args : List S} {st st' : Store} {X : S} (m : List (Nat × Nat)) (k : Bool) (hP : C.P = P) (hAC : AC P f args st (fun x s' => x = X ∧ ∀ r g, dH st' r = some g → dH s' r = some g))
  (hx : xs.map (fun x => oZ EF (s.ev x)) = args.map (oZ (IX m))) (hst : l9 s.st (nY m st)) (hinj : XH m (st ++ st') = true) (hcl : st'.all (fun p => p.2.pure || p.2.cs.all (inT st')) = true) (hnew : XM s m st st' = true)
  (hrest : (rest (nY m st) s.st).all (fun p => p.2.pure || p.2.cs.all (Pm m st st')) = true) (hX : QX (inT st') X = true) (hk0 : k = true → st = []) (hfix : st.all (fun p => Nat.blt (rn m p.1) 100000 || !(Nat.blt p.1 100000)) = true) :
  Does C (.call f xs) d s k (· = (⟨IU (Oz m st st') s.env, nY m st' ++ rest (nY m st) s.st⟩ : St).put d (oZ (IX m) X)) := by
 subst hP
 intro o ho hd hn β a w hR next R' hK
 obtain ⟨aa0, ats, ho, rfl, hc⟩ := ho
 unfold Oper.wp
 rw [Ai ho hc, Oper.upon_enter]
 have Ue : ∀ a b, (gV st a = true ∨ gV st' a = true) → (gV st b = true ∨ gV st' b = true) → rn m a = rn m b → a = b := fun a b ha hb he =>
  Ud hinj (by rw [Ib]; rcases ha with h | h <;> rw [h] <;> simp only [Bool.true_or, Bool.or_true]) (by rw [Ib]; rcases hb with h | h <;> rw [h] <;> simp only [Bool.true_or, Bool.or_true]) he
 have ads : XH m st = true := by
  refine List.all_eq_true.2 fun p hp => List.all_eq_true.2 fun q hq => ?_
  exact List.all_eq_true.1 (List.all_eq_true.1 hinj p (List.mem_append_left _ hp)) q (List.mem_append_left _ hq)
 have hsub : ∀ r g, dH st r = some g → dH s.st (rn m r) = some (renG m g) := fun r g hg => XI hst ads hg
 have EY : ∀ r, gV st r = true → (dH s.st (rn m r)).isSome = true := fun r hr => by
  obtain ⟨g, hg⟩ := Option.isSome_iff_exists.1 hr
  rw [hsub r g hg]; rfl
 have ZM : ∀ q, gV (nY m st) q = true ↔ ∃ r, gV st r = true ∧ rn m r = q := by
  intro q
  simp only [gV, yK]
  cases hs : uV m q st with
  | none => exact ⟨fun h => (by cases h), fun ⟨r, hr, e⟩ => absurd e (vW hs r hr)⟩
  | some r =>
   obtain ⟨h1, h2⟩ := o8 hs
   refine ⟨fun _ => ⟨r, h1, h2⟩, fun _ => ?_⟩
   obtain ⟨g, hg⟩ := Option.isSome_iff_exists.1 h1
   simp [hg]
 let E : Nat → Prop := fun b => ∃ r, gV st r = true ∧ β (rn m r) = some b
 let βc : Nat → Option Nat := fun r => β (rn m r)
 let fix : Nat → Option (Option Nat) := fun r => bif Nat.blt r 100000 then none else (bif gV st r then some (βc r) else none)
 have fx : ∀ r, Nat.blt r 100000 = true → fix r = none := fun r hr => by simp only [fix, hr, cond_true]
 have h0 : ∀ b, C.I s.st β w b → b < w.heap.size ∧ ¬ E b := fun b hb => ⟨C.Hy hR.ok.kept hb, fun ⟨r, hr, hrb⟩ => hR.ok.ac6 (EY r hr) hrb hb⟩
 let Cc : Ctx := ⟨C.P, 0, E, w, C.I s.st β w, h0, fix, fx⟩
 have hIn : ∀ b, C.I s.st β w b → Cc.I st βc w b := fun b h => .inl h
 have adt : ∀ t u, jc w s.st β (C.I s.st β w) (IX m t) u → jc w st βc (Cc.I st βc w) t u := by
  intro t u h
  cases t with
  | v x => exact Rep.mono (fun _ _ => rfl) hIn h
  | nil => exact Rep.mono (fun _ _ => rfl) hIn h
  | sl cs n => exact Rep.mono (fun _ _ => rfl) hIn h
  | clo f cs => exact Rep.mono (fun _ _ => rfl) hIn h
  | dead => trivial
  | uO b m => exact ⟨hIn _ h.1, h.2⟩
  | psl cs off =>
   obtain ⟨b, o, us, h1, h2, h3, h4⟩ := h
   exact ⟨b, o, us, hIn _ h1, h2, h3, fun j t hj => Rep.mono (fun _ _ => rfl) hIn (h4 j t hj)⟩
  | own r off n ap => intro hr; exact h (EY r hr)
  | ptr r off => intro hr; exact h (EY r hr)
 refine (hAC w E (C.I s.st β w) h0 fix fx βc (aa0.map a.eval) ⟨Kept.refl _ _, fun r g hg => ?_, fun r r' b hr hr' hb hb' => ?_, fun r b hr hb => .inl ⟨r, hr, hb⟩, fun r b hr hf => ?_⟩ ?_ ?_).mono ?_
 ·have h1 := hR.ok.store (rn m r) _ (hsub r g hg)
  have hp : g.pure = true → ∀ t ∈ g.cs, t.isPure = true := fun hp t ht => by
   have h3 := h1.1
   unfold renG at h3
   rw [hp] at h3
   exact h3 hp t ht
  refine ⟨hp, ?_⟩
  have h2 := h1.2
  have hcs := WA (m := m) hp
  show match β (rn m r) with | none => g.cs = [] | some b => _
  cases hb : β (rn m r) with
  | none => rw [hb] at h2; replace h2 : (renG m g).cs = [] := h2; rw [hcs] at h2; simpa using h2
  | some b =>
   rw [hb] at h2
   obtain ⟨cur, ety, h3, h4, h5⟩ := h2
   rw [hcs] at h4
   refine ⟨cur, ety, h3, by simpa using h4, fun j t hj => ?_⟩
   obtain ⟨u, h6, h7⟩ := h5 j (IX m t) (by rw [hcs, List.getElem?_map, hj]; rfl)
   exact ⟨u, h6, adt t u h7⟩
 ·exact Ue r r' (.inl hr) (.inl hr') (hR.ok.inj _ _ b (EY r hr) (EY r' hr') hb hb')
 ·simp only [fix] at hf
  cases h1 : Nat.blt r 100000 with
  | true => rw [h1] at hf; cases hf
  | false =>
   rw [h1, cond_false] at hf
   have hr' : gV st r = true := hr
   rw [hr', cond_true] at hf
   injection hf
 ·have := congrArg List.length hx
  simpa using this
 ·intro i x v h1 h2
  have h3 : (args.map (oZ (IX m)))[i]? = some (oZ (IX m) x) := by rw [List.getElem?_map, h1]; rfl
  rw [← hx, List.getElem?_map] at h3
  obtain ⟨y, hy, hyx⟩ := Option.map_eq_some_iff.1 h3
  have hv : v = a.eval y := by
   rw [Array.getElem?_map] at h2
   have hy' : aa0[i]? = some y := by simpa using hy
   rw [hy'] at h2
   simpa using h2.symm
  subst hv
  have h5 : iy w s.st β (C.I s.st β w) (oZ EF (s.ev y)) (a.eval y) := iy.map (fun t u h => by cases t <;> first | exact h | (cases h; exact .sl0 _ _)) (hR.ev y)
  rw [hyx] at h5
  exact iy.unmap adt h5
 ·rintro e w' ⟨v, x, s'', β'', rfl, hok, hrel, rfl, hle⟩
  have hk : Kept E w w' := hok.kept
  have NS : ∀ r, gV st' r = true → (dH s'' r).isSome = true := fun r hr => by
   obtain ⟨g, hg⟩ := Option.isSome_iff_exists.1 hr
   rw [hle r g hg]; rfl
  have hEw : ∀ b, E b → C.E b ∨ C.w0.heap.size ≤ b := fun b ⟨r, hr, hb⟩ => hR.ok.uX (rn m r) b (EY r hr) hb
  have hsz := hk.size
  have hsz0 := hR.ok.kept.size
  let β2 : Nat → Option Nat := fun q => match uV m q st' with | some r => β'' r | none => β q
  let S2 : Store := nY m st' ++ rest (nY m st) s.st
  have hβ2 : ∀ r, gV st' r = true → β2 (rn m r) = β'' r := by
   intro r hr
   simp only [β2]
   cases hs : uV m (rn m r) st' with
   | none => exact absurd rfl (vW hs r hr)
   | some q =>
    obtain ⟨h1, h2⟩ := o8 hs
    have := Ue q r (.inr h1) (.inr hr) h2
    subst this
    rfl
  have ae7 : ∀ r, gV st' r = true → dH S2 (rn m r) = (dH st' r).map (renG m) := by
   intro r hr
   have h1 : dH (nY m st') (rn m r) = (dH st' r).map (renG m) := by
    rw [yK]
    cases hs : uV m (rn m r) st' with
    | none => exact absurd rfl (vW hs r hr)
    | some q =>
     obtain ⟨h1, h2⟩ := o8 hs
     have := Ue q r (.inr h1) (.inr hr) h2
     subst this
     rfl
   obtain ⟨g, hg⟩ := Option.isSome_iff_exists.1 hr
   simp only [S2, zl, gV, h1, hg, Option.map_some, Option.isSome_some, cond_true]
  have adu : ∀ q, (∀ r, gV st' r = true → rn m r ≠ q) → dH S2 q = bif gV (nY m st) q then none else dH s.st q := by
   intro q hq
   have h1 : gV (nY m st') q = false := by
    simp only [gV, yK]
    cases hs : uV m q st' with
    | none => rfl
    | some r => obtain ⟨h1, h2⟩ := o8 hs; exact absurd h2 (hq r h1)
   simp only [S2, zl, h1, cond_false, En]
  have hcase : ∀ q, (dH S2 q).isSome = true → (∃ r, gV st' r = true ∧ rn m r = q ∧ β2 q = β'' r) ∨ ((∀ r, gV st' r = true → rn m r ≠ q) ∧ gV (nY m st) q = false ∧ (dH s.st q).isSome = true ∧ β2 q = β q) := by
   intro q hq
   cases hs : uV m q st' with
   | some r =>
    obtain ⟨h1, rfl⟩ := o8 hs
    exact .inl ⟨r, h1, rfl, hβ2 r h1⟩
   | none =>
    have h1 := vW hs
    rw [adu q h1] at hq
    cases h2 : gV (nY m st) q with
    | true => rw [h2] at hq; cases hq
    | false => rw [h2, cond_false] at hq; exact .inr ⟨h1, rfl, hq, by simp only [β2, hs]⟩
  have hnE : ∀ q b, gV (nY m st) q = false → (dH s.st q).isSome = true → β q = some b → ¬ E b := fun q b hq hs hb ⟨r, hr, hrb⟩ => by
   have := hR.ok.inj q (rn m r) b hs (EY r hr) hb hrb
   have h2 := (ZM q).2 ⟨r, hr, this.symm⟩
   rw [hq] at h2; cases h2
  have hblk : ∀ q b, gV (nY m st) q = false → (dH s.st q).isSome = true → β q = some b → w'.heap[b]? = w.heap[b]? := fun q b hq hs hb => hk.block b (hR.ok.lt hs hb) (hnE q b hq hs hb)
  have ZN : ∀ r q' b, gV st' r = true → β'' r = some b → gV (nY m st) q' = false → (dH s.st q').isSome = true → β q' = some b → False := by
   intro r q' b hq hb hq' hs hb'
   rcases hok.uX r b (NS r hq) hb with h | h
   ·exact hnE q' b hq' hs hb' h
   ·have := hR.ok.lt hs hb'
    replace h : w.heap.size ≤ b := h
    omega
  have hI1 : ∀ b, C.I s.st β w b → C.I S2 β2 w' b := by
   intro b hb
   have hlt := (h0 b hb).1
   have hne := (h0 b hb).2
   rcases hb with h | ⟨h1, h2, h3⟩
   ·exact .inl h
   ·refine .inr ⟨h1, by omega, fun q hq => ?_⟩
    rcases hcase q hq with ⟨r, hq1, _, hq2⟩ | ⟨_, hq2, hq3, hq4⟩
    ·rw [hq2]
     intro hqb
     rcases hok.uX r b (NS r hq1) hqb with h | h
     ·exact hne h
     ·replace h : w.heap.size ≤ b := h
      omega
    ·rw [hq4]; exact h3 q hq3
  have hI2 : ∀ b, Cc.I s'' β'' w' b → C.I S2 β2 w' b := by
   rintro b (h | ⟨h1, h2, h3⟩)
   ·exact hI1 b h
   ·replace h1 : E b ∨ w.heap.size ≤ b := h1
    refine .inr ⟨?_, h2, fun q hq => ?_⟩
    ·rcases h1 with h1 | h1
     ·exact hEw b h1
     ·exact .inr (by omega)
    ·rcases hcase q hq with ⟨r, hq1, _, hq2⟩ | ⟨_, hq2, hq3, hq4⟩
     ·rw [hq2]; exact h3 r (NS r hq1)
     ·rw [hq4]
      intro hqb
      rcases h1 with h1 | h1
      ·exact hnE q b hq2 hq3 hqb h1
      ·have := hR.ok.lt hq3 hqb
       omega
  have hcells : ∀ a : Addr, C.I s.st β w a.block → w'.cell? a = w.cell? a := fun a ha => cell_of_heap (hk.block a.block (h0 _ ha).1 (h0 _ ha).2)
  have hf : ∀ t u, (∀ r, gV st' r = true → gV st r = false → t.has (rn m r) = false) → jc w s.st β (C.I s.st β w) t u → jc w' S2 β2 (C.I S2 β2 w') (Oz m st st' t) u := by
   intro t u hfr h
   cases t with
   | v x => exact Rep.mono hcells hI1 h
   | nil => exact Rep.mono hcells hI1 h
   | sl cs n => exact Rep.mono hcells hI1 h
   | clo f cs => exact Rep.mono hcells hI1 h
   | dead => trivial
   | uO b m => obtain ⟨h1, es, c, h2, h3⟩ := h; exact ⟨hI1 _ h1, es, c, (hk.block b (h0 _ h1).1 (h0 _ h1).2).trans h2, h3⟩
   | psl cs off =>
    obtain ⟨b, o, us, h1, h2, h3, h4⟩ := h
    exact ⟨b, o, us, hI1 _ h1, h2, fun j t hj => (hcells ⟨b, o + j, none⟩ h1).trans (h3 j t hj), fun j t hj => Rep.mono hcells hI1 (h4 j t hj)⟩
   | own q off n ap =>
    simp only [Oz]
    cases hm : (gV (nY m st) q && !(anch m st st' q)) with
    | true => trivial
    | false =>
     intro hs
     rcases hcase q hs with ⟨r, hq1, rfl, hq2⟩ | ⟨_, hr, hq3, hq4⟩
     ·cases Kt : gV st r with
      | false => have := hfr r hq1 Kt; simp [T.has] at this
      | true =>
       rw [(ZM _).2 ⟨r, Kt, rfl⟩, Bool.true_and] at hm
       have ha : anch m st st' (rn m r) = true := by simpa using hm
       have h2 := h (EY r Kt)
       rw [hq2]
       have hbeq : β'' r = β (rn m r) := by
        unfold anch at ha
        cases hs2 : uV m (rn m r) st' with
        | none => rw [hs2] at ha; cases ha
        | some q2 =>
         obtain ⟨h3, h4⟩ := o8 hs2
         have := Ue q2 r (.inr h3) (.inr hq1) h4
         subst this
         rw [hs2] at ha
         simp only [Bool.and_eq_true, Bool.not_eq_true'] at ha
         exact hok.yO q2 _ (NS q2 hq1) (by show fix q2 = some (β (rn m q2)); simp only [fix, ha.1, cond_false, ha.2, cond_true]; rfl)
       rw [hbeq]
       unfold sQ at h2 ⊢
       cases hb : β (rn m r) with
       | none => rw [hb] at h2; exact h2
       | some b =>
        rw [hb] at h2
        obtain ⟨A, cap, cur, ety, e1, hh, hA, hn2, hap⟩ := h2
        obtain ⟨cur', h5, h6⟩ := hk.shape b cur ety hh
        refine ⟨A, cap, cur', ety, e1, h5, hA, hn2, fun k e hk => ?_⟩
        obtain ⟨a1, a2, a3, a4, a5⟩ := hap k e hk
        exact ⟨a1, a2, by rw [h6]; exact a3, a4, a5⟩
     ·rw [hq4]
      have h2 := h hq3
      unfold sQ at h2 ⊢
      cases hb : β q with
      | none => rw [hb] at h2; exact h2
      | some b =>
       rw [hb] at h2
       obtain ⟨A, cap, cur, ety, e1, hh, hA⟩ := h2
       exact ⟨A, cap, cur, ety, e1, (hblk q b hr hq3 hb).trans hh, hA⟩
   | ptr q off =>
    simp only [Oz]
    cases hm : (gV (nY m st) q && !(anch m st st' q)) with
    | true => trivial
    | false =>
     intro hs
     rcases hcase q hs with ⟨r, hq1, rfl, hq2⟩ | ⟨_, _, hq3, hq4⟩
     ·cases Kt : gV st r with
      | false => have := hfr r hq1 Kt; simp [T.has] at this
      | true =>
       rw [(ZM _).2 ⟨r, Kt, rfl⟩, Bool.true_and] at hm
       have ha : anch m st st' (rn m r) = true := by simpa using hm
       obtain ⟨b, hb, hu⟩ := h (EY r Kt)
       refine ⟨b, ?_, hu⟩
       rw [hq2]
       unfold anch at ha
       cases hs2 : uV m (rn m r) st' with
       | none => rw [hs2] at ha; cases ha
       | some q2 =>
        obtain ⟨h3, h4⟩ := o8 hs2
        have := Ue q2 r (.inr h3) (.inr hq1) h4
        subst this
        rw [hs2] at ha
        simp only [Bool.and_eq_true, Bool.not_eq_true'] at ha
        exact hok.yO q2 (some b) (NS q2 hq1) (by show fix q2 = some (some b); simp only [fix, ha.1, cond_false, ha.2, cond_true]; exact congrArg some hb)
     ·rw [hq4]; exact h hq3
  have hf2 : ∀ t u, inT st' t = true → jc w' s'' β'' (Cc.I s'' β'' w') t u → jc w' S2 β2 (C.I S2 β2 w') (IX m t) u := by
   intro t u hin h
   cases t with
   | v x => exact Rep.mono (fun _ _ => rfl) hI2 h
   | nil => exact Rep.mono (fun _ _ => rfl) hI2 h
   | sl cs n => exact Rep.mono (fun _ _ => rfl) hI2 h
   | clo f cs => exact Rep.mono (fun _ _ => rfl) hI2 h
   | dead => trivial
   | uO b m => exact ⟨hI2 _ h.1, h.2⟩
   | psl cs off =>
    obtain ⟨b, o, us, h1, h2, h3, h4⟩ := h
    exact ⟨b, o, us, hI2 _ h1, h2, h3, fun j t hj => Rep.mono (fun _ _ => rfl) hI2 (h4 j t hj)⟩
   | own r off n ap =>
    intro _
    have hr : gV st' r = true := hin
    show sQ w' (β2 (rn m r)) off n ap u
    rw [hβ2 r hr]
    exact h (NS r hr)
   | ptr r off =>
    intro _
    have hr : gV st' r = true := hin
    show ∃ b, β2 (rn m r) = some b ∧ u = .pointer (some ⟨b, off, none⟩)
    rw [hβ2 r hr]
    exact h (NS r hr)
  refine hK _ β2 (a.put o.dst v) w' rfl ?_ (fun h => ?_)
  rotate_left
  ·have := hk0 h
   subst this
   exact ⟨hk.os, hk.tape, hk.output, hk.size, fun b hb _ => hk.block b hb (fun ⟨r, hr, _⟩ => by cases hr), hk.shape⟩
  rw [hd]
  refine R.rQ (s := ⟨IU (Oz m st st') s.env, S2⟩) ⟨⟨?_, ?_, ?_, ?_, ?_⟩, hR.defers, hR.size, fun i => ?_⟩ (iy.adr hf2 hrel hX) hn
  ·refine ⟨hk.os.trans hR.ok.kept.os, hk.tape.trans hR.ok.kept.tape, hk.output.trans hR.ok.kept.output, Nat.le_trans hsz0 hsz, fun b hb hE => ?_, fun b cur ety hh => ?_⟩
   ·refine (hk.block b (by omega) fun h => ?_).trans (hR.ok.kept.block b hb hE)
    rcases hEw b h with h1 | h1
    ·exact hE h1
    ·omega
   ·obtain ⟨c1, h1, h2⟩ := hR.ok.kept.shape b cur ety hh
    obtain ⟨c2, h3, h4⟩ := hk.shape b c1 ety h1
    exact ⟨c2, h3, h4.trans h2⟩
  ·intro q g hg
   have hs : (dH S2 q).isSome = true := by rw [hg]; rfl
   rcases hcase q hs with ⟨r, hq1, rfl, hq2⟩ | ⟨hq1, hq2, hq3, hq4⟩
   ·rw [ae7 r hq1] at hg
    obtain ⟨g0, hg0, rfl⟩ := Option.map_eq_some_iff.1 hg
    have h1 := hok.store r g0 (hle r g0 hg0)
    have adv := List.all_eq_true.1 hcl _ (wI hg0)
    have hcs := WA (m := m) h1.1
    refine ⟨fun hp t ht => ?_, ?_⟩
    ·unfold renG at hp ht
     cases hp0 : g0.pure with
     | true => rw [hp0] at ht; exact h1.1 hp0 t ht
     | false => rw [hp0] at hp; cases hp
    rw [hq2]
    have h2 := h1.2
    cases hb : β'' r with
    | none => rw [hb] at h2; replace h2 : g0.cs = [] := h2; show (renG m g0).cs = []; rw [hcs, h2]; rfl
    | some b =>
     rw [hb] at h2
     obtain ⟨cur, ety, h3, h4, h5⟩ := h2
     refine ⟨cur, ety, h3, by rw [hcs]; simpa using h4, fun j t hj => ?_⟩
     rw [hcs, List.getElem?_map] at hj
     obtain ⟨t0, hj0, rfl⟩ := Option.map_eq_some_iff.1 hj
     obtain ⟨u, h6, h7⟩ := h5 j t0 hj0
     refine ⟨u, h6, hf2 t0 u ?_ h7⟩
     cases hp : g0.pure with
     | true =>
      have := h1.1 hp t0 (List.mem_of_getElem? hj0)
      cases t0 <;> first | rfl | cases this
     | false =>
      simp only [hp, Bool.false_or] at adv
      exact List.all_eq_true.1 adv t0 (List.mem_of_getElem? hj0)
   ·rw [adu q hq1, hq2, cond_false] at hg
    have h1 := hR.ok.store q g hg
    have hmem : (q, g) ∈ rest (nY m st) s.st := wI (by rw [En, hq2, cond_false]; exact hg)
    have hrq := List.all_eq_true.1 hrest _ hmem
    refine ⟨h1.1, ?_⟩
    rw [hq4]
    have h2 := h1.2
    cases hb : β q with
    | none => rw [hb] at h2; exact h2
    | some b =>
     rw [hb] at h2
     obtain ⟨cur, ety, h3, h4, h5⟩ := h2
     refine ⟨cur, ety, (hblk q b hq2 hq3 hb).trans h3, h4, fun j t hj => ?_⟩
     obtain ⟨u, h6, h7⟩ := h5 j t hj
     refine ⟨u, h6, ?_⟩
     have h8 := hf t u (fun r hr hr0 => St.Hz (Ic hnew r hr hr0) hR.ok hg (List.mem_of_getElem? hj)) h7
     have : Pm m st st' t = true := by
      cases hp : g.pure with
      | true =>
       have := h1.1 hp t (List.mem_of_getElem? hj)
       cases t <;> first | rfl | cases this
      | false =>
       simp only [hp, Bool.false_or] at hrq
       exact List.all_eq_true.1 hrq t (List.mem_of_getElem? hj)
     rwa [XJ this] at h8
  ·intro q q' b hq hq' hb hb'
   rcases hcase q hq with ⟨r, h1, rfl, h2⟩ | ⟨_, h2, h3, h4⟩ <;> rcases hcase q' hq' with ⟨r', k1, rfl, k2⟩ | ⟨_, k2, k3, k4⟩
   ·rw [h2] at hb; rw [k2] at hb'
    rw [hok.inj r r' b (NS r h1) (NS r' k1) hb hb']
   ·rw [h2] at hb; rw [k4] at hb'
    exact (ZN r q' b h1 hb k2 k3 hb').elim
   ·rw [h4] at hb; rw [k2] at hb'
    exact (ZN r' q b k1 hb' h2 h3 hb).elim
   ·rw [h4] at hb; rw [k4] at hb'
    exact hR.ok.inj q q' b h3 k3 hb hb'
  ·intro q b hq hb
   rcases hcase q hq with ⟨r, h1, rfl, h2⟩ | ⟨_, h2, h3, h4⟩
   ·rw [h2] at hb
    rcases hok.uX r b (NS r h1) hb with h | h
    ·exact hEw b h
    ·replace h : w.heap.size ≤ b := h
     exact .inr (by omega)
   ·rw [h4] at hb
    exact hR.ok.uX q b h3 hb
  ·intro q b hq hfx
   rcases hcase q hq with ⟨r, h1, rfl, h2⟩ | ⟨_, h2, h3, h4⟩
   ·rw [h2]
    cases hm : Nat.blt (rn m r) 100000 with
    | true => rw [C.fx _ hm] at hfx; cases hfx
    | false =>
     cases Kt : gV st r with
     | false =>
      have := St.HY (Ic hnew r h1 Kt)
      rw [hm] at this; cases this
     | true =>
      have hb := hR.ok.yO _ b (EY r Kt) hfx
      have hm2 : Nat.blt r 100000 = false := by
       obtain ⟨g0, hg0⟩ := IY Kt
       have := List.all_eq_true.1 hfix _ hg0
       simpa [hm] using this
      exact hok.yO r b (NS r h1) (by show fix r = some b; simp only [fix, hm2, cond_false, Kt, cond_true]; exact congrArg some hb)
   ·rw [h4]; exact hR.ok.yO q b h3 hfx
  ·show iy w' S2 β2 _ (jT (IU (Oz m st st') s.env) i) _
   rw [IV _ rfl]
   exact iy.acB (N := fun q => ∃ r, gV st' r = true ∧ gV st r = false ∧ rn m r = q) (fun t u hN h => hf t u (fun r h1 h2 => hN _ ⟨r, h1, h2, rfl⟩) h) (fun q ⟨r, h1, h2, e⟩ => e ▸ St.Eh (Ic hnew r h1 h2) i) (hR.env i)
attribute [simp] rn IX renG nY uV anch Oz inT Pm QX QX.allL XM XH
end Go.V
set_option linter.unusedVariables false
set_option linter.unusedSimpArgs false
namespace Go.V
open Go.RowKit
def Va {α : Type} (o : Option α) (A : Prop) (B : α → Prop) : Prop := match o with
 | none => A
 | some x => B x
def Eo {α ρ : Type} (o : Option α) (A : Option ρ) (B : α → Option ρ) : Option ρ := match o with
 | none => A
 | some x => B x
theorem yU {α ρ : Type} {o : Option α} {A : Option ρ} {B : α → Option ρ} {r : ρ} (h : Eo o A B = some r) : (o = none ∧ A = some r) ∨ ∃ x, o = some x ∧ B x = some r := by
 cases o with
 | none => exact .inl ⟨rfl, h⟩
 | some x => exact .inr ⟨x, rfl, h⟩
theorem aaL {P : Program} {f : FuncId} {args : List S} {st : Store} {Q Q' : S → Store → Prop} (h : AC P f args st Q) (hq : ∀ x st', Q x st' → Q' x st') : AC P f args st Q' := by
 intro w E I0 i0 fix fx β vs C hok hsz hrel
 refine (h w E I0 i0 fix fx β vs hok hsz hrel).mono ?_
 rintro e w' ⟨v, x, st', β', he, hok', hr, hq'⟩
 exact ⟨v, x, st', β', he, hok', hr, hq x st' hq'⟩
theorem yV {P : Program} {f : FuncId} {args : List S} {st : Store} {α : Type} {o : Option α} {A : S → Store → Prop} {B : S → Store → α → Prop} (h : o = none) (p : AC P f args st (fun x s => Va o (A x s) (B x s))) : AC P f args st A := by
 subst h
 exact p
theorem yX {P : Program} {f : FuncId} {args : List S} {st : Store} {α : Type} {o : Option α} {y : α} {A : S → Store → Prop} {B : S → Store → α → Prop} (h : o = some y) (p : AC P f args st (fun x s => Va o (A x s) (B x s))) : AC P f args st (fun x s => B x s y) := by
 subst h
 exact p
theorem aO {C : Ctx} {s : St} {d : Option Nat} {P : Program} {f : FuncId} {xs : List Operand} {args : List S} {st st' : Store} {X : S} (m : List (Nat × Nat)) (k : Bool) (hP : C.P = P) (hAC : AC P f args st (fun x s' => x = X ∧ l9 s' st'))
  (hx : xs.map (fun x => oZ EF (s.ev x)) = args.map (oZ (IX m))) (hst : l9 s.st (nY m st)) (hinj : XH m (st ++ st') = true) (hcl : st'.all (fun p => p.2.pure || p.2.cs.all (inT st')) = true) (hnew : XM s m st st' = true)
  (hrest : (rest (nY m st) s.st).all (fun p => p.2.pure || p.2.cs.all (Pm m st st')) = true) (hX : QX (inT st') X = true) (hk0 : k = true → st = []) (hfix : st.all (fun p => Nat.blt (rn m p.1) 100000 || !(Nat.blt p.1 100000)) = true) :
  Does C (.call f xs) d s k (· = (⟨IU (Oz m st st') s.env, nY m st' ++ rest (nY m st) s.st⟩ : St).put d (oZ (IX m) X)) :=
 VJ m k hP (aaL hAC fun x s' h => ⟨h.1, fun r g hg => H9 h.2 r g hg⟩) hx hst hinj hcl hnew hrest hX hk0 hfix
section
variable {C : Ctx} {s : St} {K : St → Prop} {l : List VOp} {d : Option Nat}
theorem TA {i : VI} {gd : Nat} {want b k : Bool} {s' : St} (hg : jT s.env gd = .one (.v (.bool b))) (hb : b = want) (h1 : Does C i d s k (· = s')) (h : WL C l s' K) : WL C (⟨i, d, some (some gd, want)⟩ :: l) s K :=
 Pe true (fun ops o hgd β a w hR => by
  obtain ⟨j, hj, hw⟩ := rU hgd (yielded ops a.tmps)
  rw [hw, uh hR hj hg]
  subst hb
  simp) (fun _ => ⟨_, _, h1, fun s' hs => hs ▸ h⟩) (fun h => by cases h)
theorem Ot {i : VI} {gd : Nat} {want b : Bool} (hg : jT s.env gd = .one (.v (.bool b))) (hb : b = !want) (h : WL C l (s.put d (.tup [])) K) : WL C (⟨i, d, some (some gd, want)⟩ :: l) s K :=
 Pe false (fun ops o hgd β a w hR => by
  obtain ⟨j, hj, hw⟩ := rU hgd (yielded ops a.tmps)
  rw [hw, uh hR hj hg]
  subst hb
  cases want <;> rfl) (fun h => by cases h) (fun _ => h)
theorem FM {c x y : Operand} {b : Bool} {p : S} (hb : b = true) (hc : s.ev c = .one (.v (.bool b))) (hx : s.ev x = p) : Quiet C (.pick c x y) s p := by
 have := Ei (C := C) hc hx (y := y) rfl
 subst hb
 exact this
theorem MV {c x y : Operand} {b : Bool} {q : S} (hb : b = false) (hc : s.ev c = .one (.v (.bool b))) (hy : s.ev y = q) : Quiet C (.pick c x y) s q := by
 have := Ei (C := C) hc (x := x) rfl hy
 subst hb
 exact this
end
@[simp] abbrev t (n : Nat) : Operand := .tmp n
@[simp] abbrev ci (n : Nat) : Operand := .const (.int .i64 n)
@[simp] abbrev cb (b : Bool) : Operand := .const (.bool b)
@[simp] abbrev cn : Operand := .const (.slice none 0 0)
@[simp] abbrev cp : Operand := .const (.pointer none)
@[simp] abbrev zu : T := .v (.int .u64 0)
@[simp] abbrev zi : T := .v (.int .i64 0)
@[simp] abbrev zb : T := .v (.bool false)
@[simp] abbrev w (d x : Nat) : VOp := ⟨.mv (.tmp x), some d, none⟩
@[simp] abbrev o (i : VI) (d : Nat) : VOp := ⟨i, some d, none⟩
@[simp] abbrev n_ (i : VI) : VOp := ⟨i, none, none⟩
@[simp] abbrev g_ (i : VI) (d g : Nat) (b : Bool) : VOp := ⟨i, some d, some (some g, b)⟩
theorem qt {K : St → Prop} {Q : Exit → St → Prop} {s : St} : zV K Q .ret s = Q .ret s := rfl
theorem qn {K : St → Prop} {Q : Exit → St → Prop} {s : St} : zV K Q .normal s = K s := rfl
theorem qg {l : Nat} {K : St → Prop} {Q : Exit → St → Prop} {s : St} : aaX l K Q .ret s = Q .ret s := rfl
theorem qb {n : Nat} {Q : Exit → St → Prop} {s : St} : zD n Q .ret s = Q .ret s := rfl
theorem bss (b : Bool) : (b == b) = true := by simp
theorem ctt {α : Type} (x y : α) : (bif true then x else y) = x := by simp
theorem WM {C : Ctx} {s : St} {K : St → Prop} {l : List VOp} {d : Option Nat} {x : Operand} (h : WL C l (s.put d (s.ev x)) K) : WL C (⟨.mv x, d, none⟩ :: l) s K := WQ (Wj rfl) h
theorem tf (b : Bool) : b = true ∨ b = false := by cases b <;> simp
theorem acf {l : List T} {o n : Nat} {i : Int} {t : T} (f : Nat → T) (h : 0 ≤ i ∧ i < (n : Nat)) (hl : ∀ j, j < n → l[o + j]? = some (f j)) (ht : t = f i.toNat) : l[o + i.toNat]? = some t := by
 rw [ht]
 exact hl _ (by omega)
theorem kH {α : Type} {l : List α} {i j : Int} {v : α} : ix (dZ l i v) j ↔ ix l j := by unfold ix; rw [aj]
theorem XO {α : Type} {l : List α} {i : Int} {v u : α} : dZ (dZ l i u) i v = dZ l i v := by simp [dZ]
section
variable {C : Ctx} {s : St} {d : Option Nat} {α : Type} [Inhabited α] {e : α → List T} {k : Nat}
theorem Gm {l : List α} {i : Int} {v : α} (h : ix l i) : nth (dZ l i v) i = v := by
 have : i.toNat < l.length := by unfold ix at h; omega
 simp [nth, dZ, List.getD_eq_getElem?_getD, this]
theorem Np {x : Operand} {l : List α} {r off n : Nat} {p : Bool} {ts : List T} {y : α} {i : Int} (hx : s.ev x = .one (.ptr r off)) (hg : dH s.st r = some ⟨p, flat e (dZ l i y)⟩) (hk : ∀ x, (e x).length = k) (hi : ix l i) (j : Nat) (ho : off = i.toNat * k + j) (ht : ((e y).drop j).take n = ts) (hn : ts.length = n) (h0 : n ≠ 0) : Quiet C (.load true n x) s (.agg ts) :=
 uP hx hg hk (kH.2 hi) j ho (by rw [Gm hi]; exact ht) hn h0
theorem mD {n r off : Nat} {x y : Operand} {l : List α} {p : Bool} {z : S} {ys : List T} {u : α} {i : Int} (hx : s.ev x = .one (.ptr r off)) (hg : dH s.st r = some ⟨p, flat e (dZ l i u)⟩) (hk : ∀ x, (e x).length = k) (hi : ix l i) (j : Nat) (ho : off = i.toNat * k + j)
  (hy : s.ev y = z) (hc : z.cells s.st = some ys) (hn : ys.length = n) (h0 : n ≠ 0) (v : α) (hv : e v = splice (e u) j ys) (hj : j + n ≤ k) (hp : gG ys = true) :
  Does C (.store n x y) d s false (· = (⟨s.env, sset s.st r ⟨p, flat e (dZ l i v)⟩⟩ : St).put d (.tup [])) :=
 (dI hx hg hk (kH.2 hi) j ho hy hc hn h0 v (by rw [Gm hi]; exact hv) hj hp).cast (by rw [XO])
end
theorem Does.le {C : Ctx} {i : VI} {d : Option Nat} {s s1 s2 : St} {b : Bool} (h : Does C i d s b (· = s1)) (hle : LeB s1 s2) : Does C i d s b (· = s2) :=
 fun o ho hd hn β a w hR next Q hK => h o ho hd hn β a w hR next Q fun s' β' a' w' hs hR' hk => by
  subst hs
  obtain ⟨β'', h2⟩ := hle C β' a' w' hR'
  exact hK _ β'' a' w' rfl h2 hk
theorem Zn {C : Ctx} {s : St} {α : Type} {e : α → List T} {k t ety bytes r : Nat} {zs : List T} {x y : Operand} {n c : Int} (z : α) (hx : s.ev x = .one (.v (.int .i64 n))) (hy : s.ev y = .one (.v (.int .i64 c))) (hz : zs.map EF = e z) (hzs : gG zs = true) (he : ∀ x, gG (e x) = true) (h0 : 0 ≤ n) (h1 : n ≤ c) (h2 : bytes * c ≤ 2 ^ 48) (h3 : c ≤ 9223372036854775807) (hf : s.fresh r = true) :
  Does C (.mk t ety k bytes zs x y) (some r) s true (· = (⟨s.env, (r, ⟨true, flat e (List.replicate n.toNat z)⟩) :: s.st⟩ : St).put (some r) (.one (.own r 0 (List.replicate n.toNat z).length (some (k, ety))))) := by
 have h := Wn (C := C) (t := t) (e := ety) (k := k) hx hy h0 h1 h2 h3 hf (zs := zs) (List.all_eq_true.2 fun t ht => by
  have := kK hzs t ht
  rw [this, T.yH this]; rfl)
 refine (h.le (ni (q := r) (gU _ _ _)).b).cast ?_
 have : (List.replicate n.toNat zs).flatten.map EF = flat e (List.replicate n.toNat z) := by
  rw [← D5, ← hz, List.map_flatten, List.map_replicate]
 simp [St.put, aci, sset, this]
theorem ab3 {n : Nat} {i : Int} (Pq : Nat → Prop) (h : 0 ≤ i ∧ i < (n : Nat)) (hl : ∀ j, j < n → Pq j) : Pq i.toNat := hl _ (by omega)
end Go.V
set_option linter.unusedVariables false
set_option linter.unusedSimpArgs false
namespace Go.V
open Go.RowKit Go.Sort
def eI (x : Int) : List T := [.v (.int .i64 x)]
theorem VK (l : List Int) (j : Nat) (t : T) (h : (flat eI l)[j]? = some t) : ∃ x, l[j]? = some x ∧ t = .v (.int .i64 x) := by
 have e : flat eI l = l.map fun x => (.v (.int .i64 x) : T) := by
  clear h
  unfold flat
  induction l with
  | nil => rfl
  | cons x l ih => simp [List.flatMap_cons, ih, eI]
 rw [e, List.getElem?_map] at h
 obtain ⟨x, hx, rfl⟩ := Option.map_eq_some_iff.1 h
 exact ⟨x, hx, rfl⟩
theorem ZO (l : List Int) : (flat eI l).length = l.length := by
 have := uU (e := eI) (k := 1) (fun _ => rfl) l
 simpa using this
theorem ZP {α : Type} {vs : Array α} (h : vs.size = 1) : ∃ v, vs = #[v] := by
 obtain ⟨l⟩ := vs
 match l, h with
 | [v], _ => exact ⟨v, rfl⟩
theorem Pn {C : Ctx} {β : Nat → Option Nat} {w : World} {l : List Int} {ap : Option (Nat × TypeId)} (hok : Cj C [(100800, ⟨true, flat eI l⟩)] β w) {b : Nat} (hb : β 100800 = some b) {cur : Array Value} {ety : TypeId} (hh : w.heap[b]? = some (.cells cur ety (0, 0))) :
  Holds (Value.int .i64) w b 0 l.toArray := by
 have h1 := (hok.store 100800 ⟨true, flat eI l⟩ (gU _ _ _)).2
 rw [hb] at h1
 obtain ⟨cur', aaz, h2, h3, h4⟩ := h1
 rw [hh] at h2
 injection h2 with h2
 injection h2 with h2 h5
 subst h2
 intro j hj
 have hj' : j < l.length := by simpa using hj
 have hc : (flat eI l)[j]? = some (.v (.int .i64 l[j])) := by
  cases hg : (flat eI l)[j]? with
  | none => rw [List.getElem?_eq_none_iff, ZO] at hg; omega
  | some t =>
   obtain ⟨x, hx, rfl⟩ := VK l j t hg
   rw [List.getElem?_eq_getElem hj'] at hx
   injection hx with hx
   rw [hx]
 obtain ⟨u, h6, h7⟩ := h4 j _ hc
 cases h7
 refine ⟨?_, ?_⟩
 ·simp only [World.cell?, hh, Nat.zero_add]
  simp [h6, hj']
 ·simp [World.frozen?, hh]
theorem NT {C : Ctx} {β : Nat → Option Nat} {w w' : World} {l l' : List Int} {d : Array Int} {q : Nat} {os : Array Obj} (hw0 : C.w0 = w) (hok : Cj C [(100800, ⟨true, flat eI l⟩)] β w) {b : Nat} (hb : β 100800 = some b) {cur : Array Value} {ety : TypeId} (hh : w.heap[b]? = some (.cells cur ety (0, 0)))
  (hcs : l.length ≤ cur.size) (hd : d.size = l.length) (hw : w' = grow (putRow (Value.int .i64) (Sort.ahead w q) b 0 d) os) (hl : ∀ (j : Nat) (x : Int), l'[j]? = some x → d[j]? = some x) :
  Cj C [(100800, ⟨true, flat eI l'⟩)] β w' ∧ ∃ cur', w'.heap[b]? = some (.cells cur' ety (0, 0)) ∧ cur'.size = cur.size := by
 have hbl : b < w.heap.size := (Array.getElem?_eq_some_iff.1 hh).1
 have hsome : (dH [(100800, (⟨true, flat eI l⟩ : Reg))] 100800).isSome = true := by rw [gU]; rfl
 have hsz : w'.heap.size = w.heap.size + os.size := by rw [hw]; simp
 have hother : ∀ k, k < w.heap.size → k ≠ b → w'.heap[k]? = w.heap[k]? := by
  intro k hk hne
  rw [hw, heap_grow_old _ _ (by simpa using hk)]
  simp only [putRow, mapBlock, heap_ahead, Array.getElem?_modify]
  rw [if_neg (fun e : b = k => hne e.symm)]
 have ZQ : w'.heap[b]? = some (.cells (putCells (Value.int .i64) 0 d cur) ety (0, 0)) := by
  rw [hw, heap_grow_old _ _ (by simpa using hbl)]
  simp only [putRow, mapBlock, heap_ahead, Array.getElem?_modify, if_true, hh, Option.map_some, onCells]
 have hsize : (putCells (Value.int .i64) 0 d cur).size = cur.size := by simp [putCells]
 have aa1 := hok.uX 100800 b hsome hb
 rw [hw0] at aa1
 have hE : C.E b := by rcases aa1 with h | h; exact h; omega
 have hk0 := hok.kept
 rw [hw0] at hk0
 have Uf : ∀ r, (dH [(100800, (⟨true, flat eI l'⟩ : Reg))] r).isSome = true → r = 100800 := by
  intro r hr
  by_cases e : r = 100800
  ·exact e
  ·rw [kU _ _ (fun h => e h.symm)] at hr; cases hr
 have aam : ∀ r, r = 100800 → (dH [(100800, (⟨true, flat eI l⟩ : Reg))] r).isSome = true := fun r hr => by subst hr; exact hsome
 refine ⟨⟨?_, ?_, ?_, ?_, ?_⟩, _, ZQ, hsize⟩
 ·rw [hw0]
  refine ⟨by rw [hw]; rfl, by rw [hw]; rfl, by rw [hw]; rfl, by omega, fun k hk hE' => ?_, fun k c e hc => ?_⟩
  ·exact hother k hk (fun e => hE' (e ▸ hE))
  ·by_cases e' : k = b
   ·subst e'
    rw [hh] at hc
    injection hc with hc
    injection hc with h1 h2
    subst h1; subst h2
    exact ⟨_, ZQ, hsize⟩
   ·exact ⟨c, by rw [hother k (Array.getElem?_eq_some_iff.1 hc).1 e']; exact hc, rfl⟩
 ·intro r g hg
  have := Uf r (by rw [hg]; rfl)
  subst this
  rw [gU] at hg
  injection hg with hg
  subst hg
  refine ⟨fun _ t ht => ?_, ?_⟩
  ·obtain ⟨j, hj⟩ := List.getElem?_of_mem ht
   obtain ⟨x, _, rfl⟩ := VK l' j t hj
   rfl
  ·rw [hb]
   refine ⟨_, ety, ZQ, ?_, fun j t hj => ?_⟩
   ·rw [ZO, hsize]
    have : l'.length ≤ d.size := by
     by_cases h0 : l'.length = 0
     ·omega
     ·have hx := hl (l'.length - 1) l'[l'.length - 1] (List.getElem?_eq_getElem (by omega))
      have := (Array.getElem?_eq_some_iff.1 hx).1
      omega
    omega
   ·obtain ⟨x, hx, rfl⟩ := VK l' j t hj
    have hdj := hl j x hx
    obtain ⟨hlt, hval⟩ := Array.getElem?_eq_some_iff.1 hdj
    refine ⟨.int .i64 x, ?_, .v rfl⟩
    simp only [putCells, Array.getElem?_mapIdx]
    have hjc : j < cur.size := by omega
    rw [Array.getElem?_eq_getElem hjc, Option.map_some, if_pos ⟨by omega, by omega⟩, Nat.sub_zero, getElem!_pos d j hlt, hval]
 ·intro r r' b' hr hr' _ _
  rw [Uf r hr, Uf r' hr']
 ·intro r b' hr hrb
  exact hok.uX r b' (aam r (Uf r hr)) hrb
 ·intro r b' hr hrb
  exact hok.yO r b' (aam r (Uf r hr)) hrb
theorem aaw {P : Program} {f : FuncId} {e : TypeId} (hS : ∀ (blk off cap : Nat) (zs : List Int) (w : World), Holds (Value.int .i64) w blk off zs.toArray → blk < w.heap.size → zs.length < 4611686018427387904 →
   Calls P f #[.slice (some ⟨blk, off, none⟩) zs.length cap] w fun e w' => e = .returned (.tuple #[]) ∧ ∃ n os, w' = grow (putRow (Value.int .i64) (Sort.ahead w n) blk off (zs.mergeSort fun x y => decide (x ≤ y)).toArray) os)
  (h0 : ∀ (p : Option Addr) (cap : Nat) (w : World), Calls P f #[.slice p 0 cap] w fun e w' => e = .returned (.tuple #[]) ∧ w' = w) (l : List Int) (g : l.length < 4611686018427387904) :
  AC P f [S.one (.own 100800 0 l.length (some (1, e)))] [(100800, ⟨true, flat eI l⟩)] (fun x s => x = S.tup [] ∧ l9 s [(100800, ⟨true, flat eI (l.mergeSort fun x y => decide (x ≤ y))⟩)]) := by
 intro w E I0 i0 fix fx β vs C hok hsz hrel
 obtain ⟨v, rfl⟩ : ∃ v, vs = #[v] := by
  have : vs.size = 1 := hsz
  exact ZP this
 have hv := (hrel 0 _ v rfl rfl).t (by rw [gU]; rfl)
 have ED := (hok.store 100800 ⟨true, flat eI l⟩ (gU _ _ _)).2
 have fin : ∀ (w' : World) (l' : List Int), Cj C [(100800, ⟨true, flat eI l'⟩)] β w' → ∃ v x st' β', (Ending.returned (.tuple #[]) : Ending) = .returned v ∧ Cj C st' β' w' ∧ iy w' st' β' (C.I st' β' w') x v ∧ x = S.tup [] ∧ l9 st' [(100800, ⟨true, flat eI l'⟩)] := fun w' l' h =>
  ⟨.tuple #[], S.tup [], _, β, rfl, h, .tup rfl (fun i s u h1 h2 => by simp at h1), rfl, gU _ _ _, trivial⟩
 unfold sQ at hv
 cases hb : β 100800 with
 | none =>
  rw [hb] at hv ED
  obtain ⟨h1, rfl⟩ := hv
  have hl : l = [] := List.eq_nil_of_length_eq_zero h1
  subst hl
  refine (h0 none 0 w).mono ?_
  rintro e w' ⟨rfl, rfl⟩
  have e2 : ([] : List Int).mergeSort (fun x y => decide (x ≤ y)) = [] := by simp
  rw [e2]
  exact fin _ [] hok
 | some b =>
  rw [hb] at hv ED
  obtain ⟨A, cap, cur, ety, rfl, hh, hA, hn, hap⟩ := hv
  obtain ⟨_, rfl, hcap, _, _⟩ := hap 1 e rfl
  have hH := Pn (ap := none) hok hb hh
  refine (hS b 0 cap l w hH (Array.getElem?_eq_some_iff.1 hh).1 g).mono ?_
  rintro e w' ⟨rfl, n, os, hw⟩
  obtain ⟨k1, _⟩ := NT rfl hok hb hh (by omega) (by simp) hw (l' := l.mergeSort fun x y => decide (x ≤ y)) (fun j x hx => by simpa using hx)
  exact fin w' _ k1
theorem Vo {P : Program} {f : FuncId} {e : TypeId} (hS : ∀ (blk off cap : Nat) (zs : List Int) (w : World), Holds (Value.int .i64) w blk off zs.toArray → zs.length ≤ 9223372036854775807 → zs.length ≤ cap →
   Calls P f #[.slice (some ⟨blk, off, none⟩) zs.length cap] w fun e w' => e = .returned (.slice (some ⟨blk, off, none⟩) (Lib.compact zs).length cap) ∧ ∃ q, w' = putRow (Value.int .i64) (Sort.ahead w q) blk off (Lib.compact zs ++ List.replicate (zs.length - (Lib.compact zs).length) 0).toArray)
  (h0 : ∀ (a : Option Addr) (cap : Nat) (w : World), Calls P f #[.slice a 0 cap] w fun e w' => e = .returned (.slice a 0 cap) ∧ w' = w) (l : List Int) (g : l.length < 4611686018427387904) :
  AC P f [S.one (.own 100800 0 l.length (some (1, e)))] [(100800, ⟨true, flat eI l⟩)] (fun x s => x = S.one (.own 100800 0 (Lib.compact l).length (some (1, e))) ∧ l9 s [(100800, ⟨true, flat eI (Lib.compact l)⟩)]) := by
 intro w E I0 i0 fix fx β vs C hok hsz hrel
 have hcl : (Lib.compact l).length ≤ l.length := by
  unfold Lib.compact Lib.compactUpTo
  rw [List.length_map]
  exact Nat.le_trans (List.length_filter_le _ _) (by simp)
 obtain ⟨v, rfl⟩ : ∃ v, vs = #[v] := by
  have : vs.size = 1 := hsz
  exact ZP this
 have hv := (hrel 0 _ v rfl rfl).t (by rw [gU]; rfl)
 have ED := (hok.store 100800 ⟨true, flat eI l⟩ (gU _ _ _)).2
 unfold sQ at hv
 cases hb : β 100800 with
 | none =>
  rw [hb] at hv ED
  obtain ⟨h1, rfl⟩ := hv
  have hl : l = [] := List.eq_nil_of_length_eq_zero h1
  subst hl
  refine (h0 none 0 w).mono ?_
  rintro e' w' ⟨rfl, rfl⟩
  refine ⟨_, _, _, β, rfl, hok, ?_, rfl, gU _ _ _, trivial⟩
  refine .one fun _ => ?_
  unfold sQ
  rw [hb]
  exact ⟨rfl, rfl⟩
 | some b =>
  rw [hb] at hv ED
  obtain ⟨A, cap, cur, ety, rfl, hh, hA, hn, hap⟩ := hv
  obtain ⟨_, rfl, hcap, hmax, rfl⟩ := hap 1 e rfl
  have hH := Pn (ap := none) hok hb hh
  refine (hS b 0 cap l w hH (by omega) hn).mono ?_
  rintro e' w' ⟨rfl, q, hw⟩
  obtain ⟨k1, cur', k2, k3⟩ := NT (os := #[]) rfl hok hb hh (by omega) (d := (Lib.compact l ++ List.replicate (l.length - (Lib.compact l).length) 0).toArray) (by rw [List.size_toArray, List.length_append, List.length_replicate]; omega) (by simpa using hw) (l' := Lib.compact l) (fun j x hx => by
   have hj := (List.getElem?_eq_some_iff.1 hx).1
   simp [List.getElem?_append_left hj, hx])
  refine ⟨_, _, _, β, rfl, k1, ?_, rfl, gU _ _ _, trivial⟩
  refine .one fun _ => ?_
  unfold sQ
  rw [hb]
  exact ⟨some ⟨b, 0, none⟩, cap, cur', ety, rfl, k2, fun _ => rfl, by omega, fun k e' he => by
   injection he with he
   injection he with he1 he2
   subst he1; subst he2
   exact ⟨rfl, rfl, by rw [k3]; exact hcap, hmax, rfl⟩⟩
end Go.V
set_option linter.unusedVariables false
set_option linter.unusedSimpArgs false
namespace Go.V
open Go.RowKit
def T.isM : T → Bool
 | .uO _ _ => true
 | _ => false
def S.QY : S → Bool
 | .one t => t.isM
 | .agg ts => ts.any T.isM
 | .tup l => WB l
where WB : List S → Bool
 | [] => false
 | s :: l => S.QY s || WB l
theorem S.XP {l : List S} (h : S.QY.WB l = false) {i : Nat} {s : S} (hi : l[i]? = some s) : s.QY = false := by
 induction l generalizing i with
 | nil => simp at hi
 | cons x l ih =>
  simp only [S.QY.WB, Bool.or_eq_false_iff] at h
  cases i with
  | zero => simp at hi; subst hi; exact h.1
  | succ i => exact ih h.2 (by simpa using hi)
def noM (s : St) : Bool := s.env.all (fun p => (p.1 == 1000) || !p.2.QY) && s.st.all (fun p => p.2.pure || p.2.cs.all fun t => !t.isM)
theorem aaM {e : Env} (h : e.all (fun p => (p.1 == 1000) || !p.2.QY) = true) {i : Nat} (hi : i ≠ 1000) : (jT e i).QY = false := by
 induction e with
 | nil => rfl
 | cons p e ih =>
  obtain ⟨k, x⟩ := p
  simp only [List.all_cons, Bool.and_eq_true] at h
  simp only [jT]
  cases hk : k == i with
  | false => exact ih h.2
  | true =>
   have : k = i := eq_of_beq hk
   subst this
   have h1 := h.1
   rw [vS hi] at h1
   simpa using h1
theorem NU {w : World} {b : Nat} {m : List Int} (h : MapAt w b m) (a : Addr) (ha : a.block = b) : w.cell? a = none := by
 obtain ⟨es, c, h1, _⟩ := h
 unfold World.cell?
 rw [ha, h1]
section
variable {C : Ctx} {s : St} {β : Nat → Option Nat} {a : Act} {w w' : World} {b : Nat} {m m' : List Int}
theorem VL (hk : Kept (fun c => c = b) w w') (h0 : MapAt w b m) (h1 : MapAt w' b m') (ad : Addr) (hlt : ad.block < w.heap.size) : w'.cell? ad = w.cell? ad := by
 by_cases h : ad.block = b
 ·rw [NU h0 ad h, NU h1 ad h]
 ·exact cell_of_heap (hk.block ad.block hlt h)
theorem F8 (hk : Kept (fun c => c = b) w w') (h0 : MapAt w b m) {c : Nat} {cur : Array Value} {ety : TypeId} {z : Nat × Nat} (h : w.heap[c]? = some (.cells cur ety z)) : w'.heap[c]? = some (.cells cur ety z) := by
 refine (hk.block c (Array.getElem?_eq_some_iff.1 h).1 (fun e => ?_)).trans h
 obtain ⟨es, cl, h2, _⟩ := h0
 subst e
 rw [h2] at h
 cases h
theorem QZ {st : Store} {I I' : Nat → Prop} (hk : Kept (fun c => c = b) w w') (h0 : MapAt w b m) (h1 : MapAt w' b m') (hlt : ∀ c, I c → c < w.heap.size) (hI : ∀ c, I c → I' c) {t : T} {u : Value} (hn : t.isM = false) (h : jc w st β I t u) : jc w' st β I' t u := by
 have hc : ∀ ad : Addr, I ad.block → w'.cell? ad = w.cell? ad := fun ad hh => VL hk h0 h1 ad (hlt _ hh)
 cases t with
 | v x => exact Rep.mono hc hI h
 | nil => exact Rep.mono hc hI h
 | sl cs n => exact Rep.mono hc hI h
 | clo f cs => exact Rep.mono hc hI h
 | dead => trivial
 | uO b m => cases hn
 | ptr r off => exact h
 | own r off n ap =>
  intro h3
  have h2 := h h3
  unfold sQ at h2 ⊢
  cases hb : β r with
  | none => rw [hb] at h2; exact h2
  | some c =>
   rw [hb] at h2
   obtain ⟨A, cap, cur, ety, e1, hh, hA, hn', hap⟩ := h2
   exact ⟨A, cap, cur, ety, e1, F8 hk h0 hh, hA, hn', hap⟩
 | psl cs off =>
  obtain ⟨c, o, us, h2, h3, h4, h5⟩ := h
  exact ⟨c, o, us, hI _ h2, h3, fun j t hj => (hc ⟨c, o + j, none⟩ h2).trans (h4 j t hj), fun j t hj => Rep.mono hc hI (h5 j t hj)⟩
theorem aaN {st : Store} {I I' : Nat → Prop} (hk : Kept (fun c => c = b) w w') (h0 : MapAt w b m) (h1 : MapAt w' b m') (hlt : ∀ c, I c → c < w.heap.size) (hI : ∀ c, I c → I' c) {x : S} {u : Value} (hn : x.QY = false) (h : iy w st β I x u) : iy w' st β I' x u := by
 induction h with
 | one h => exact .one (QZ hk h0 h1 hlt hI hn h)
 | agg hs h => exact .agg hs fun i t u h2 h3 => QZ hk h0 h1 hlt hI (by
   simp only [S.QY, List.any_eq_false] at hn
   have := hn t (List.mem_of_getElem? h2)
   simpa using this) (h i t u h2 h3)
 | tup hs h ih => exact .tup hs fun i x u h2 h3 => ih i x u h2 h3 (S.XP hn h2)
theorem R.aa2 (hR : R C s β a w) (hk : Kept (fun c => c = b) w w') (hb : C.I s.st β w b) (hE : C.E b ∨ C.w0.heap.size ≤ b) (h0 : MapAt w b m) (h1 : MapAt w' b m') (hm : noM s = true) :
  R C ⟨(1000, .one (.uO b m')) :: s.env, s.st⟩ β a w' := by
 have hlt : ∀ c, C.I s.st β w c → c < w.heap.size := fun c h => C.Hy hR.ok.kept h
 have hI : ∀ c, C.I s.st β w c → C.I s.st β w' c := by
  rintro c (h2 | ⟨h2, h3, h4⟩)
  ·exact .inl h2
  ·exact .inr ⟨h2, by have := hk.size; omega, h4⟩
 simp only [noM, Bool.and_eq_true] at hm
 refine ⟨⟨?_, fun r g hg => ?_, hR.ok.inj, hR.ok.uX, hR.ok.yO⟩, hR.defers, hR.size, fun i => ?_⟩
 ·have h2 := hR.ok.kept
  refine ⟨hk.os.trans h2.os, hk.tape.trans h2.tape, hk.output.trans h2.output, Nat.le_trans h2.size hk.size, fun c hc hcE => ?_, fun c cur ety hh => ?_⟩
  ·have hcb : c ≠ b := fun e => by subst e; rcases hE with hE | hE; exact hcE hE; omega
   exact (hk.block c (by have := h2.size; omega) hcb).trans (h2.block c hc hcE)
  ·obtain ⟨c1, h3, h4⟩ := h2.shape c cur ety hh
   exact ⟨c1, F8 hk h0 h3, h4⟩
 ·have h2 := hR.ok.store r g hg
  have h3 : ∀ t ∈ g.cs, t.isM = false := by
   intro t ht
   have h4 := List.all_eq_true.1 hm.2 _ (wI hg)
   simp only [Bool.or_eq_true] at h4
   rcases h4 with h4 | h4
   ·have := h2.1 h4 t ht
    cases t <;> first | rfl | cases this
   ·have := List.all_eq_true.1 h4 t ht
    simpa using this
  refine ⟨h2.1, ?_⟩
  have h5 := h2.2
  cases hr : β r with
  | none => rw [hr] at h5; exact h5
  | some c =>
   rw [hr] at h5
   obtain ⟨cur, ety, h6, h7, h8⟩ := h5
   refine ⟨cur, ety, F8 hk h0 h6, h7, fun j t hj => ?_⟩
   obtain ⟨u, h9, h10⟩ := h8 j t hj
   exact ⟨u, h9, QZ hk h0 h1 hlt hI (h3 t (List.mem_of_getElem? hj)) h10⟩
 ·show iy w' s.st β (C.I s.st β w') (bif (1000 == i) then .one (.uO b m') else jT s.env i) _
  cases hi : (1000 == i) with
  | true => exact .one ⟨hI b hb, h1⟩
  | false => exact aaN hk h0 h1 hlt hI (aaM hm.1 (fun e => by subst e; cases hi)) (hR.env i)
theorem R.ghost (hR : R C s β a w) (h0 : MapAt w b m) (hb : C.I s.st β w b) : R C ⟨(1000, .one (.uO b m)) :: s.env, s.st⟩ β a w :=
 ⟨hR.ok, hR.defers, hR.size, fun i => by
  show iy w s.st β (C.I s.st β w) (bif (1000 == i) then .one (.uO b m) else jT s.env i) _
  cases hi : (1000 == i) with
  | true => exact .one ⟨hb, h0⟩
  | false => exact hR.env i⟩
theorem R.WC (hR : R C s β a w) (hg : jT s.env 1000 = .one (.uO b m)) : C.I s.st β w b ∧ MapAt w b m := (hg ▸ hR.env 1000).t
theorem UR {d : Option Nat} : Does C .V7 d s true (fun s' => ∃ b, C.w0.heap.size ≤ b ∧ s' = (⟨(1000, .one (.uO b [])) :: s.env, s.st⟩ : St).put d (.one (.v (.map (some b))))) := by
 intro o ho hd hn β a w hR next Q hK
 obtain ⟨t, ho⟩ := ho
 unfold Oper.wp
 have hrun : (execOp a.eval o).run C.P w = .ok (.value (.map (some w.heap.size))) (w.alloc (.map #[] 0)) := by
  simp [execOp, ho, run_makeMap]
 rw [hrun]
 show next (a.put o.dst _) _
 rw [hd]
 have hk := kept_alloc w (.map #[] 0)
 obtain ⟨hR', hx⟩ := hR.later hk
 have hb : C.I s.st β (w.alloc (.map #[] 0)) w.heap.size := by
  refine .inr ⟨.inr hR.ok.kept.size, by simp, fun r hr hrb => ?_⟩
  have := hR.ok.lt hr hrb
  omega
 have h0 : MapAt (w.alloc (.map #[] 0)) w.heap.size [] := ⟨#[], 0, (MapKept.heap_alloc w _).1, rfl⟩
 exact hK _ β _ _ ⟨w.heap.size, hR.ok.kept.size, rfl⟩ ((hR'.ghost h0 hb).rQ (.one (.v rfl)) hn) (fun _ => hk)
theorem A8 {P : Program} {em : Bool} {n : Nat} {kt : TypeId} {q : IntKind} {k : Int} {w : World} (h : P.underlying kt = some (.int q)) : (Instr.checkKey em (n + 1) kt (.int q k)).run P w = .ok () w := by
 simp [Instr.checkKey, run_underlying h]
theorem JG (k : Int) : ∀ (es : List MapEntry) (m : List Int) (i : Nat), es.map (fun e => (e.key, e.val)) = m.map (fun k => (Value.int .i64 k, Value.bool true)) →
  ∃ j, Instr.findNow (.int .i64) (.int .i64 k) es i = some (if m.contains k then some (j, Value.bool true) else none)
 | [], [], i, _ => ⟨0, rfl⟩
 | [], _ :: _, i, h => by simp at h
 | _ :: _, [], i, h => by simp at h
 | e :: es, x :: m, i, h => by
  simp only [List.map_cons, List.cons.injEq, Prod.mk.injEq] at h
  obtain ⟨⟨h1, h2⟩, h3⟩ := h
  obtain ⟨j, hj⟩ := JG k es m (i + 1) h3
  unfold Instr.findNow
  simp only [Instr.sameNow, h1, if_true]
  by_cases hx : k = x
  ·subst hx
   exact ⟨i, by simp [h2]⟩
  ·have : (k == x) = false := by simpa using hx
   refine ⟨j, ?_⟩
   rw [this]
   simp only [hj, List.contains_cons, this, Bool.false_or]
theorem JH {P : Program} {kt : TypeId} {w : World} (h : P.underlying kt = some (.int .i64)) {k : Int} {es : List MapEntry} {m : List Int} (hm : es.map (fun e => (e.key, e.val)) = m.map (fun k => (Value.int .i64 k, Value.bool true))) :
  ∃ j, (Instr.findKey kt (.int .i64 k) es).run P w = .ok (if m.contains k then some (j, Value.bool true) else none) w := by
 obtain ⟨j, hj⟩ := JG k es m 0 hm
 exact ⟨j, by simp [Instr.findKey, run_underlying h, hj]⟩
theorem Ld {x i : Operand} {k : Int} (hx : s.ev x = .one (.v (.map (some b)))) (hg : jT s.env 1000 = .one (.uO b m)) (hi : s.ev i = .one (.v (.int .i64 k))) : Quiet C (.SC x i) s (.one (.v (.bool (m.contains k)))) := by
 refine fun o ho β a w hR => ⟨.bool (m.contains k), fun w' hk => ?_, .one (.v rfl)⟩
 obtain ⟨t, kt, e, ho, ht, hkt, hz⟩ := ho
 have hvx := (hx ▸ hR.ev x).plain
 have hvi := (hi ▸ hR.ev i).plain
 obtain ⟨hb, es, cl, h1, h2⟩ := hR.WC hg
 have h1' : w'.heap[b]? = some (.map es cl) := (hk.block b (C.Hy hR.ok.kept hb) (fun h => h)).trans h1
 obtain ⟨j, hj⟩ := JH (P := C.P) (w := w') hkt (k := k) h2
 have hz' : (zeroValue e).run C.P w' = .ok (.bool false) w' := DL hz
 cases hc : m.contains k
 ·rw [hc] at hj
  simp [execOp, ho, hvx, hvi, Instr.lookup, run_underlying ht, MapKept.run_getObj_map h1', A8 (n := 9999) hkt, hj, hz']
 ·rw [hc] at hj
  simp [execOp, ho, hvx, hvi, Instr.lookup, run_underlying ht, MapKept.run_getObj_map h1', A8 (n := 9999) hkt, hj]
theorem Xm {x i y : Operand} {k : Int} {d : Option Nat} (hx : s.ev x = .one (.v (.map (some b)))) (hg : jT s.env 1000 = .one (.uO b m)) (hi : s.ev i = .one (.v (.int .i64 k))) (hy : s.ev y = .one (.v (.bool true))) (hn : m.contains k = false) (hE : C.E b ∨ C.w0.heap.size ≤ b) (hm : noM s = true) :
  Does C (.aas x i y) d s false (· = (⟨(1000, .one (.uO b (m ++ [k]))) :: s.env, s.st⟩ : St).put d (.tup [])) := by
 intro o ho hd hnt β a w hR next Q hK
 obtain ⟨t, kt, e, ho, ht, hkt⟩ := ho
 have hvx := (hx ▸ hR.ev x).plain
 have hvi := (hi ▸ hR.ev i).plain
 have hvy := (hy ▸ hR.ev y).plain
 obtain ⟨hb, es, cl, h1, h2⟩ := hR.WC hg
 obtain ⟨j, hj⟩ := JH (P := C.P) (w := w) hkt (k := k) h2
 rw [hn] at hj
 unfold Oper.wp
 have hrun : (execOp a.eval o).run C.P w = .ok .skip ({ w with heap := w.heap.setIfInBounds b (.map (es.push { key := .int .i64 k, val := .bool true, born := cl }) (cl + 1)) }) := by
  simp [execOp, ho, hvx, hvi, hvy, Instr.mapUpdate, run_underlying ht, MapKept.run_getObj_map h1, A8 (n := 9999) hkt, hj, MapKept.run_setObj_map _ h1]
 rw [hrun]
 show next (a.put o.dst undef) _
 rw [hd]
 have hk : Kept (fun c => c = b) w ({ w with heap := w.heap.setIfInBounds b (.map (es.push { key := .int .i64 k, val := .bool true, born := cl }) (cl + 1)) }) := by
  refine ⟨rfl, rfl, rfl, by simp, fun c hc hcb => Array.getElem?_setIfInBounds_ne (fun e => hcb e.symm), fun c cur ety hh => ⟨cur, ?_, rfl⟩⟩
  exact (Array.getElem?_setIfInBounds_ne (fun e => by subst e; rw [h1] at hh; cases hh)).trans hh
 have hR' := hR.aa2 (m' := m ++ [k]) hk hb hE ⟨es, cl, h1, h2⟩ ⟨es.push { key := .int .i64 k, val := .bool true, born := cl }, cl + 1, by simp [(Array.getElem?_eq_some_iff.1 h1).1], by simp [h2]⟩ hm
 exact hK _ β _ _ rfl (hR'.rQ (.tup rfl (fun i s u h => by simp at h)) hnt) (fun h => by cases h)
end
theorem Zc {C : Ctx} {s : St} {f : FuncId} {x : Operand} {cs : List T} (hx : s.ev x = .one (.psl cs 0)) : Quiet C (.mkf f [x]) s (.one (.clo f cs)) := by
 refine fun o ho β a w hR => ?_
 obtain ⟨cap, ho, h1⟩ := ho
 obtain rfl := Zt h1.symm
 obtain ⟨b, o', us, hb, hv, hc, hr⟩ := hR.psl hx
 exact ⟨.func (.func f) #[] #[.pointer (some ⟨b, o', none⟩)], fun w' hk => by simp [execOp, ho, Instr.makeFunc, hv], .one (.clo us hb hc hr)⟩
theorem XR {P : Program} {w : World} {a : Act} {o : Oper} {x : Operand} {f : FuncId} {us : Array Value} {args : Array Operand} {ats : Array TypeId} (ho : o.op = .call { callee := .value x, args := args, argTypes := ats }) (hx : a.eval x = .func (.func f) #[] us) (hc : Ji P f = true) :
  (execOp a.eval o).run P w = .ok (.enter f (args.map a.eval ++ us)) w := by
 unfold Ji at hc
 cases hf : P.funcs[f]? with
 | none => rw [hf] at hc; cases hc
 | some fn =>
  rw [hf] at hc
  simp only [Bool.and_eq_true] at hc
  have h1 : fn.body.isNone = false := by
   cases h : fn.body with
   | none => rw [h] at hc; simp at hc
   | some _ => rfl
  have h2 : (fn.name == "runtime.NumGoroutine") = false := by simpa [bne] using hc.2
  have h3 : ¬ fn.name = "runtime.NumGoroutine" := by simpa using h2
  have h4 : fn.body ≠ none := by intro e; rw [e] at h1; cases h1
  simp [execOp, ho, resolve, hx, Deferred.ofValue, invoke, callFunc, hf, h3, h4]
theorem UQ {C : Ctx} {s : St} {d : Option Nat} {P : Program} {x : Operand} {f : FuncId} {cs : List T} {xs : List Operand} {ps qs : List S} {X : S} (hP : C.P = P) (hcp : Ji P f = true) (hPC : PC P f qs X) (hx : s.ev x = .one (.clo f cs)) (hxs : xs.map s.ev = ps) (hq : qs = ps ++ [.one (.psl cs 0)]) (hp : S.isPure.DV ps = true) (hX : X.isPure = true) :
  Does C (.V6 x xs) d s true (· = s.put d X) := by
 subst hP hq
 intro o ho hd hn β a w hR next R' hK
 obtain ⟨args, ats, ho, rfl⟩ := ho
 have adw := (hx ▸ hR.ev x).t
 generalize hv : a.eval x = v at adw
 cases adw with
 | clo us hb hcell hr =>
 rename_i b off
 unfold Oper.wp
 rw [XR ho hv hcp, Oper.upon_enter]
 have h0 : ∀ b, C.I s.st β w b → b < w.heap.size ∧ ¬ False := fun b hb => ⟨C.Hy hR.ok.kept hb, fun h => h⟩
 have hlen : args.size = ps.length := by
  have := congrArg List.length hxs
  simpa using this
 obtain ⟨av, hav⟩ : ∃ av, av = args.map a.eval ++ #[Value.pointer (some ⟨b, off, none⟩)] := ⟨_, rfl⟩
 rw [← hav]
 refine (hPC w (fun _ => False) (C.I s.st β w) h0 (fun _ => none) (fun _ _ => rfl) (fun _ => none) av ⟨Kept.refl _ _, fun r g h => (by cases h), fun r r' b h => (by cases h), fun r b h => (by cases h), fun r b h => (by cases h)⟩ ?_ ?_).mono ?_
 ·rw [hav, List.length_append]
  simp [hlen]
 ·intro i y v h1 h2
  rw [hav] at h2
  by_cases hi : i < ps.length
  ·rw [List.getElem?_append_left hi, ← hxs, List.getElem?_map] at h1
   obtain ⟨z, hz, rfl⟩ := Option.map_eq_some_iff.1 h1
   have hv : v = a.eval z := by
    rw [Array.getElem?_append_left (by simpa [hlen] using hi), Array.getElem?_map] at h2
    have hz' : args[i]? = some z := by simpa using hz
    rw [hz'] at h2
    simpa using h2.symm
   subst hv
   have h3 : ps[i]? = some (s.ev z) := by rw [← hxs, List.getElem?_map, hz]; rfl
   exact iy.pure (I := C.I s.st β w) (fun b hb => .inl hb) (hR.ev z) (S.xG hp h3)
  ·have hi' : i = ps.length := by
    have := (List.getElem?_eq_some_iff.1 h1).1
    simp at this
    omega
   subst hi'
   simp only [List.getElem?_concat_length, Option.some.injEq] at h1
   subst h1
   have h2' : v = .pointer (some ⟨b, off, none⟩) := by
    rw [Array.getElem?_append_right (by simp [hlen])] at h2
    simp [hlen] at h2
    exact h2.symm
   subst h2'
   exact .one ⟨b, off, us, .inl hb, rfl, hcell, fun j t hj => Rep.mono (fun _ _ => rfl) (fun c hc => .inl hc) (hr j t hj)⟩
 ·rintro e w' ⟨v, y, st', β', rfl, hok, hrel, rfl, rfl⟩
  have hk : Kept (fun _ => False) w w' := hok.kept
  obtain ⟨hR', hx'⟩ := hR.later hk
  refine hK (s.put d y) β (a.put o.dst v) w' rfl ?_ (fun _ => hk)
  rw [hd]
  refine hR'.rQ ?_ hn
  refine iy.pure (fun b hb => ?_) hrel hX
  rcases hb with h1 | ⟨h1 | h1, h2, _⟩
  ·exact hx'.imm b h1
  ·exact h1.elim
  ·refine .inr ⟨.inr (by have := hR.ok.kept.size; replace h1 : w.heap.size ≤ b := h1; omega), h2, fun r hr hrb => ?_⟩
   have := hR.ok.lt hr hrb
   replace h1 : w.heap.size ≤ b := h1
   omega
theorem abR {s : St} {i r : Nat} {g : Reg} (hx : jT s.env i = .one (.ptr r 0)) (hg : dH s.st r = some g) (hp : g.pure = true) (hne : g.cs.isEmpty = false) : Le s ⟨(i, .one (.psl g.cs 0)) :: IU (Ox r g.cs) s.env, sZ r g.cs s.st⟩ := by
 intro C β a w hR
 have hR1 := kY hg hp C β a w hR
 have hrs : (dH s.st r).isSome = true := by rw [hg]; rfl
 have hsome : ∀ q, (dH (sZ r g.cs s.st) q).isSome = true → q ≠ r ∧ (dH s.st q).isSome = true := by
  intro q hq
  by_cases h : q = r
  ·subst h; rw [tJ] at hq; cases hq
  ·rw [tq _ _ h] at hq; exact ⟨h, by simpa using hq⟩
 obtain ⟨b, cur, ety, hb, hh, hlen, hcur⟩ := hR.ok.blk hg (by intro e; rw [e] at hne; cases hne)
 have hb' : C.I (sZ r g.cs s.st) β w b := by
  refine .inr ⟨hR.ok.uX r b hrs hb, hR.ok.lt hrs hb, fun q hq hqb => ?_⟩
  obtain ⟨h1, h2⟩ := hsome q hq
  exact h1 (hR.ok.inj q r b h2 hrs hqb hb)
 have hI : ∀ c, C.I s.st β w c → C.I (sZ r g.cs s.st) β w c := by
  rintro c (h0 | ⟨h1, h2, h3⟩)
  ·exact .inl h0
  ·exact .inr ⟨h1, h2, fun q hq => h3 q (hsome q hq).2⟩
 have ae8 := (hx ▸ hR.env i).t hrs
 obtain ⟨b2, hb2, hval⟩ := ae8
 rw [hb] at hb2; injection hb2 with hb2; subst hb2
 refine ⟨hR1.ok, hR1.defers, hR1.size, fun j => ?_⟩
 show iy w (sZ r g.cs s.st) β _ (bif (i == j) then S.one (.psl g.cs 0) else jT (IU (Ox r g.cs) s.env) j) _
 cases hj : (i == j) with
 | false => exact hR1.env j
 | true =>
  have : i = j := eq_of_beq hj
  subst this
  have hex : ∀ j : Nat, ∃ u : Value, ∀ t, g.cs[j]? = some t → w.cell? ⟨b, 0 + j, none⟩ = some u ∧ Rep w (C.I (sZ r g.cs s.st) β w) t u := by
   intro j
   cases hj : g.cs[j]? with
   | none => exact ⟨undef, fun t ht => by cases ht⟩
   | some t =>
    obtain ⟨u, h3, h4⟩ := hcur j t hj
    refine ⟨u, fun t' ht => ?_⟩
    injection ht with ht; subst ht
    refine ⟨?_, Rep.mono (fun _ _ => rfl) hI (T.yI ((hR.ok.store r g hg).1 hp t (List.mem_of_getElem? hj)) w s.st β _ u h4)⟩
    rw [DK hh, Nat.zero_add]; exact h3
  rw [hval]
  exact .one ⟨b, 0, fun j => (hex j).choose, hb', rfl, fun j t hj => ((hex j).choose_spec t hj).1, fun j t hj => ((hex j).choose_spec t hj).2⟩
def MC (P : Program) (f : FuncId) (ps : List S) (m m' : List Int) : Prop :=
 ∀ (b : Nat) (w : World) (I0 : Nat → Prop) (i0 : ∀ c, I0 c → c < w.heap.size ∧ ¬ c = b) (vs : Array Value), MapAt w b m → vs.size = ps.length + 1 →
  (∀ (i : Nat) (x : S) (v : Value), (ps ++ [.one (.v (.map (some b)))])[i]? = some x → vs[i]? = some v → iy w [] (fun _ => none) I0 x v) →
  Calls P f vs w (fun e w' => e = .returned (.tuple #[]) ∧ Kept (fun c => c = b) w w' ∧ MapAt w' b m')
theorem ac0 {P : Program} {f : FuncId} {n : Nat} {vc : cO} {ps : List S} {m m' : List Int} (hf : Fits P f n vc []) (hn : ps.length + 1 = n)
  (h : ∀ (C : Ctx) (b : Nat), C.P = P → C.E b → EV C vc (fun e s => (e = .normal ∨ e = .ret) ∧ jT s.env 1000 = .one (.uO b m')) ⟨(1000, .one (.uO b m)) :: enum 0 (ps ++ [.one (.v (.map (some b)))]), []⟩) : MC P f ps m m' := by
 intro b w I0 i0 vs h0 hsz hrel
 obtain ⟨fn, c, h1, h2, h3, h4, h5⟩ := hf
 have hln : ps.length + 1 ≤ fn.ntmps := by rw [hn]; simpa [Nat.ble_eq] using h5
 have hlt : b < w.heap.size := by obtain ⟨es, cl, hh, _⟩ := h0; exact (Array.getElem?_eq_some_iff.1 hh).1
 let C : Ctx := ⟨P, fn.ntmps, fun c => c = b, w, I0, i0, fun _ => none, fun _ _ => rfl⟩
 have hIb : C.I [] (fun _ => none) w b := .inr ⟨.inl rfl, hlt, fun r hr => by cases hr⟩
 have hR : R C ⟨enum 0 (ps ++ [.one (.v (.map (some b)))]), []⟩ (fun _ => none) { tmps := vs ++ Array.replicate (fn.ntmps - vs.size) undef, defers := [] } w := by
  refine ⟨⟨Kept.refl _ _, fun r g h => (by cases h), fun r r' b h => (by cases h), fun r b h => (by cases h), fun r b h => (by cases h)⟩, rfl, ?_, fun i => ?_⟩
  ·show (vs ++ Array.replicate (fn.ntmps - vs.size) undef).size = fn.ntmps
   simp; omega
  show iy w [] (fun _ => none) (C.I [] (fun _ => none) w) (jT (enum 0 (ps ++ [.one (.v (.map (some b)))])) i) _
  rw [IL]
  simp only [Nat.zero_le, if_true, Nat.sub_zero]
  cases ha : (ps ++ [S.one (.v (.map (some b)))])[i]? with
  | none => exact .one trivial
  | some x =>
   have hlt : i < vs.size := by
    have := (List.getElem?_eq_some_iff.1 ha).1
    rw [List.length_append] at this
    simp only [List.length_cons, List.length_nil] at this
    omega
   have hg : (vs ++ Array.replicate (fn.ntmps - vs.size) undef).getD i undef = vs[i] := by
    simp [Array.getD_eq_getD_getElem?, Array.getElem?_append_left hlt, Array.getElem?_eq_getElem hlt]
   simp only [Option.getD_some]
   show iy _ _ _ _ _ ((vs ++ Array.replicate (fn.ntmps - vs.size) undef).getD i undef)
   rw [hg]
   exact iy.ext (I := I0) ⟨fun c hc => .inl hc, fun _ _ => rfl, fun r hr => (by cases hr), fun r b hr => (by cases hr)⟩ (hrel i x _ ha (Array.getElem?_eq_getElem hlt))
 refine calls_of_wp h1 h2 (wp_mono (h C b rfl rfl c h3 _ _ w (hR.ghost h0 hIb)) ?_)
 rintro e a' w' ⟨s', β', hR', he, hq⟩
 have hr0 : fn.results.toList = [] := by
  cases hl : fn.results.toList with
  | nil => rfl
  | cons x l =>
   rw [hl] at h4
   cases x with
   | tmp t =>
    simp only [oN] at h4
    cases hcr : oN P l <;> rw [hcr] at h4 <;> simp at h4
   | cell t ty =>
    simp only [oN] at h4
    obtain ⟨n, hn, h4⟩ := Option.bind_eq_some_iff.1 h4
    obtain ⟨ag, hag, h4⟩ := Option.bind_eq_some_iff.1 h4
    split at h4
    ·cases h4
    ·cases hcr : oN P l <;> rw [hcr] at h4 <;> simp at h4
 have hrun : (results fn a'.tmps).run P w' = .ok (.tuple #[]) w' := JD (us := []) (by rw [hr0]; rfl)
 have hfin := (hR'.WC hq)
 have hk : Kept (fun c => c = b) w w' := hR'.ok.kept
 rcases he with rfl | rfl
 ·exact ⟨hR'.defers, _, hrun, rfl, hk, hfin.2⟩
 ·exact ⟨hR'.defers, _, hrun, rfl, hk, hfin.2⟩
def T.simple : T → Bool
 | .v _ => true
 | _ => false
def IZ : T → Prop
 | .sl cs n => (cs = [] → n = 0) ∧ ∀ t ∈ cs, t.simple = true
 | .clo _ _ => False
 | _ => True
def Qg : S → Prop
 | .one t => IZ t
 | .agg ts => ∀ t ∈ ts, IZ t
 | .tup _ => False
theorem XU {w : World} {I : Nat → Prop} {b : Nat} {m : List Int} (h0 : MapAt w b m) {t : T} {u : Value} (hs : IZ t) (h : Rep w I t u) : Rep w (fun c => I c ∧ ¬ c = b) t u := by
 cases h with
 | v h => exact .v h
 | nil => exact .nil
 | sl0 A cap => exact .sl0 A cap
 | clo us hb' hcell hr => exact hs.elim
 | sl us hb' hcell hr hn =>
  rename_i cs n b' off cap
  cases cs with
  | nil => obtain rfl := hs.1 rfl; exact .sl0 _ _
  | cons t0 cs =>
   have hbb : b' ≠ b := by
    intro e
    subst e
    have := hcell 0 t0 rfl
    rw [NU h0 _ rfl] at this
    cases this
   refine .sl us ⟨hb', hbb⟩ hcell (fun j t hj => ?_) hn
   have h1 := hr j t hj
   have h2 := hs.2 t (List.mem_of_getElem? hj)
   revert h1 h2
   generalize us j = u
   intro h1 h2
   cases h1 with
   | v h => exact .v h
   | nil => exact .nil
   | _ => cases h2
theorem Y9 (x : Value) : IZ (.v x) = True := rfl
theorem Lc {α : Type} {e : α → List T} {l : List α} (h1 : ∀ x, (e x).isEmpty = false) (h2 : ∀ x, (e x).all T.simple = true) : IZ (.sl (flat e l) l.length) = True := by
 refine eq_true ⟨fun h => ?_, fun t ht => ?_⟩
 ·cases l with
  | nil => rfl
  | cons x l =>
   simp only [flat, List.flatMap_cons, List.append_eq_nil_iff] at h
   have := h1 x
   rw [h.1] at this
   cases this
 ·simp only [flat, List.mem_flatMap] at ht
  obtain ⟨x, _, ht⟩ := ht
  exact List.all_eq_true.1 (h2 x) t ht
theorem Lh {C : Ctx} {s : St} {d : Option Nat} {b : Nat} {m m' : List Int} {f : FuncId} {xs : List Operand} {ps : List S} {P : Program} (hP : C.P = P) (hMC : MC P f ps m m') (hx : xs.map s.ev = ps ++ [.one (.v (.map (some b)))]) (hp : S.isPure.DV ps = true) (hso : ∀ x ∈ ps, Qg x)
  (hg : jT s.env 1000 = .one (.uO b m)) (hE : C.E b ∨ C.w0.heap.size ≤ b) (hm : noM s = true) : Does C (.call f xs) d s false (· = (⟨(1000, .one (.uO b m')) :: s.env, s.st⟩ : St).put d (.tup [])) := by
 subst hP
 intro o ho hd hn β a w hR next R' hK
 obtain ⟨args, ats, ho, rfl, hc⟩ := ho
 unfold Oper.wp
 rw [Ai ho hc, Oper.upon_enter]
 obtain ⟨hb, h0⟩ := hR.WC hg
 have hlen : args.size = ps.length + 1 := by
  have := congrArg List.length hx
  simpa using this
 have hpure : ∀ x ∈ (ps ++ [S.one (.v (.map (some b)))]), x.isPure = true ∧ Qg x := by
  intro x hi
  rcases List.mem_append.1 hi with h | h
  ·obtain ⟨j, hj⟩ := List.getElem?_of_mem h
   exact ⟨S.xG hp hj, hso x h⟩
  ·simp at h; subst h; exact ⟨rfl, trivial⟩
 refine (hMC b w (fun c => C.I s.st β w c ∧ ¬ c = b) (fun c hc => ⟨C.Hy hR.ok.kept hc.1, hc.2⟩) (args.map a.eval) h0 (by simpa using hlen) ?_).mono ?_
 ·intro i x v h1 h2
  rw [← hx, List.getElem?_map] at h1
  obtain ⟨y, hy, rfl⟩ := Option.map_eq_some_iff.1 h1
  have hv : v = a.eval y := by
   rw [Array.getElem?_map] at h2
   have hy' : args[i]? = some y := by simpa using hy
   rw [hy'] at h2
   simpa using h2.symm
  subst hv
  have hmem : s.ev y ∈ ps ++ [S.one (.v (.map (some b)))] := by rw [← hx]; exact List.mem_map_of_mem (List.mem_of_getElem? hy)
  obtain ⟨h3, h4⟩ := hpure _ hmem
  have h5 := hR.ev y
  revert h5 h4 h3
  generalize s.ev y = x
  generalize a.eval y = u
  intro h3 h4 h5
  have one : ∀ (t : T) (u : Value), jc w s.st β (C.I s.st β w) t u → t.isPure = true → IZ t → jc w [] (fun _ => none) (fun c => C.I s.st β w c ∧ ¬ c = b) t u := fun t u h6 h7 h8 => (XU h0 h8 (T.yI h7 w _ _ _ u h6)).Ou
  cases h5 with
  | one h => exact .one (one _ _ h h3 h4)
  | agg hs h => exact .agg hs fun i t u h6 h7 => one _ _ (h i t u h6 h7) (kK h3 t (List.mem_of_getElem? h6)) (h4 t (List.mem_of_getElem? h6))
  | tup hs h => exact h4.elim
 ·rintro e w' ⟨rfl, hk, h1⟩
  have hR' := hR.aa2 (m' := m') hk hb hE h0 h1 hm
  refine hK _ β (a.put o.dst (.tuple #[])) w' rfl ?_ (fun h => by cases h)
  rw [hd]
  exact hR'.rQ (.tup rfl (fun i s u h => by simp at h)) hn
theorem Vq {α : Type} [Inhabited α] {e : α → List T} {f : α → T} (he : ∀ x, e x = [f x]) (l : List α) (n : Nat) (h : n ≤ l.length) : ((flat e l).drop 0).take n = (List.range n).map fun i : Nat => f (nth l (i : Int)) := by
 have key : ∀ l : List α, List.flatMap (fun x => [f x]) l = l.map f := by
  intro l
  induction l with
  | nil => rfl
  | cons a l ih => simp [List.flatMap_cons, ih]
 have e1 : flat e l = l.map f := by
  unfold flat
  rw [show e = fun x => [f x] from funext he]
  exact key l
 rw [e1, List.drop_zero]
 apply List.ext_getElem?
 intro i
 by_cases hi : i < n
 ·rw [List.getElem?_take, if_pos hi, List.getElem?_map, List.getElem?_map, List.getElem?_range hi, List.getElem?_eq_getElem (by omega)]
  simp [nth, List.getD_eq_getElem?_getD, List.getElem?_eq_getElem (show i < l.length by omega)]
 ·rw [List.getElem?_eq_none (by simp; omega), List.getElem?_eq_none (by simp; omega)]
end Go.V
set_option linter.unusedVariables false
namespace Go.V
section
variable {C : Ctx} {s : St} {l : List VOp} {Q : Exit → St → Prop} {x y v : cO}
theorem Eso (h : WL C l s (zV (EV C y Q) Q .normal)) : EV C (.seq (.ops l) y) Q s := bG (dO h)
theorem Wk (ks rs : List Nat) (h : EV C v Q (ZF ks rs s)) : WL C [] s (EV C v Q) := bW (aX ks rs h)
theorem Ec {ρ : Type} {o : Operand} {c : Bool} {a b : Option ρ} {r : ρ} (h : (bif c then a else b) = some r) (ho : s.ev o = .one (.v (.bool c))) (h1 : a = some r → c = true → EV C x Q s) (h2 : b = some r → c = false → EV C y Q s) : EV C (.cond o x y) Q s :=
 FC ho (fun hc => h1 (V9 h hc) hc) (fun hc => h2 (Wh h hc) hc)
theorem dst {n r off : Nat} {x y : Operand} {g : Reg} {z : S} {ys : List T} {d : Option Nat} (hx : s.ev x = .one (.ptr r off) := by rfl) (hg : dH s.st r = some g := by rfl) (hy : s.ev y = z := by rfl) (hc : z.cells s.st = some ys := by rfl) (hn : ys.length = n := by rfl)
  (hl : off + n ≤ g.cs.length := by exact Nat.le_of_ble_eq_true rfl) (hv : ys.all (Nv s.st) = true := by rfl) (h0 : n ≠ 0 := by decide) : Does C (.store n x y) d s false (· = (⟨s.env, sset s.st r ⟨g.pure && gG ys, splice g.cs off ys⟩⟩ : St).put d (.tup [])) := Nw hx hg hy hc hn hl hv h0
theorem qlA {x : Operand} {r off n : Nat} {g : Reg} {ts : List T} (hx : s.ev x = .one (.ptr r off) := by rfl) (hg : dH s.st r = some g := by rfl) (ht : (g.cs.drop off).take n = ts := by rfl) (hn : ts.length = n := by rfl) (h0 : n ≠ 0 := by decide) : Quiet C (.load true n x) s (.agg ts) := Ns hx hg ht hn h0
end
theorem LB {s s' : St} (h1 : Wq s.env s'.env := by (repeat refine ⟨rfl, ?_⟩); exact trivial) (h2 : l9 s.st s'.st := by (repeat refine ⟨rfl, ?_⟩); exact trivial) : LeB s s' := (ade h1 h2).b
theorem fe {Q' : Exit → St → Prop} {rs : List RV} {Q : S → Store → Prop} {s : St} {xs : List S} (hQ : Q' .ret s = Fin rs Q .ret s := by (try simp only [qt, qb, qn, qg]); exact rfl) (h : NM s rs xs := by first | exact ⟨_, rfl, rfl⟩ | exact ⟨_, rfl, ⟨_, rfl, rfl⟩⟩ | exact ⟨_, _, uQ rfl (by simp), rfl, rfl, ⟨_, rfl, rfl⟩⟩ | exact ⟨_, _, uQ rfl (by simp), rfl, rfl, rfl⟩ | exact ⟨_, _, uQ rfl (by simp), rfl, rfl, ⟨_, rfl, ⟨_, rfl, rfl⟩⟩⟩ | exact ⟨_, rfl, ⟨_, rfl, ⟨_, rfl, rfl⟩⟩⟩) (hq : Q (NP xs) s.st := by rfl) : Q' .ret s := by
 rw [hQ]; exact dN h hq
theorem fk {P : Program} {f : FuncId} {n : Nat} {vc : cO} {rs : List RV} {fn : Func} (hf : P.funcs[f]? = some fn) (h : (fn.body.bind (iJ P fn.ntmps)) = some vc := by kernel_rfl) (hr : oN P fn.results.toList = some rs := by kernel_rfl) (hn : n.ble fn.ntmps = true := by kernel_rfl) : Fits P f n vc rs := aaE hf h hr hn
section
variable {C : Ctx} {s : St} {d : Option Nat}
theorem qap {x : Operand} {n r off : Nat} {g : Reg} (hx : s.ev x = .one (.ptr r off) := by rfl) (hg : dH s.st r = some g := by rfl) : Quiet C (.add n x) s (.one (.ptr r (off + n))) := QO hx hg
theorem ql1 {x : Operand} {r off : Nat} {g : Reg} {t : T} (hx : s.ev x = .one (.ptr r off) := by rfl) (hg : dH s.st r = some g := by rfl) (ht : g.cs[off]? = some t := by rfl) : Quiet C (.load false 1 x) s (.one t) := DN hx hg ht
theorem qi {op : BinOp} {t : TypeId} {x y : Operand} {k : IntKind} {a b : Int} {z : Value} (hx : s.ev x = .one (.v (.int k a)) := by rfl) (hy : s.ev y = .one (.v (.int k b)) := by rfl) (hz : O4 op k a b = some z := by rfl) : Quiet C (.bin op t x y) s (.one (.v z)) := TP hx hy hz
theorem qm {x : Operand} {y : S} (hx : s.ev x = y := by rfl) : Quiet C (.mv x) s y := Wj hx
theorem qx {x : Operand} {n : Nat} {l : List S} {y : S} (hx : s.ev x = .tup l := by rfl) (hy : l[n]? = some y := by rfl) : Quiet C (.ext n x) s y := Zu hx hy
theorem qbu {zs : List T} {ps : List (Nat × Nat × Operand)} {xs : List (Nat × List T)} (hp : s.parts ps = some xs := by rfl) (hok : zF zs.length xs = true := by rfl) : Quiet C (.build zs ps) s (.agg (wJ zs xs)) := Vu hp hok
theorem qan {c x y : Operand} {b u : Bool} (hc : s.ev c = .one (.v (.bool b)) := by rfl) (hx : s.ev x = bif b == true then .one (.v (.bool u)) else .tup [] := by rfl) (hy : s.ev y = .one (.v (.bool false)) := by rfl) : Quiet C (.pick c x y) s (.one (.v (.bool (b && u)))) := ZG hc hx hy
theorem qor {c x y : Operand} {b u : Bool} (hc : s.ev c = .one (.v (.bool b)) := by rfl) (hx : s.ev x = .one (.v (.bool true)) := by rfl) (hy : s.ev y = bif b == false then .one (.v (.bool u)) else .tup [] := by rfl) : Quiet C (.pick c x y) s (.one (.v (.bool (b || u)))) := aaG hc hx hy
theorem qls {x : Operand} {cs : List T} {n : Nat} (hx : s.ev x = .one (.sl cs n) := by rfl) : Quiet C (.len false x) s (.one (.v (.int .i64 n))) := TK hx
theorem qnc {x : Operand} {r off : Nat} {g : Reg} (hx : s.ev x = .one (.ptr r off) := by rfl) (hg : dH s.st r = some g := by rfl) : Quiet C (.dG x) s (.one (.ptr r off)) := Ko hx hg
theorem qno {x : Operand} {b : Bool} (hx : s.ev x = .one (.v (.bool b)) := by rfl) : Quiet C (.un .not x) s (.one (.v (.bool (!b)))) := Zz hx
theorem qcv {k k' : IntKind} {x : Operand} {a : Int} (hx : s.ev x = .one (.v (.int k' a)) := by rfl) : Quiet C (.jd k x) s (.one (.v (.int k (k.wrap a)))) := Vw hx
theorem qad {t : TypeId} {x y : Operand} {a b : Int} (g : inI (a + b)) (hx : s.ev x = .one (.v (.int .i64 a)) := by rfl) (hy : s.ev y = .one (.v (.int .i64 b)) := by rfl) : Quiet C (.bin .add t x y) s (.one (.v (.int .i64 (a + b)))) := Zw hx hy g.1 g.2
theorem qsu {t : TypeId} {x y : Operand} {a b : Int} (g : inI (a - b)) (hx : s.ev x = .one (.v (.int .i64 a)) := by rfl) (hy : s.ev y = .one (.v (.int .i64 b)) := by rfl) : Quiet C (.bin .sub t x y) s (.one (.v (.int .i64 (a - b)))) := SA hx hy g.1 g.2
theorem qmu {t : TypeId} {x y : Operand} {a b : Int} (g : inI (a * b)) (hx : s.ev x = .one (.v (.int .i64 a)) := by rfl) (hy : s.ev y = .one (.v (.int .i64 b)) := by rfl) : Quiet C (.bin .mul t x y) s (.one (.v (.int .i64 (a * b)))) := Zx hx hy g.1 g.2
theorem qis {x i : Operand} {k n : Nat} {cs : List T} {ik : IntKind} {m : Int} (g : 0 ≤ m ∧ m < n) (hx : s.ev x = .one (.sl cs n) := by rfl) (hi : s.ev i = .one (.v (.int ik m)) := by rfl) : Quiet C (.fH k x i) s (.one (.psl cs (m.toNat * k))) := CU hx hi g.1 g.2
theorem qio {x i : Operand} {k r off n : Nat} {g : Reg} {ap : Option (Nat × TypeId)} {ik : IntKind} {m : Int} (g0 : 0 ≤ m ∧ m < n) (hx : s.ev x = .one (.own r off n ap) := by rfl) (hg : dH s.st r = some g := by rfl) (hi : s.ev i = .one (.v (.int ik m)) := by rfl) : Quiet C (.fH k x i) s (.one (.ptr r (off + m.toNat * k))) := GH hx hg hi g0.1 g0.2
theorem q1F {α : Type} {e : α → List T} [Inhabited α] (k : Nat) {x : Operand} {l : List α} {off : Nat} {t : T} {i : Int} (hi : ix l i) (j : Nat) (hx : s.ev x = .one (.psl (flat e l) off) := by rfl) (hk : ∀ x, (e x).length = k := by exact fun _ => rfl) (ho : off = i.toNat * k + j := by rfl) (ht : (e (nth l i))[j]? = some t := by rfl) : Quiet C (.load false 1 x) s (.one t) := CV hx hk hi j ho ht
theorem qAF {α : Type} {e : α → List T} [Inhabited α] (k : Nat) {x : Operand} {l : List α} {off n : Nat} {ts : List T} {i : Int} (hi : ix l i) (j : Nat) (hx : s.ev x = .one (.psl (flat e l) off) := by rfl) (hk : ∀ x, (e x).length = k := by exact fun _ => rfl) (ho : off = i.toNat * k + j := by rfl) (ht : ((e (nth l i)).drop j).take n = ts := by rfl) (hn : ts.length = n := by rfl) : Quiet C (.load true n x) s (.agg ts) := CY hx hk hi j ho ht hn
theorem dnv {r : Nat} {cs : List T} (hf : s.fresh r = true := by rfl) (hh : cs.all (fun t => !t.has r) = true := by rfl) : Does C (.jm cs) (some r) s true (· = (⟨s.env, (r, ⟨gG cs, cs⟩) :: s.st⟩ : St).put (some r) (.one (.ptr r 0))) := Xy hf hh
theorem dbx {e : TypeId} {r : Nat} {x : Operand} {y : S} {cs : List T} (hx : s.ev x = y := by rfl) (hc : y.cells s.st = some cs := by rfl) (hf : s.fresh r = true := by rfl) (hh : cs.all (fun t => !t.has r) = true := by rfl) : Does C (.box e x) (some r) s true (· = (⟨s.env, (r, ⟨gG cs, cs⟩) :: s.st⟩ : St).put (some r) (.one (.ptr r 0))) := Zv hx hc hf hh
theorem dbs {k e n r : Nat} {zs : List T} {ps : List (Nat × Nat × Operand)} {xs : List (Nat × List T)} (hp : s.parts ps = some xs := by rfl) (hok : zF zs.length xs = true := by rfl) (hf : s.fresh r = true := by rfl) (hh : (wJ zs xs).all (fun t => !t.has r) = true := by rfl) :
  Does C (.iW k e n zs ps) (some r) s true (· = (⟨s.env, (r, ⟨gG (wJ zs xs), wJ zs xs⟩) :: s.st⟩ : St).put (some r) (.one (.own r 0 n (some (k, e))))) := TN hp hok hf hh
theorem dc1 {P : Program} {f : FuncId} {xs : List Operand} {ps : List S} {X : S} (hP : C.P = P) (hAC : PC P f ps X) (hx : xs.map s.ev = ps := by rfl) (hp : S.isPure.DV ps = true := by rfl) (hX : X.isPure = true := by rfl) : Does C (.call f xs) d s true (· = s.put d X) := yu hP hAC hx hp hX
end
abbrev vi (x : Int) : T := .v (.int .i64 x)
abbrev vu (x : Int) : T := .v (.int .u64 x)
abbrev vb (x : Bool) : T := .v (.bool x)
abbrev zi_ (x : Int) : S := .one (.v (.int .i64 x))
abbrev zu_ (x : Int) : S := .one (.v (.int .u64 x))
abbrev zb_ (x : Bool) : S := .one (.v (.bool x))
abbrev sl {α : Type} (e : α → List T) (l : List α) : T := .sl (flat e l) l.length
abbrev ss {α : Type} (e : α → List T) (l : List α) : S := .one (.sl (flat e l) l.length)
instance (n : Nat) : OfNat Operand n := ⟨.tmp n⟩
@[simp] theorem afh (n : Nat) : (OfNat.ofNat n : Operand) = .tmp n := rfl
@[simp] abbrev q (l : List VOp) (c : cO) : cO := .seq (.ops l) c
@[simp] abbrev nn : Bool := false
@[simp] abbrev yy : Bool := true
end Go.V
set_option linter.unusedVariables false
set_option linter.unusedSimpArgs false
namespace Go.V
open Go.Deep Go.WideShapes
def Cells (w : World) (es : List T) (cs : List Value) : Prop := cs.length = es.length ∧ ∀ (j : Nat) (t : T) (u : Value), es[j]? = some t → cs[j]? = some u → Rep w (fun b => b < w.heap.size) t u
def Dec (P : Program) (t : TypeId) (n : Nat) {α : Type} (e : α → List T) (ok : α → Prop) : Prop :=
 (∀ a, (e a).length = n) ∧ P.cellsOf t = n ∧ ∀ (H : Type) (enc : TypeId × Value → H) (w : World) (base : Nat) (sp : Nat → Bool) (hd : Bool) (fuel : Nat) (cs : List Value) (x : DataW H × List MemPlace),
  DataW.trod enc P w base sp hd fuel t cs = some x → ∃ a, ok a ∧ Cells w (e a) cs
def JJ (P : Program) (fs : List (TypeId × Nat)) (o n : Nat) {α : Type} (e : α → List T) (ok : α → Prop) : Prop :=
 (∀ a, (e a).length = n) ∧ ∀ (H : Type) (enc : TypeId × Value → H) (w : World) (base : Nat) (sp : Nat → Bool) (hd : Bool) (fuel : Nat) (cs : List Value),
  cs.length = o + n → (∀ (i : Nat) (f : TypeId × Nat), fs[i]? = some f → ∃ y, DataW.trod enc P w base sp hd fuel f.1 ((cs.drop f.2).take (P.cellsOf f.1)) = some y) → ∃ a, ok a ∧ Cells w (e a) (cs.drop o)
section
variable {P : Program} {t : TypeId} {n : Nat} {α β : Type} {e : α → List T} {ok : α → Prop}
theorem Cells.one {w : World} {t : T} {u : Value} (h : Rep w (fun b => b < w.heap.size) t u) : Cells w [t] [u] := by
 refine ⟨rfl, fun j a b h1 h2 => ?_⟩
 match j, h1, h2 with
 | 0, h1, h2 =>
  simp at h1 h2; subst h1; subst h2; exact h
 | j + 1, h1, h2 => simp at h1
theorem Dec.map (h : Dec P t n e ok) (g : α → β) {e' : β → List T} {ok' : β → Prop} (h1 : ∀ a, e' (g a) = e a) (h2 : ∀ a, ok a → ok' (g a)) (h3 : ∀ b, (e' b).length = n) : Dec P t n e' ok' := by
 refine ⟨h3, h.2.1, fun H enc w base sp hd fuel cs x hx => ?_⟩
 obtain ⟨a, ha, hc⟩ := h.2.2 H enc w base sp hd fuel cs x hx
 exact ⟨g a, h2 a ha, by rw [h1]; exact hc⟩
theorem Dec.int {k : IntKind} (ht : P.underlying t = some (.int k)) (hc : P.cellsOf t = 1) : Dec P t 1 (fun x : Int => [.v (.int k x)]) (fun x => (Lit.int k x).wf = true) := by
 refine ⟨fun _ => rfl, hc, fun H enc w base sp hd fuel cs x hx => ?_⟩
 obtain ⟨m, rfl, _, hw⟩ := DataW.trod_int ht hx
 exact ⟨m, hw, Cells.one (.v rfl)⟩
theorem Dec.bool (ht : P.underlying t = some .bool) (hc : P.cellsOf t = 1) : Dec P t 1 (fun x : Bool => [.v (.bool x)]) (fun _ => True) := by
 refine ⟨fun _ => rfl, hc, fun H enc w base sp hd fuel cs x hx => ?_⟩
 obtain ⟨m, rfl, _⟩ := DataW.trod_bool ht hx
 exact ⟨m, trivial, Cells.one (.v rfl)⟩
theorem JJ.nil (o : Nat) : JJ P [] o 0 (fun _ : Unit => []) (fun _ => True) := by
 refine ⟨fun _ => rfl, fun H enc w base sp hd fuel cs hl _ => ⟨(), trivial, ?_, fun j t u h1 _ => by simp at h1⟩⟩
 simp [hl]
theorem JJ.cons {fs : List (TypeId × Nat)} {o m : Nat} {e' : β → List T} {ok' : β → Prop} (h : Dec P t n e ok) (h' : JJ P fs (o + n) m e' ok') : JJ P ((t, o) :: fs) o (n + m) (fun p : α × β => e p.1 ++ e' p.2) (fun p => ok p.1 ∧ ok' p.2) := by
 refine ⟨fun p => by rw [List.length_append, h.1, h'.1], fun H enc w base sp hd fuel cs hl hx => ?_⟩
 obtain ⟨y, hy⟩ := hx 0 _ rfl
 rw [h.2.1] at hy
 obtain ⟨a, ha, hca⟩ := h.2.2 H enc w base sp hd fuel _ y hy
 obtain ⟨b, hb, hcb⟩ := h'.2 H enc w base sp hd fuel cs (by omega) fun i f hi => hx (i + 1) f (by simpa using hi)
 refine ⟨(a, b), ⟨ha, hb⟩, ?_, fun j t u h1 h2 => ?_⟩
 ·simp only [List.length_append, h.1, h'.1, List.length_drop]; omega
 ·by_cases hj : j < n
  ·rw [List.getElem?_append_left (by rw [h.1]; exact hj)] at h1
   refine hca.2 j t u h1 ?_
   rw [List.getElem?_take, if_pos hj]; exact h2
  ·rw [List.getElem?_append_right (by rw [h.1]; omega), h.1] at h1
   refine hcb.2 (j - n) t u h1 ?_
   rw [List.getElem?_drop] at h2 ⊢
   rw [show o + n + (j - n) = o + j by omega]; exact h2
theorem Dec.struct {fs : Array Field} (ht : P.underlying t = some (.struct fs)) (hc : P.cellsOf t = n) (h : JJ P (fs.toList.map fun f => (f.type, f.offset)) 0 n e ok) : Dec P t n e ok := by
 refine ⟨h.1, hc, fun H enc w base sp hd fuel cs x hx => ?_⟩
 obtain ⟨xs, m, rfl, rfl, hl, hxl, hf⟩ := DataW.trod_struct ht hx
 have := h.2 H enc w base sp hd m cs (by omega) fun i f hi => by
  rw [List.getElem?_map] at hi
  obtain ⟨g, hg, rfl⟩ := Option.map_eq_some_iff.1 hi
  have hg' : fs[i]? = some g := by simpa using hg
  rw [hf i g hg']
  have hlt : i < fs.size := (Array.getElem?_eq_some_iff.1 hg').1
  exact ⟨xs[i]'(by omega), List.getElem?_eq_getElem (by omega)⟩
 simpa using this
theorem Dec.array {k c : Nat} {te : TypeId} (ht : P.underlying t = some (.array k te)) (hc : P.cellsOf t = n) (hcc : P.cellsOf te = c) (h : JJ P ((List.range k).map fun i => (te, i * c)) 0 n e ok) : Dec P t n e ok := by
 subst hcc
 refine ⟨h.1, hc, fun H enc w base sp hd fuel cs x hx => ?_⟩
 obtain ⟨xs, m, rfl, rfl, hl, hxl, hf⟩ := DataW.trod_array ht hx
 have := h.2 H enc w base sp hd m cs (by omega) fun i f hi => by
  rw [List.getElem?_map] at hi
  obtain ⟨g, hg, rfl⟩ := Option.map_eq_some_iff.1 hi
  have hlt : i < k := by
   have := (List.getElem?_eq_some_iff.1 hg).1; simpa using this
  have hgi : g = i := by
   have := (List.getElem?_eq_some_iff.1 hg).2; simpa using this.symm
  subst hgi
  show ∃ y, DataW.trod enc P w base sp hd m te ((cs.drop (g * P.cellsOf te)).take (P.cellsOf te)) = some y
  rw [hf g hlt]
  exact ⟨xs[g]'(by omega), List.getElem?_eq_getElem (by omega)⟩
 simpa using this
theorem Dec.slice {te : TypeId} (hn : 0 < n) (h : Dec P te n e ok) (ht : P.underlying t = some (.slice te)) (hc : P.cellsOf t = 1) : Dec P t 1 (fun l : List α => [.sl (flat e l) l.length]) (fun l => ∀ i : Nat, ∀ a, l[i]? = some a → ok a) := by
 refine ⟨fun _ => rfl, hc, fun H enc w base sp hd fuel cs x hx => ?_⟩
 rcases open_slice ht hx with ⟨rfl, _⟩ | ⟨a, len, cap, m, fu, D, Pl, rfl, hb, hl, hm, hmm, _, hall⟩
 ·exact ⟨[], fun i a h => by simp at h, Cells.one (.sl0 none 0)⟩
 have afg : len ≤ m := by rw [hmm]; split <;> omega
 have hex : ∀ i, i < len → ∃ v : α × List Value, ok v.1 ∧ Cells w (e v.1) v.2 ∧ ∀ j, j < n → w.cell? ((a.add (i * n)).add j) = v.2[j]? := by
  intro i hi
  obtain ⟨cs', h1, h2⟩ := hall i (by omega)
  rw [h.2.1] at h1
  obtain ⟨v, hv, hcv⟩ := h.2.2 H enc w base sp hd fu cs' _ h2
  obtain ⟨_, h3, h4⟩ := World.cells?_some h1
  exact ⟨(v, cs'), hv, hcv, h4⟩
 by_cases h0 : len = 0
 ·subst h0
  exact ⟨[], fun i a h => by simp at h, Cells.one (.sl0 _ _)⟩
 obtain ⟨v0, hv0⟩ := hex 0 (by omega)
 have inh : Inhabited (α × List Value) := ⟨v0⟩
 obtain ⟨f, hf⟩ := choose_lt hex
 have hspot : a.spot = none := by
  have h1 := (hf 0 (by omega)).2.2 0 hn
  rw [Nat.zero_mul] at h1
  have hlen := (hf 0 (by omega)).2.1.1
  rw [h.1] at hlen
  rw [List.getElem?_eq_getElem (by omega)] at h1
  unfold World.cell? at h1
  simp only [Addr.add, if_true] at h1
  split at h1
  ·split at h1
   ·cases h1
   ·rename_i hs; simpa using hs
  ·cases h1
 obtain ⟨b, off, spot⟩ := a
 simp only at hspot
 subst hspot
 have hadd : ∀ i j, ((⟨b, off, none⟩ : Addr).add i).add j = ⟨b, off + (i + j), none⟩ := by
  intro i j
  rw [add_add]
  unfold Addr.add
  split
  ·rename_i hz; rw [hz]; rfl
  ·rfl
 have hlt : b < w.heap.size := by
  have h1 := (hf 0 (by omega)).2.2 0 hn
  have hlen := (hf 0 (by omega)).2.1.1
  rw [h.1] at hlen
  rw [hadd, List.getElem?_eq_getElem (by omega)] at h1
  unfold World.cell? at h1
  dsimp only at h1
  split at h1
  ·rename_i hh; exact (Array.getElem?_eq_some_iff.1 hh).1
  ·cases h1
 have hget : ∀ (j : Nat) (tt : T), (flat e ((List.range len).map fun i => (f i).1))[j]? = some tt → j / n < len ∧ (e (f (j / n)).1)[j % n]? = some tt := by
  intro j tt hj
  have hjl := (List.getElem?_eq_some_iff.1 hj).1
  rw [uU (fun x => h.1 x), List.length_map, List.length_range] at hjl
  have hq : j / n < len := Nat.div_lt_of_lt_mul (by rw [Nat.mul_comm]; exact hjl)
  refine ⟨hq, ?_⟩
  have := flat_get (fun x => h.1 x) ((List.range len).map fun i => (f i).1) (j / n) (f (j / n)).1 (by simp [hq]) (j % n) (Nat.mod_lt _ hn)
  rw [← this, ← hj]
  congr 1
  rw [Nat.mul_comm]; exact Nat.div_add_mod j n
 have hval : ∀ i, i < len → (f i).2.length = n := fun i hi => by rw [(hf i hi).2.1.1, h.1]
 refine ⟨(List.range len).map fun i => (f i).1, fun i a hi => ?_, Cells.one ?_⟩
 ·rw [List.getElem?_map] at hi
  obtain ⟨g, hg, rfl⟩ := Option.map_eq_some_iff.1 hi
  have hlt := (List.getElem?_eq_some_iff.1 hg).1
  have hgi := (List.getElem?_eq_some_iff.1 hg).2
  simp at hlt hgi
  subst hgi
  exact (hf i hlt).1
 ·have hll : ((List.range len).map fun i => (f i).1).length = len := by simp
  rw [hll]
  refine .sl (fun j => (f (j / n)).2.getD (j % n) default) hlt (fun j tt hj => ?_) (fun j tt hj => ?_) hl
  ·obtain ⟨hq, he⟩ := hget j tt hj
   have h1 := (hf (j / n) hq).2.2 (j % n) (Nat.mod_lt _ hn)
   rw [hadd] at h1
   have h2 := hval (j / n) hq
   have hm := Nat.mod_lt j hn
   rw [show j / n * n + j % n = j by rw [Nat.mul_comm]; exact Nat.div_add_mod j n] at h1
   rw [h1, List.getD_eq_getElem?_getD, List.getElem?_eq_getElem (by omega)]
   rfl
  ·obtain ⟨hq, he⟩ := hget j tt hj
   have hm := Nat.mod_lt j hn
   have h2 := hval (j / n) hq
   refine (hf (j / n) hq).2.1.2 (j % n) tt _ he ?_
   rw [List.getD_eq_getElem?_getD, List.getElem?_eq_getElem (by omega)]
   rfl
theorem Dec.adS {H : Type} {enc : TypeId × Value → H} {w : World} {base : Nat} {sp : Nat → Bool} {hd : Bool} {us : Array Value} {x : DataW H} {p : List MemPlace} (h : Dec P t n e ok) (hx : DataW.Trod enc P w base sp hd t (.agg us) x p) {st : Store} {β : Nat → Option Nat} :
  ∃ a, ok a ∧ iy w st β (fun b => b < w.heap.size) (.agg (e a)) (.agg us) := by
 obtain ⟨fuel, hx⟩ := hx
 obtain ⟨a, ha, hc⟩ := h.2.2 H enc w base sp hd fuel _ _ hx
 have hc1 : us.toList.length = (e a).length := hc.1
 refine ⟨a, ha, .agg (by simpa using hc1) fun i tt u h1 h2 => Rep.Ou (hc.2 i tt u h1 ?_)⟩
 show us.toList[i]? = some u
 simpa using h2
end
end Go.V
