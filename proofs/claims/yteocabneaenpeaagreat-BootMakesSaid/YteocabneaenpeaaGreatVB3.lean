/- The V-layer, part B3: operations that make or write memory; arithmetic. No premises. -/
import Derived.Test.YteocabneaenpeaaGreatVB
import Derived.Laws.MakeOwn
set_option linter.unusedVariables false
set_option linter.unusedSimpArgs false
namespace Go.V
open Go.RowKit

theorem T.pure_rep {t : T} (h : t.isPure = true) (w : World) (st : Store) (β : Nat → Option Nat) (I : Nat → Prop) (u : Value) (hr : RelT w st β I t u) : Rep w I t u := by
  cases t <;> first | exact hr | cases h
def allPure : List T → Bool
  | [] => true
  | t :: l => t.isPure && allPure l
theorem allPure_mem {l : List T} (h : allPure l = true) : ∀ t ∈ l, t.isPure = true := by
  induction l with
  | nil => simp
  | cons x l ih =>
    simp only [allPure, Bool.and_eq_true] at h
    intro t ht
    rcases List.mem_cons.1 ht with rfl | ht
    · exact h.1
    · exact ih h.2 t ht
theorem allPure_of {l : List T} (h : ∀ t ∈ l, t.isPure = true) : allPure l = true := by
  induction l with
  | nil => rfl
  | cons x l ih => simp only [allPure, Bool.and_eq_true]; exact ⟨h x (by simp), ih fun t ht => h t (by simp [ht])⟩
theorem kept_alloc (w : World) (o : Obj) : Kept (fun _ => False) w (w.alloc o) :=
  ⟨rfl, rfl, rfl, by simp, fun b hb _ => Below.heap_alloc w _ b hb, fun b cur ety hh => ⟨cur, (Below.heap_alloc w _ b (Array.getElem?_eq_some_iff.1 hh).1).trans hh, rfl⟩⟩
/-- A new block, owned as region r. -/
theorem R.alloc {C : Ctx} {s : St} {β : Nat → Option Nat} {a : Act} {w : World} (hR : R C s β a w) {r : Nat} (hf : s.fresh r = true) (cur : Array Value) (ety : TypeId) (g : Reg)
    (hl : g.cs.length ≤ cur.size) (hp : g.pure = true → ∀ t ∈ g.cs, t.isPure = true) (hc : ∀ (j : Nat) (t : T), g.cs[j]? = some t → ∃ u, cur[j]? = some u ∧ RelT w s.st β (C.I s.st β w) t u ∧ t.has r = false) :
    R C ⟨s.env, (r, g) :: s.st⟩ (fun q => if q = r then some w.heap.size else β q) a (w.alloc (.cells cur ety)) := by
  have hnone := St.fresh_none hf
  have hsome : ∀ q, (sget ((r, g) :: s.st) q).isSome = true → q = r ∨ (q ≠ r ∧ (sget s.st q).isSome = true) := by
    intro q hq
    by_cases h : q = r
    · exact .inl h
    · rw [sget_cons_ne _ _ (fun e => h e.symm)] at hq; exact .inr ⟨h, hq⟩
  have hheap : ∀ b, b < w.heap.size → (w.alloc (.cells cur ety)).heap[b]? = w.heap[b]? := fun b hb => Below.heap_alloc w _ b hb
  have hsz : (w.alloc (.cells cur ety)).heap.size = w.heap.size + 1 := by simp
  have hI : ∀ b, C.I s.st β w b → C.I ((r, g) :: s.st) (fun q => if q = r then some w.heap.size else β q) (w.alloc (.cells cur ety)) b := by
    intro b hb
    have hlt := C.I_lt hR.ok.kept hb
    rcases hb with h0 | ⟨h1, h2, h3⟩
    · exact .inl h0
    · refine .inr ⟨h1, by omega, fun q hq => ?_⟩
      rcases hsome q hq with rfl | ⟨hne, hq'⟩
      · simp; omega
      · simp only [hne, if_false]; exact h3 q hq'
  have hx : ExtN (· = r) (C.I s.st β w) (C.I ((r, g) :: s.st) (fun q => if q = r then some w.heap.size else β q) (w.alloc (.cells cur ety))) s.st ((r, g) :: s.st) β (fun q => if q = r then some w.heap.size else β q) w (w.alloc (.cells cur ety)) := by
    refine ⟨hI, fun b hb => hheap b (C.I_lt hR.ok.kept hb), fun q hq hs => ?_, fun q b hq hs hb c e hh => ?_⟩
    · rcases hsome q hs with h | ⟨_, h⟩
      · exact absurd h hq
      · exact ⟨h, by simp [show ¬ q = r from hq]⟩
    · rcases hsome q hs with h | ⟨_, h⟩
      · exact absurd h hq
      · exact ⟨c, (hheap b (hR.ok.lt h hb)).trans hh, rfl⟩
  refine hR.turn (N := (· = r)) ⟨?_, ?_, ?_, ?_, fun q b hq hf' => ?_⟩ hx ?_
  rotate_left 4
  · rcases hsome q hq with rfl | ⟨hne, h⟩
    · rw [C.fx q (St.fresh_lt hf)] at hf'; cases hf'
    · simp only [hne, if_false]; exact hR.ok.fixd q b h hf'
  rotate_right 4
  · refine ⟨hR.ok.kept.os, hR.ok.kept.tape, hR.ok.kept.output, by have := hR.ok.kept.size; omega, fun b hb hE => (hheap b (by have := hR.ok.kept.size; omega)).trans (hR.ok.kept.block b hb hE), fun b c e hh => ?_⟩
    obtain ⟨c', h1, h2⟩ := hR.ok.kept.shape b c e hh
    exact ⟨c', (hheap b (Array.getElem?_eq_some_iff.1 h1).1).trans h1, h2⟩
  · intro q g' hg
    by_cases hq : q = r
    · subst hq
      rw [sget_cons_same] at hg
      injection hg with hg
      subst hg
      refine ⟨fun h1 t ht => hp h1 t ht, ?_⟩
      simp only [if_true]
      refine ⟨cur, ety, heap_alloc_new w _, hl, fun j t hj => ?_⟩
      obtain ⟨u, h1, h2, h3⟩ := hc j t hj
      exact ⟨u, h1, RelT.extN hx (fun q' hq' => by subst hq'; exact h3) h2⟩
    · rw [sget_cons_ne _ _ (fun e => hq e.symm)] at hg
      have := hR.ok.store q g' hg
      refine ⟨this.1, ?_⟩
      have h2 := this.2
      simp only [hq, if_false]
      cases hb : β q with
      | none => rw [hb] at h2; exact h2
      | some b =>
        rw [hb] at h2
        obtain ⟨c, e, h3, h4, h5⟩ := h2
        refine ⟨c, e, (hheap b (hR.ok.lt (by rw [hg]; rfl) hb)).trans h3, h4, fun j t hj => ?_⟩
        obtain ⟨u, h6, h7⟩ := h5 j t hj
        exact ⟨u, h6, RelT.extN hx (fun q' hq' => by subst hq'; exact St.fresh_st hf hR.ok hg (List.mem_of_getElem? hj)) h7⟩
  · intro q q' b hq hq' hb hb'
    rcases hsome q hq with rfl | ⟨hne, h⟩ <;> rcases hsome q' hq' with rfl | ⟨hne', h'⟩
    · rfl
    · simp only [if_true] at hb; simp only [hne', if_false] at hb'
      have := hR.ok.lt h' hb'
      injection hb with hb; omega
    · simp only [if_true] at hb'; simp only [hne, if_false] at hb
      have := hR.ok.lt h hb
      injection hb' with hb'; omega
    · simp only [hne, if_false] at hb; simp only [hne', if_false] at hb'
      exact hR.ok.inj q q' b h h' hb hb'
  · intro q b hq hb
    rcases hsome q hq with rfl | ⟨hne, h⟩
    · simp only [if_true] at hb; injection hb with hb
      have := hR.ok.kept.size
      exact .inr (by omega)
    · simp only [hne, if_false] at hb
      exact hR.ok.wher q b h hb
  · rintro q rfl i
    exact St.fresh_env hf i

/-- The cells of a value; 'none' where that is not known. -/
def S.cells (st : Store) : S → Option (List T)
  | .one (.dead) => none
  | .one (.own r off n ap) => bif (sget st r).isSome then some [.own r off n ap] else none
  | .one (.ptr r off) => bif (sget st r).isSome then some [.ptr r off] else none
  | .one t => some [t]
  | .agg ts => some ts
  | .tup _ => none
theorem cells_rel {w : World} {st : Store} {β : Nat → Option Nat} {I : Nat → Prop} {x : S} {u : Value} {ts : List T} (hx : RelS w st β I x u) (h : x.cells st = some ts) :
    u.cells.size = ts.length ∧ ∀ (j : Nat) (t : T), ts[j]? = some t → ∃ v, u.cells[j]? = some v ∧ RelT w st β I t v := by
  have one : ∀ t : T, RelT w st β I t u → u.oneCell' = true → u.cells.size = [t].length ∧ ∀ (j : Nat) (t' : T), [t][j]? = some t' → ∃ v, u.cells[j]? = some v ∧ RelT w st β I t' v := by
    intro t ht h1
    have : u.cells = #[u] := by cases u <;> first | rfl | (cases h1)
    rw [this]
    refine ⟨rfl, fun j t' hj => ?_⟩
    cases j with
    | zero => simp at hj; subst hj; exact ⟨u, by simp, ht⟩
    | succ j => simp at hj
  cases hx with
  | one ht =>
    rename_i t
    cases t with
    | dead => cases h
    | v x => injection h with h; subst h; exact one _ ht (Rep.oneCell ht)
    | nil => injection h with h; subst h; exact one _ ht (Rep.oneCell ht)
    | sl cs n => injection h with h; subst h; exact one _ ht (Rep.oneCell ht)
    | psl cs off =>
      injection h with h; subst h
      obtain ⟨b, o, us, _, rfl, _⟩ := ht
      exact one _ ⟨b, o, us, by assumption, rfl, by assumption⟩ rfl
    | own r off n ap =>
      simp only [S.cells] at h
      cases hs : (sget st r).isSome with
      | false => rw [hs] at h; cases h
      | true =>
        rw [hs] at h; injection h with h; subst h
        refine one _ ht ?_
        have := ht hs
        unfold OwnOK at this
        cases hb : β r with
        | none => rw [hb] at this; rw [this.2]; rfl
        | some b => rw [hb] at this; obtain ⟨A, cap, cur, ety, rfl, _⟩ := this; rfl
    | ptr r off =>
      simp only [S.cells] at h
      cases hs : (sget st r).isSome with
      | false => rw [hs] at h; cases h
      | true =>
        rw [hs] at h; injection h with h; subst h
        refine one _ ht ?_
        obtain ⟨b, _, rfl⟩ := ht hs
        rfl
  | agg hs hr =>
    injection h with h; subst h
    refine ⟨hs, fun j t hj => ?_⟩
    have hlt := (List.getElem?_eq_some_iff.1 hj).1
    rename_i us
    have : us[j]? = some us[j] := Array.getElem?_eq_getElem (by omega)
    exact ⟨_, this, hr j t _ hj this⟩
  | tup hs hr => cases h

section
variable {C : Ctx} {s : St} {r : Nat}
theorem does_newv {cs : List T} (hf : s.fresh r = true) (hh : cs.all (fun t => !t.has r) = true) : Does C (.newv cs) (some r) s true (· = (⟨s.env, (r, ⟨allPure cs, cs⟩) :: s.st⟩ : St).put (some r) (.one (.ptr r 0))) := by
  refine does_new fun o ho β a w hR => ?_
  obtain ⟨e, z, ho, hz, rfl⟩ := ho
  have h1 := hR.alloc hf z.cells e ⟨allPure (z.cells.toList.map ofCell), z.cells.toList.map ofCell⟩ (by simp) (fun h => allPure_mem h) (fun j t hj => by
    rw [List.getElem?_map] at hj
    obtain ⟨u, hu, rfl⟩ := Option.map_eq_some_iff.1 hj
    refine ⟨u, by simpa using hu, relT_ofCell .., ?_⟩
    have := List.all_eq_true.1 hh (ofCell u) (List.mem_map_of_mem (List.mem_of_getElem? hu))
    simpa using this)
  refine ⟨.pointer (some ⟨w.heap.size, 0, none⟩), _, _, ?_, h1, .one fun _ => ⟨_, by simp, rfl⟩, fun _ => kept_alloc w _⟩
  simp [execOp, ho, Instr.alloc, run_zero hz, newVar, newRow]
theorem does_box {e : TypeId} {x : Operand} {y : S} {cs : List T} (hx : s.ev x = y) (hc : y.cells s.st = some cs) (hf : s.fresh r = true) (hh : cs.all (fun t => !t.has r) = true) :
    Does C (.box e x) (some r) s true (· = (⟨s.env, (r, ⟨allPure cs, cs⟩) :: s.st⟩ : St).put (some r) (.one (.ptr r 0))) := by
  refine does_new fun o ho β a w hR => ?_
  replace ho : o.op = .box e x := ho
  obtain ⟨h1, h2⟩ := cells_rel (hx ▸ hR.ev x) hc
  have h3 := hR.alloc hf (a.eval x).cells e ⟨allPure cs, cs⟩ (by simp only; omega) (fun h => allPure_mem h) (fun j t hj => by
    obtain ⟨v, h4, h5⟩ := h2 j t hj
    refine ⟨v, h4, h5, ?_⟩
    have := List.all_eq_true.1 hh t (List.mem_of_getElem? hj)
    simpa using this)
  refine ⟨.pointer (some ⟨w.heap.size, 0, none⟩), _, _, ?_, h3, .one fun _ => ⟨_, by simp, rfl⟩, fun _ => kept_alloc w _⟩
  simp [execOp, ho, Instr.box, newVar, newRow]
end

/-- Cells written into an owned region. -/
theorem R.write {C : Ctx} {s : St} {β : Nat → Option Nat} {a : Act} {w : World} (hR : R C s β a w) {r b : Nat} {g : Reg} (hg : sget s.st r = some g) (hb : β r = some b) (cur' : Array Value) (g' : Reg)
    (hl : g'.cs.length ≤ cur'.size) (hsz : ∀ cur ety, w.heap[b]? = some (.cells cur ety (0, 0)) → cur'.size = cur.size) (hp : g'.pure = true → ∀ t ∈ g'.cs, t.isPure = true ∨ (g.pure = true ∧ t ∈ g.cs))
    (hc : ∀ (j : Nat) (t : T), g'.cs[j]? = some t → ∃ u, cur'[j]? = some u ∧ RelT w s.st β (C.I s.st β w) t u) : R C ⟨s.env, sset s.st r g'⟩ β a (w.setRow b cur') := by
  obtain ⟨cur0, ety, hh0, _⟩ : ∃ cur0 ety, w.heap[b]? = some (.cells cur0 ety (0, 0)) ∧ True := by
    have := (hR.ok.store r g hg).2
    rw [hb] at this
    obtain ⟨c, e, h, _⟩ := this
    exact ⟨c, e, h, trivial⟩
  have hrs : (sget s.st r).isSome = true := by rw [hg]; rfl
  have hother : ∀ k, k ≠ b → (w.setRow b cur').heap[k]? = w.heap[k]? := by
    intro k hk
    simp only [World.setRow, Array.getElem?_modify]
    rw [if_neg (by omega)]
  have hsame : (w.setRow b cur').heap[b]? = some (.cells cur' ety (0, 0)) := by
    exact setRow_heap w b cur0 cur' ety (0, 0) hh0
  have hsize : (w.setRow b cur').heap.size = w.heap.size := by simp [World.setRow]
  have hsome : ∀ q, (sget (sset s.st r g') q).isSome = (sget s.st q).isSome := fun q => sget_sset_isSome ..
  have hI : ∀ c, C.I (sset s.st r g') β (w.setRow b cur') c ↔ C.I s.st β w c := by
    intro c
    unfold Ctx.I
    rw [hsize]
    simp only [hsome]
  have hIe : C.I (sset s.st r g') β (w.setRow b cur') = C.I s.st β w := funext fun c => propext (hI c)
  have hnI : ¬ C.I s.st β w b := hR.ok.notI hrs hb
  have hx : Ext (C.I s.st β w) (C.I (sset s.st r g') β (w.setRow b cur')) s.st (sset s.st r g') β β w (w.setRow b cur') := by
    refine ⟨fun c hc => (hI c).2 hc, fun c hc => hother c (fun e => by subst e; exact hnI hc), fun q hq => ⟨by rw [hsome] at hq; exact hq, rfl⟩, fun q c hq hqc cc e hh => ?_⟩
    by_cases h : c = b
    · subst h
      have : e = ety := by rw [hh0] at hh; injection hh with hh; injection hh with _ hh; exact hh.symm
      subst this
      exact ⟨cur', hsame, hsz cc e hh⟩
    · exact ⟨cc, (hother c h).trans hh, rfl⟩
  refine hR.turn (N := fun _ => False) ⟨?_, ?_, ?_, ?_, fun q b hq hf => hR.ok.fixd q b (by rw [hsome] at hq; exact hq) hf⟩ (hx.toN _) (fun _ hh => hh.elim)
  · have hE := hR.ok.wher r b hrs hb
    refine ⟨hR.ok.kept.os, hR.ok.kept.tape, hR.ok.kept.output, by rw [hsize]; exact hR.ok.kept.size, fun c hc hE' => ?_, fun c cc e hh => ?_⟩
    · by_cases h : c = b
      · subst h
        rcases hE with hE | hE
        · exact absurd hE hE'
        · omega
      · exact (hother c h).trans (hR.ok.kept.block c hc hE')
    · obtain ⟨c', h1, h2⟩ := hR.ok.kept.shape c cc e hh
      by_cases h : c = b
      · subst h
        have : e = ety := by rw [hh0] at h1; injection h1 with h1; injection h1 with _ h1; exact h1.symm
        subst this
        exact ⟨cur', hsame, (hsz _ _ h1).trans h2⟩
      · exact ⟨c', (hother c h).trans h1, h2⟩
  · intro q gq hq
    by_cases h : r = q
    · subst h
      rw [sget_sset_same _ _ _ hrs] at hq
      injection hq with hq
      subst hq
      refine ⟨fun h1 t ht => ?_, ?_⟩
      · rcases hp h1 t ht with h2 | ⟨h2, h3⟩
        · exact h2
        · exact (hR.ok.store r g hg).1 h2 t h3
      · rw [hb]
        refine ⟨cur', ety, hsame, hl, fun j t hj => ?_⟩
        obtain ⟨u, h1, h2⟩ := hc j t hj
        exact ⟨u, h1, RelT.ext hx h2⟩
    · rw [sget_sset_ne _ _ h] at hq
      have := hR.ok.store q gq hq
      refine ⟨this.1, ?_⟩
      have h2 := this.2
      cases hbq : β q with
      | none => rw [hbq] at h2; exact h2
      | some c =>
        rw [hbq] at h2
        obtain ⟨cc, e, h3, h4, h5⟩ := h2
        have hne : c ≠ b := fun e => by subst e; exact h (hR.ok.inj r q c hrs (by rw [hq]; rfl) hb hbq)
        refine ⟨cc, e, (hother c hne).trans h3, h4, fun j t hj => ?_⟩
        obtain ⟨u, h6, h7⟩ := h5 j t hj
        exact ⟨u, h6, RelT.ext hx h7⟩
  · intro q q' c hq hq' h1 h2
    rw [hsome] at hq hq'
    exact hR.ok.inj q q' c hq hq' h1 h2
  · intro q c hq h1
    rw [hsome] at hq
    exact hR.ok.wher q c hq h1

theorem splice_get {α : Type} (l ys : List α) (off : Nat) (h : off + ys.length ≤ l.length) (j : Nat) : (l.take off ++ ys ++ l.drop (off + ys.length))[j]? = if j < off then l[j]? else if j < off + ys.length then ys[j - off]? else l[j]? := by
  have h1 : (l.take off).length = off := by rw [List.length_take]; omega
  by_cases ha : j < off
  · rw [if_pos ha, List.append_assoc, List.getElem?_append_left (by omega), List.getElem?_take_of_lt ha]
  · rw [if_neg ha]
    by_cases hb : j < off + ys.length
    · rw [if_pos hb, List.getElem?_append_left (by rw [List.length_append]; omega), List.getElem?_append_right (by omega), h1]
    · rw [if_neg hb, List.getElem?_append_right (by rw [List.length_append]; omega), List.getElem?_drop, List.length_append, h1]
      congr 1; omega

def live1 (st : Store) : T → Bool
  | .dead => false
  | .own r _ _ _ => (sget st r).isSome
  | .ptr r _ => (sget st r).isSome
  | _ => true
theorem live_oneCell {w : World} {st : Store} {β : Nat → Option Nat} {I : Nat → Prop} {t : T} {u : Value} (h : live1 st t = true) (hr : RelT w st β I t u) : u.oneCell' = true := by
  cases t with
  | dead => cases h
  | v x => exact Rep.oneCell hr
  | nil => exact Rep.oneCell hr
  | sl cs n => exact Rep.oneCell hr
  | psl cs off => obtain ⟨b, o, us, _, rfl, _⟩ := hr; rfl
  | own r off n ap =>
    have := hr h
    unfold OwnOK at this
    cases hb : β r with
    | none => rw [hb] at this; rw [this.2]; rfl
    | some b => rw [hb] at this; obtain ⟨A, cap, cur, ety, rfl, _⟩ := this; rfl
  | ptr r off => obtain ⟨b, _, rfl⟩ := hr h; rfl

def splice (l : List T) (off : Nat) (ys : List T) : List T := l.take off ++ ys ++ l.drop (off + ys.length)

section
variable {C : Ctx} {s : St} {d : Option Nat}
theorem does_store {n r off : Nat} {x y : Operand} {g : Reg} {z : S} {ys : List T} (hx : s.ev x = .one (.ptr r off)) (hg : sget s.st r = some g) (hy : s.ev y = z) (hc : z.cells s.st = some ys) (hn : ys.length = n)
    (hl : off + n ≤ g.cs.length) (hv : ys.all (live1 s.st) = true) (h0 : n ≠ 0) : Does C (.store n x y) d s false (· = (⟨s.env, sset s.st r ⟨g.pure && allPure ys, splice g.cs off ys⟩⟩ : St).put d (.tup [])) := by
  intro o ho hd hnt β a w hR next Q hK
  obtain ⟨t, ho, ht⟩ := ho
  obtain ⟨b, hb, hvx⟩ := hR.ptr hx hg
  obtain ⟨h1, h2⟩ := cells_rel (hy ▸ hR.ev y) hc
  have hne : g.cs ≠ [] := by intro e; rw [e] at hl; simp at hl; omega
  obtain ⟨b', cur, ety, hb', hh, hlen, hcur⟩ := hR.ok.blk hg hne
  rw [hb] at hb'; injection hb' with hb'; subst hb'
  have hone : ∀ v ∈ (a.eval y).cells.toList, v.oneCell' = true := by
    intro v hv'
    obtain ⟨j, hj, rfl⟩ := List.getElem_of_mem hv'
    have hj' : j < ys.length := by simp at hj; omega
    obtain ⟨u, h3, h4⟩ := h2 j ys[j] (List.getElem?_eq_getElem hj')
    have h5 : (a.eval y).cells[j]? = some (a.eval y).cells.toList[j] := by simp
    rw [h5] at h3; injection h3 with h3
    rw [h3]
    exact live_oneCell (List.all_eq_true.1 hv _ (List.getElem_mem hj')) h4
  have hst := run_storeCells_at (P := C.P) b off ety (a.eval y).cells.toList 0 cur w hh (by simp; omega) hone
  have hyl : (a.eval y).cells.toList.length = ys.length := by simp [h1]
  have hR' := hR.write hg hb (cur.toList.take off ++ (a.eval y).cells.toList ++ cur.toList.drop (off + (a.eval y).cells.toList.length)).toArray ⟨g.pure && allPure ys, splice g.cs off ys⟩
    (by simp [splice]; omega) (fun c e hc => by rw [hh] at hc; injection hc with hc; injection hc with hc; subst hc; simp; omega)
    (fun hp t ht => by
      simp only [Bool.and_eq_true] at hp
      simp only [splice, List.mem_append] at ht
      rcases ht with (ht | ht) | ht
      · exact .inr ⟨hp.1, List.mem_of_mem_take ht⟩
      · exact .inl (allPure_mem hp.2 t ht)
      · exact .inr ⟨hp.1, List.mem_of_mem_drop ht⟩)
    (fun j t hj => by
      simp only [splice] at hj
      rw [splice_get _ _ _ (by omega)] at hj
      rw [List.getElem?_toArray, splice_get _ _ _ (by simp; omega)]
      by_cases ha : j < off
      · rw [if_pos ha] at hj ⊢
        obtain ⟨u, h3, h4⟩ := hcur j t hj
        exact ⟨u, by simpa using h3, h4⟩
      · rw [if_neg ha] at hj ⊢
        rw [hyl]
        by_cases hb2 : j < off + ys.length
        · rw [if_pos hb2] at hj ⊢
          obtain ⟨u, h3, h4⟩ := h2 _ t hj
          exact ⟨u, by simpa using h3, h4⟩
        · rw [if_neg hb2] at hj ⊢
          obtain ⟨u, h3, h4⟩ := hcur j t hj
          exact ⟨u, by simpa using h3, h4⟩)
  unfold Oper.wp
  have hrun : (execOp a.eval o).run C.P w = .ok .skip (w.setRow b (cur.toList.take off ++ (a.eval y).cells.toList ++ cur.toList.drop (off + (a.eval y).cells.toList.length)).toArray) := by
    simp only [Nat.add_zero] at hst
    simp [execOp, ho, hvx, Instr.storeAt, Instr.sureAddr, storeVar, run_size ht, h1, hn, hst]
  rw [hrun]
  show next (a.put o.dst undef) _
  rw [hd]
  exact hK _ β _ _ rfl (hR'.putAny (.tup rfl (fun i s u h => by simp at h)) hnt) (fun h => by cases h)
end
end Go.V
