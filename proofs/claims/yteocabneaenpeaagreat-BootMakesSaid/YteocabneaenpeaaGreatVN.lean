/- The V-layer, part N: calls that hand back what is then owned; a slice against nil. No premises. -/
import Derived.Test.YteocabneaenpeaaGreatVM
set_option linter.unusedVariables false
set_option linter.unusedSimpArgs false
namespace Go.V
open Go.RowKit

/-- A block that a call has made, owned from now on. -/
theorem R.adopt {C : Ctx} {s : St} {β : Nat → Option Nat} {a : Act} {w w' : World} (hR : R C s β a w) (hk : Kept (fun _ => False) w w') {r b : Nat} (hf : s.fresh r = true) (hb0 : w.heap.size ≤ b) {cur : Array Value} {ety : TypeId} (hh : w'.heap[b]? = some (.cells cur ety (0, 0)))
    (g : Reg) (hp : ∀ t ∈ g.cs, t.isPure = true) (hl : g.cs.length ≤ cur.size) (hc : ∀ (j : Nat) (t : T), g.cs[j]? = some t → ∃ u, cur[j]? = some u ∧ Rep w' (fun b' => C.I s.st β w b' ∨ (w.heap.size ≤ b' ∧ b' < w'.heap.size ∧ b' ≠ b)) t u) :
    R C ⟨s.env, (r, g) :: s.st⟩ (fun q => if q = r then some b else β q) a w' := by
  have hnone := St.fresh_none hf
  have hbl : b < w'.heap.size := (Array.getElem?_eq_some_iff.1 hh).1
  have hsome : ∀ q, (sget ((r, g) :: s.st) q).isSome = true → q = r ∨ (q ≠ r ∧ (sget s.st q).isSome = true) := by
    intro q hq
    by_cases h : q = r
    · exact .inl h
    · rw [sget_cons_ne _ _ (fun e => h e.symm)] at hq; exact .inr ⟨h, hq⟩
  have hheap : ∀ b, b < w.heap.size → w'.heap[b]? = w.heap[b]? := fun b hb => hk.block b hb (fun h => h)
  have hsz := hk.size
  have hI : ∀ b', C.I s.st β w b' → C.I ((r, g) :: s.st) (fun q => if q = r then some b else β q) w' b' := by
    intro b' hb
    have hlt := C.I_lt hR.ok.kept hb
    rcases hb with h0 | ⟨h1, h2, h3⟩
    · exact .inl h0
    · refine .inr ⟨h1, by omega, fun q hq => ?_⟩
      rcases hsome q hq with rfl | ⟨hne, hq'⟩
      · simp; omega
      · simp only [hne, if_false]; exact h3 q hq'
  have hI2 : ∀ b', C.I s.st β w b' ∨ (w.heap.size ≤ b' ∧ b' < w'.heap.size ∧ b' ≠ b) → C.I ((r, g) :: s.st) (fun q => if q = r then some b else β q) w' b' := by
    rintro b' (h | ⟨h1, h2, h3⟩)
    · exact hI b' h
    · refine .inr ⟨.inr (by have := hR.ok.kept.size; omega), h2, fun q hq => ?_⟩
      rcases hsome q hq with rfl | ⟨hne, hq'⟩
      · simp; omega
      · simp only [hne, if_false]
        intro hb
        have := hR.ok.lt hq' hb
        omega
  have hx : ExtN (· = r) (C.I s.st β w) (C.I ((r, g) :: s.st) (fun q => if q = r then some b else β q) w') s.st ((r, g) :: s.st) β (fun q => if q = r then some b else β q) w w' := by
    refine ⟨hI, fun b hb => hheap b (C.I_lt hR.ok.kept hb), fun q hq hs => ?_, fun q b hq hs hb c e hh => ?_⟩
    · rcases hsome q hs with h | ⟨_, h⟩
      · exact absurd h hq
      · exact ⟨h, by simp [show ¬ q = r from hq]⟩
    · rcases hsome q hs with h | ⟨_, h⟩
      · exact absurd h hq
      · exact ⟨c, (hheap b (hR.ok.lt h hb)).trans hh, rfl⟩
  refine hR.turn (N := (· = r)) ⟨?_, ?_, ?_, ?_, fun q b hq hf' => by
    rcases hsome q hq with rfl | ⟨hne, h⟩
    · rw [C.fx q (St.fresh_lt hf)] at hf'; cases hf'
    · simp only [hne, if_false]; exact hR.ok.fixd q b h hf'⟩ hx ?_
  · refine ⟨hk.os.trans hR.ok.kept.os, hk.tape.trans hR.ok.kept.tape, hk.output.trans hR.ok.kept.output, by have := hR.ok.kept.size; omega, fun b hb hE => (hheap b (by have := hR.ok.kept.size; omega)).trans (hR.ok.kept.block b hb hE), fun b c e hh => ?_⟩
    obtain ⟨c', h1, h2⟩ := hR.ok.kept.shape b c e hh
    exact ⟨c', (hheap b (Array.getElem?_eq_some_iff.1 h1).1).trans h1, h2⟩
  · intro q g' hg
    by_cases hq : q = r
    · subst hq
      rw [sget_cons_same] at hg
      injection hg with hg
      subst hg
      refine ⟨fun _ t ht => hp t ht, ?_⟩
      simp only [if_true]
      refine ⟨cur, ety, hh, hl, fun j t hj => ?_⟩
      obtain ⟨u, h1, h2⟩ := hc j t hj
      exact ⟨u, h1, (Rep.mono (fun _ _ => rfl) hI2 h2).relT⟩
    · rw [sget_cons_ne _ _ (fun e => hq e.symm)] at hg
      have := hR.ok.store q g' hg
      refine ⟨this.1, ?_⟩
      have h2 := this.2
      simp only [hq, if_false]
      cases hb : β q with
      | none => rw [hb] at h2; exact h2
      | some b =>
        rw [hb] at h2
        obtain ⟨c, e, h3, h4, h5⟩ := h2
        refine ⟨c, e, (hheap b (hR.ok.lt (by rw [hg]; rfl) hb)).trans h3, h4, fun j t hj => ?_⟩
        obtain ⟨u, h6, h7⟩ := h5 j t hj
        exact ⟨u, h6, RelT.extN hx (fun q' hq' => by subst hq'; exact St.fresh_st hf hR.ok hg (List.mem_of_getElem? hj)) h7⟩
  · intro q q' b' hq hq' hb hb'
    rcases hsome q hq with rfl | ⟨hne, h⟩ <;> rcases hsome q' hq' with rfl | ⟨hne', h'⟩
    · rfl
    · simp only [if_true] at hb; simp only [hne', if_false] at hb'
      have := hR.ok.lt h' hb'
      injection hb with hb; omega
    · simp only [if_true] at hb'; simp only [hne, if_false] at hb
      have := hR.ok.lt h hb
      injection hb' with hb'; omega
    · simp only [hne, if_false] at hb; simp only [hne', if_false] at hb'
      exact hR.ok.inj q q' b' h h' hb hb'
  · intro q b' hq hb
    rcases hsome q hq with rfl | ⟨hne, h⟩
    · simp only [if_true] at hb; injection hb with hb
      have := hR.ok.kept.size
      exact .inr (by omega)
    · simp only [hne, if_false] at hb
      exact hR.ok.wher q b' h hb
  · rintro q rfl i
    exact St.fresh_env hf i

/-- Plain in; out comes a slice that is the caller's from now on. -/
def OC (P : Program) (f : FuncId) (args : List S) (k e n : Nat) (cs : List T) : Prop := AC P f args [] (fun x st' => ∃ r0, x = .one (.own r0 0 n (some (k, e))) ∧ sget st' r0 = some ⟨true, cs⟩)
theorem does_callF {C : Ctx} {s : St} {P : Program} {f : FuncId} {xs : List Operand} {ps : List S} {r k e n : Nat} {cs : List T} (hP : C.P = P) (hAC : OC P f ps k e n cs) (hx : xs.map (fun x => mapS nilT (s.ev x)) = ps) (hp : S.isPure.pureL ps = true) (hf : s.fresh r = true) :
    Does C (.call f xs) (some r) s true (· = (⟨s.env, (r, ⟨true, cs⟩) :: s.st⟩ : St).put (some r) (.one (.own r 0 n (some (k, e))))) := by
  subst hP
  intro o ho hd hn β a w hR next R' hK
  obtain ⟨args, ats, ho, rfl, hc⟩ := ho
  unfold Oper.wp
  rw [run_call ho hc, Oper.upon_enter]
  have h0 : ∀ b, C.I s.st β w b → b < w.heap.size ∧ ¬ False := fun b hb => ⟨C.I_lt hR.ok.kept hb, fun h => h⟩
  refine (hAC w (fun _ => False) (C.I s.st β w) h0 (fun _ => none) (fun _ _ => rfl) (fun _ => none) (args.map a.eval) ⟨Kept.refl _ _, fun r g h => (by cases h), fun r r' b h => (by cases h), fun r b h => (by cases h), fun r b h => (by cases h)⟩ ?_ ?_).mono ?_
  · subst hx; simp
  · intro i x v h1 h2
    have h4 := h1
    subst hx
    rw [List.getElem?_map] at h1
    obtain ⟨y, hy, rfl⟩ := Option.map_eq_some_iff.1 h1
    have hv : v = a.eval y := by
      rw [Array.getElem?_map] at h2
      have hy' : args[i]? = some y := by simpa using hy
      rw [hy'] at h2
      simpa using h2.symm
    subst hv
    have h5 : RelS w s.st β (C.I s.st β w) (mapS nilT (s.ev y)) (a.eval y) := RelS.map (fun t u h => by cases t <;> first | exact h | (cases h; exact .sl0 _ _)) (hR.ev y)
    exact RelS.pure (I := C.I s.st β w) (fun b hb => .inl hb) h5 (S.pureL_get hp h4)
  · rintro e' w' ⟨v, x, st', β', rfl, hok, hrel, r0, rfl, hst⟩
    have hk : Kept (fun _ => False) w w' := hok.kept
    have hrs : (sget st' r0).isSome = true := by rw [hst]; rfl
    have hreg := hok.store r0 _ hst
    have hown := hrel.t hrs
    unfold OwnOK at hown
    obtain ⟨hpc, hreg⟩ := hreg
    cases hb : β' r0 with
    | none =>
      rw [hb] at hreg hown
      obtain ⟨rfl, rfl⟩ := hown
      replace hreg : cs = [] := hreg
      subst hreg
      obtain ⟨hR', _⟩ := hR.later hk
      have h1 := hR'.virt hf
      refine hK _ (fun q => if q = r then none else β q) (a.put o.dst _) w' rfl ?_ (fun _ => hk)
      rw [hd]
      refine h1.putAny (.one fun _ => ?_) hn
      simp only [if_true]
      exact ⟨rfl, rfl⟩
    | some b =>
      rw [hb] at hreg hown
      obtain ⟨A, cap, cur, ety, rfl, hh, hA, hn', hap⟩ := hown
      obtain ⟨cur', ety', hh', hl, hcl⟩ := hreg
      rw [hh] at hh'; injection hh' with hh'; injection hh' with hh' _; subst hh'
      have hb0 : w.heap.size ≤ b := by
        rcases hok.wher r0 b hrs hb with h | h
        · exact h.elim
        · exact h
      have h1 := hR.adopt hk hf hb0 hh ⟨true, cs⟩ (hpc rfl) hl (fun j t hj => by
        obtain ⟨u, h2, h3⟩ := hcl j t hj
        refine ⟨u, h2, Rep.mono (fun _ _ => rfl) (fun b' hb' => ?_) (T.pure_rep (hpc rfl t (List.mem_of_getElem? hj)) w' st' β' _ u h3)⟩
        rcases hb' with h4 | ⟨h4 | h4, h5, h6⟩
        · exact .inl h4
        · exact h4.elim
        · exact .inr ⟨h4, h5, fun e => h6 r0 hrs (by rw [hb, e])⟩)
      refine hK _ (fun q => if q = r then some b else β q) (a.put o.dst _) w' rfl ?_ (fun _ => hk)
      rw [hd]
      refine h1.putAny (.one fun _ => ?_) hn
      simp only [if_true]
      exact ⟨A, cap, cur, ety, rfl, hh, hA, hn', hap⟩

theorem Rep.take {w : World} {I : Nat → Prop} {cs : List T} {n : Nat} {u : Value} (m : Nat) (h : Rep w I (.sl cs n) u) : Rep w I (.sl (cs.take m) n) u := by
  cases h with
  | sl0 A cap => rw [List.take_nil]; exact .sl0 _ _
  | sl us hI hc hr hn =>
    have key : ∀ j t, (cs.take m)[j]? = some t → cs[j]? = some t := fun j t hj => by
      have hlt : j < m := by have := (List.getElem?_eq_some_iff.1 hj).1; simp at this; omega
      rwa [List.getElem?_take_of_lt hlt] at hj
    exact .sl us hI (fun j t hj => hc j t (key j t hj)) (fun j t hj => hr j t (key j t hj)) hn
/-- One that is handed the first cells may be handed more. -/
theorem PC_take1 {P : Program} {f : FuncId} {cs : List T} {n m : Nat} {X : S} (h : PC P f [S.one (.sl (cs.take m) n)] X) : PC P f [S.one (.sl cs n)] X := by
  intro w E I0 i0 fix fx β vs C hok hsz hrel
  refine h w E I0 i0 fix fx β vs hok hsz fun i x v hx hv => ?_
  cases i with
  | zero =>
    simp only [List.getElem?_cons_zero, Option.some.injEq] at hx
    subst hx
    have := hrel 0 _ v rfl hv
    exact .one (Rep.take m this.t)
  | succ i => simp at hx
theorem equalIn_slice {P : Program} (m : Nat) {t e : TypeId} (hu : P.underlying t = some (.slice e)) (A : Option Addr) (n c : Nat) (w : World) : (Op.equalIn (m + 1) t (.slice A n c) (.slice none 0 0)).run P w = .ok A.isNone w := by
  cases A <;> simp [Op.equalIn, run_underlying hu]
/-- A slice against nil: whatever it is; if it is nil it has no element. -/
theorem does_eqNil {C : Ctx} {s : St} {d : Option Nat} {t : TypeId} {e : TypeId} {x y : Operand} {cs : List T} {n : Nat} (hu : C.P.underlying t = some (.slice e)) (hx : s.ev x = .one (.sl cs n)) (hy : s.ev y = .one .nil) :
    Does C (.bin .eql t x y) d s true (fun s' => ∃ b : Bool, s' = s.put d (.one (.v (.bool b))) ∧ (b = true → n = 0)) := by
  intro o ho hd hn β a w hR next Q hK
  obtain ⟨t', ho⟩ := ho
  have h1 := (hx ▸ hR.ev x).t
  have h2 := (hy ▸ hR.ev y).t
  generalize hv : a.eval x = v at h1
  generalize hv2 : a.eval y = v2 at h2
  cases h2
  obtain ⟨A, cap, rfl⟩ : ∃ A cap, v = .slice A n cap := by
    cases h1 with
    | sl0 A cap => exact ⟨_, _, rfl⟩
    | sl us hI hc hr hn => exact ⟨_, _, rfl⟩
  have hgd : ∀ w, (eqGuard .eql t x y (.slice A n cap) (.slice none 0 0)).run C.P w = .ok () w := by intro w; unfold eqGuard; simp
  have hrun : (execOp a.eval o).run C.P w = .ok (.value (.bool A.isNone)) w := by
    have he : (Op.equal t (.slice A n cap) (.slice none 0 0)).run C.P w = .ok A.isNone w := equalIn_slice 9999 hu A n cap w
    simp [execOp, ho, hv, hv2, hgd, binOp, he]
  have hrun : ∃ b : Bool, (execOp a.eval o).run C.P w = .ok (.value (.bool b)) w ∧ (b = true → n = 0) := ⟨_, hrun, fun h => by
    cases h1 with
    | sl0 A cap => rfl
    | sl us hI hc hr hn => cases h⟩
  obtain ⟨b, h3, h4⟩ := hrun
  unfold Oper.wp
  rw [h3]
  show next (a.put o.dst _) w
  rw [hd]
  exact hK _ β _ w ⟨b, rfl, h4⟩ (hR.putAny (.one (.v rfl)) hn) (fun _ => Kept.refl _ _)
end Go.V
