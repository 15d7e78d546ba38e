/- Plain laws, part F: the first state may be so. No premises. -/
import Derived.Test.YteocabneaenpeaaGreatLE
set_option linter.unusedVariables false
set_option linter.unusedSimpArgs false
namespace Go.V.P
open Go.V Go.Proofs

/- Not by 'rfl': so that the kernel unfolds nothing. -/
theorem ob {α β : Type} (x : α) (f : α → Option β) : (some x).bind f = f x := by simp
theorem ct {α : Type} (x y : α) : (bif true then x else y) = x := by simp
theorem cf {α : Type} (x y : α) : (bif false then x else y) = y := by simp
theorem jn_ {κ ρ : Type} (k : κ) (f : κ → Option ρ) : jn k f = f k := by unfold jn; simp
theorem lzt {α : Type} [Inhabited α] (x : Option α) : lz true x = x := by unfold lz; simp
theorem lzf {α : Type} [Inhabited α] (x : Option α) : lz false x = some default := by unfold lz; simp
theorem gd_inI' {α : Type} {p : Prop} [Decidable p] {n : Int} {x : Option α} (h1 : -9223372036854775808 ≤ n) (h2 : n ≤ 9223372036854775807) : gd (p → inI n) x = x := gd_pos fun _ => ⟨h1, h2⟩
theorem ftf : (false == true) = false := by decide
theorem ttt : (true == true) = true := by decide
theorem fff : (false == false) = true := by decide
theorem loop_all {β : Type} (L : Nat → Int → Option β) (len : Nat) (r : Option β) (hstep : ∀ n (v : Nat), v < len → L (n + 1) v = L n ((v + 1 : Nat) : Int)) (hend : ∀ n, L (n + 1) len = r) : ∀ (n v : Nat), v ≤ len → len - v < n → L n v = r := by
  intro n
  induction n with
  | zero => intro v h1 h2; omega
  | succ n ih =>
    intro v h1 h2
    by_cases hv : v < len
    · rw [hstep n v hv]; exact ih (v + 1) (by omega) (by omega)
    · have : v = len := by omega
      subst this
      exact hend n
theorem loop_st {β σ : Type} (L : Nat → Int → σ → Option β) (len : Nat) (f : Nat → σ) (r : Option β) (hstep : ∀ n (v : Nat), v < len → L (n + 1) v (f v) = L n ((v + 1 : Nat) : Int) (f (v + 1))) (hend : ∀ n, L (n + 1) len (f len) = r) : ∀ (n v : Nat), v ≤ len → len - v < n → L n v (f v) = r := by
  intro n
  induction n with
  | zero => intro v h1 h2; omega
  | succ n ih =>
    intro v h1 h2
    by_cases hv : v < len
    · rw [hstep n v hv]; exact ih (v + 1) (by omega) (by omega)
    · have : v = len := by omega
      subst this
      exact hend n
theorem dlt {v len : Nat} (h : v < len) : decide ((v : Int) < ((len : Nat) : Int)) = true := decide_eq_true (by omega)
theorem dge (len : Nat) : decide ((len : Int) < ((len : Nat) : Int)) = false := decide_eq_false (by omega)
theorem cs (v : Nat) : ((v : Int) + 1) = ((v + 1 : Nat) : Int) := by omega
theorem tab_succ {α : Type} (n : Nat) (f : Nat → α) : tab (n + 1) f = tab n f ++ [f n] := by simp [tab, List.range_succ]
theorem tab_zero {α : Type} (f : Nat → α) : tab 0 f = [] := rfl
theorem nth_tab' {α : Type} [Inhabited α] {n : Nat} {f : Nat → α} {v : Nat} (h : v < n) : nth (tab n f) (v : Int) = f v := by rw [nth_tab (by omega) (by omega)]; congr 1

theorem cg1 (F : Nat) : m_cap_Good F cRoom = some true := rfl
theorem cg2 (F : Nat) : m_cap_Good F cMail = some true := rfl
theorem cg3 (F : Nat) : m_cap_Good F cNone = some true := rfl
theorem cn1 (F : Nat) : m_cap_None F cRoom = some false := rfl
theorem cn2 (F : Nat) : m_cap_None F cMail = some false := rfl
theorem cn3 (F : Nat) : m_cap_None F cNone = some true := rfl
theorem cless (F : Nat) : m_cap_Less F cMail cMail = some true := rfl

section
variable {g : S_geo_Geo} {size : Int}
theorem sf_cases (t i : Nat) : sf t i = ⟨cRoom, -1⟩ ∨ sf t i = ⟨cMail, -1⟩ ∨ sf t i = ⟨cMail, 1⟩ ∨ sf t i = ⟨cNone, -1⟩ := by
  unfold sf
  split
  · exact .inl rfl
  · split
    · split
      · exact .inr (.inl rfl)
      · exact .inr (.inr (.inl rfl))
    · exact .inr (.inr (.inr rfl))
theorem there0 (F : Nat) (hg : GG g) : m_state_State_there F (st0 g size) 0 = some true := by
  have := hg.h1; have := hg.t1
  unfold m_state_State_there st0
  rw [tab_length, show nth (tab g.xThings.toNat (tf g.xThreads.toNat size)) 0 = tRoom size from by rw [nth_tab (by omega) (by omega)]; rfl]
  have e : (decide ((0 : Int) ≤ 0) && decide ((0 : Int) < ((g.xThings.toNat : Nat) : Int))) = true := by simp; omega
  rw [e, gd_pos (fun _ => ⟨by omega, by rw [tab_length]; omega⟩)]
  rfl
theorem there1 (F : Nat) (hg : GG g) : m_state_State_there F (st0 g size) 1 = some true := by
  have := hg.h1; have := hg.t1
  unfold m_state_State_there st0
  rw [tab_length, show nth (tab g.xThings.toNat (tf g.xThreads.toNat size)) 1 = tMail from by rw [nth_tab (by omega) (by omega)]; rfl]
  have e : (decide ((0 : Int) ≤ 1) && decide ((1 : Int) < ((g.xThings.toNat : Nat) : Int))) = true := by simp; omega
  rw [e, gd_pos (fun _ => ⟨by omega, by rw [tab_length]; omega⟩)]
  rfl
theorem caps_st0 (F : Nat) (hF : 100 ≤ F) (hg : GG g) : m_state_State_caps F (st0 g size) = some true := by
  have t1 := hg.t1; have s2 := hg.s2; have s1 := hg.s1; have h1 := hg.h1
  unfold m_state_State_caps
  simp only [jn]
  refine loop_all (fun n v => m_state_State_caps_l0 F (st0 g size) (fun _ => some true) n v) g.xSlots.toNat _ (fun n v hv => ?_) (fun n => ?_) F 0 (by omega) (by omega)
  · have hl : (st0 g size).xSlots.length = g.xSlots.toNat := tab_length _ _
    have hlt : (st0 g size).xThings.length = g.xThings.toNat := tab_length _ _
    have hn : nth (st0 g size).xSlots (v : Int) = sf g.xThreads.toNat v := nth_tab' hv
    have n0 : nth (st0 g size).xThings 0 = tRoom size := by unfold st0; rw [nth_tab (by omega) (by omega)]; rfl
    have n1 : nth (st0 g size).xThings 1 = tMail := by unfold st0; rw [nth_tab (by omega) (by omega)]; rfl
    conv => lhs; unfold m_state_State_caps_l0
    rw [hl, dlt hv, cond_true, gd_ix (by omega) (by rw [hl]; omega), hn, cs]
    rcases sf_cases g.xThreads.toNat v with e | e | e | e <;> rw [e] <;> simp only [cg1, cg2, cg3, cn1, cn2, cn3, ob, Bool.not_true, Bool.not_false, ct, cf, jn_, Bool.false_and, Bool.true_and, ttt, lzt]
    · rw [show m_state_State_there F (st0 g size) cRoom.xThing = some true from there0 F hg]
      rw [ob]
      rw [show cRoom.xThing = 0 from rfl, n0, gd_pos (fun _ _ => ⟨by omega, by rw [hlt]; omega⟩)]
      rw [show decide ((-1 : Int) < -1) = false from rfl]
      simp only [cf, Bool.not_true, Bool.false_or, show ((tRoom size).xType != cRoom.xType) = false from rfl]
      rw [gd_inI (by omega) (by omega)]
    · rw [show m_state_State_there F (st0 g size) cMail.xThing = some true from there1 F hg]
      rw [ob]
      rw [show cMail.xThing = 1 from rfl, n1, gd_pos (fun _ _ => ⟨by omega, by rw [hlt]; omega⟩)]
      rw [show decide ((-1 : Int) < -1) = false from rfl]
      simp only [cf, Bool.not_true, Bool.false_or, show (tMail.xType != cMail.xType) = false from rfl]
      rw [gd_inI (by omega) (by omega)]
    · rw [show m_state_State_there F (st0 g size) cMail.xThing = some true from there1 F hg]
      rw [ob]
      rw [show cMail.xThing = 1 from rfl, n1, gd_pos (fun _ _ => ⟨by omega, by rw [hlt]; omega⟩)]
      rw [show decide ((1 : Int) < -1) = false from rfl]
      simp only [cf, Bool.not_true, Bool.false_or, show (tMail.xType != cMail.xType) = false from rfl]
      rw [gd_inI (by omega) (by omega)]
    · simp only [ftf, lzf, ob, show ((-1 : Int) != -1) = false from rfl, cf]
      rw [gd_pos (fun h => by cases h), gd_inI (by omega) (by omega)]
  · conv => lhs; unfold m_state_State_caps_l0
    rw [show (st0 g size).xSlots.length = g.xSlots.toNat from tab_length _ _, dge]
    rfl
end
end Go.V.P
