/- Plain laws, part D: tables; places; the first state. No premises. -/
import Derived.Test.YteocabneaenpeaaGreatLC
set_option linter.unusedVariables false
set_option linter.unusedSimpArgs false
namespace Go.V.P
open Go.V Go.Proofs

/-! ### Tables -/
def tab {α : Type} (n : Nat) (f : Nat → α) : List α := (List.range n).map f
section
variable {α : Type} [Inhabited α]
omit [Inhabited α] in
theorem tab_length (n : Nat) (f : Nat → α) : (tab n f).length = n := by simp [tab]
omit [Inhabited α] in
theorem tab_get {n : Nat} {f : Nat → α} {i : Nat} (h : i < n) : (tab n f)[i]? = some (f i) := by simp [tab, h]
theorem nth_tab {n : Nat} {f : Nat → α} {i : Int} (h0 : 0 ≤ i) (h : i < n) : nth (tab n f) i = f i.toNat := by
  have : i.toNat < n := by omega
  simp [nth, List.getD_eq_getElem?_getD, tab_get this]
omit [Inhabited α] in
theorem tab_congr {n : Nat} {f g : Nat → α} (h : ∀ j, j < n → f j = g j) : tab n f = tab n g := by
  unfold tab
  exact List.map_congr_left fun j hj => h j (List.mem_range.1 hj)
omit [Inhabited α] in
theorem setn_tab {n : Nat} {f : Nat → α} {i : Int} {x : α} : setn (tab n f) i x = tab n (fun j => if j = i.toNat then x else f j) := by
  unfold setn
  apply List.ext_getElem?
  intro j
  by_cases hj : j < n
  · rw [tab_get hj, List.getElem?_set]
    by_cases e : i.toNat = j
    · subst e; simp [tab_length, hj]
    · rw [if_neg e, tab_get hj, if_neg (fun h => e h.symm)]
  · rw [List.getElem?_eq_none (by simp [tab_length]; omega), List.getElem?_eq_none (by simp [tab_length]; omega)]
omit [Inhabited α] in
theorem replicate_tab {n : Nat} {z : α} : List.replicate n z = tab n (fun _ => z) := by simp [tab, List.map_const']
omit [Inhabited α] in
theorem list_tab (l : List α) (d : α) : l = tab l.length (fun i => l.getD i d) := by
  apply List.ext_getElem?
  intro j
  by_cases hj : j < l.length
  · rw [tab_get hj]; simp [List.getD_eq_getElem?_getD, hj]
  · rw [List.getElem?_eq_none (by omega), List.getElem?_eq_none (by simp [tab_length]; omega)]
end

/-! ### Places -/
structure GG (g : S_geo_Geo) : Prop where
  t1 : 1 ≤ g.xThreads
  t2 : g.xThreads ≤ 4
  s1 : 8 * g.xThreads ≤ g.xSlots
  s2 : g.xSlots ≤ 96
  s3 : Int.tmod g.xSlots 8 = 0
  h1 : g.xThreads + 2 ≤ g.xThings
  h2 : g.xThings ≤ 48
theorem geo_Good (F : Nat) {g : S_geo_Geo} (h : GG g) : m_geo_Good F g = some true := by
  obtain ⟨h1, h2, h3, h4, h5, h6, h7⟩ := h
  unfold m_geo_Good m_geo_in
  simp only [Option.bind_some, decide_eq_true h1, decide_eq_true h2, decide_eq_true h3, decide_eq_true h4, decide_eq_true h6, decide_eq_true h7, h5, Bool.and_self, beq_self_eq_true, lz_true]
  rw [gd_pos (fun _ => ⟨by omega, by omega⟩), gd_pos (fun _ => ⟨by omega, by omega⟩)]
theorem geo_Bad (F : Nat) {g : S_geo_Geo} (h : ¬ GG g) : m_geo_Good F g = some false := by
  unfold m_geo_Good m_geo_in
  simp only [Option.bind_some]
  by_cases a1 : 1 ≤ g.xThreads ∧ g.xThreads ≤ 4
  · have e1 : (decide (1 ≤ g.xThreads) && decide (g.xThreads ≤ 4)) = true := by simpa using a1
    rw [e1, gd_pos (fun _ => ⟨by omega, by omega⟩)]
    simp only [beq_self_eq_true, lz_true, Option.bind_some, Bool.true_and]
    by_cases a2 : (8 * g.xThreads ≤ g.xSlots ∧ g.xSlots ≤ 96) ∧ Int.tmod g.xSlots 8 = 0
    · have e2 : (decide (8 * g.xThreads ≤ g.xSlots) && decide (g.xSlots ≤ 96) && Int.tmod g.xSlots 8 == 0) = true := by simpa using a2
      rw [e2, gd_pos (fun _ => ⟨by omega, by omega⟩)]
      simp only [beq_self_eq_true, lz_true, Option.bind_some, Bool.true_and]
      have : (decide (g.xThreads + 2 ≤ g.xThings) && decide (g.xThings ≤ 48)) = false := by
        cases hb : (decide (g.xThreads + 2 ≤ g.xThings) && decide (g.xThings ≤ 48)) with
        | false => rfl
        | true =>
          simp only [Bool.and_eq_true, decide_eq_true_eq] at hb
          exact absurd ⟨a1.1, a1.2, a2.1.1, a2.1.2, a2.2, hb.1, hb.2⟩ h
      rw [this]
    · have e2 : (decide (8 * g.xThreads ≤ g.xSlots) && decide (g.xSlots ≤ 96) && Int.tmod g.xSlots 8 == 0) = false := by
        cases hb : (decide (8 * g.xThreads ≤ g.xSlots) && decide (g.xSlots ≤ 96) && Int.tmod g.xSlots 8 == 0) with
        | false => rfl
        | true => exact absurd (by simpa using hb) a2
      rw [e2, gd_pos (fun h => by cases h)]
      rfl
  · have e1 : (decide (1 ≤ g.xThreads) && decide (g.xThreads ≤ 4)) = false := by
      cases hb : (decide (1 ≤ g.xThreads) && decide (g.xThreads ≤ 4)) with
      | false => rfl
      | true => exact absurd (by simpa using hb) a1
    rw [e1, gd_pos (fun h => by cases h)]
    simp only [show (false == true) = false from rfl, lz_false, Option.bind_some, Bool.false_and]
    rw [gd_pos (fun h => by cases h)]
theorem tmod8 {a : Int} (h0 : 0 ≤ a) : Int.tmod a 8 = a % 8 := Int.tmod_eq_emod_of_nonneg h0
theorem GG.s8 {g : S_geo_Geo} (h : GG g) : g.xSlots % 8 = 0 := by
  have := h.s3
  rw [tmod8 (by have := h.t1; have := h.s1; omega)] at this
  exact this
theorem geo_Root (F : Nat) {g : S_geo_Geo} (h : GG g) {v : Int} (h0 : 0 ≤ v) (h1 : v < g.xThreads) : m_geo_Root F g v = some (8 * v) := by
  have := h.t2
  unfold m_geo_Root
  rw [geo_Good F h]
  simp only [Option.bind_some, m_geo_in]
  rw [gd_pos (fun _ => ⟨by omega, by omega⟩)]
  have e : (decide ((0 : Int) ≤ v) && decide (v ≤ g.xThreads - 1)) = true := by simp; omega
  simp only [Bool.not_true, beq_self_eq_true, lz_true, e, Option.bind_some, Bool.or_self, cond_false]
  rw [gd_inI (by omega) (by omega)]

/-! ### Things -/
abbrev v4z : V4 Int := ⟨0, 0, 0, 0⟩
def tRoom (size : Int) : S_thing_Thing := ⟨1, 0, 0, size, 0, 0, 0, false, 0, v4z⟩
def tMail : S_thing_Thing := ⟨3, 0, 0, 0, 0, 0, 0, false, 0, v4z⟩
def tNode (base : Int) : S_thing_Thing := ⟨2, 3, base, 0, 0, 0, 0, false, 0, v4z⟩
def tNone : S_thing_Thing := ⟨0, 0, 0, 0, 0, 0, 0, false, 0, v4z⟩
theorem own_room (F : Nat) (size : Int) : m_thing_own F (tRoom size) = some (tRoom size) := rfl
theorem good_room (F : Nat) (size : Int) : m_thing_Good F (tRoom size) = some (decide (1 ≤ size) && decide (size ≤ 4096)) := by
  unfold m_thing_Good
  rw [own_room]
  unfold tRoom
  dsimp only
  simp only [Option.bind_some, beq_self_eq_true, Bool.and_self, Bool.not_true, cond_false, cond_true, m_thing_in]
  by_cases h : (decide (1 ≤ size) && decide (size ≤ 4096)) = true
  · have : decide ((0 : Int) ≤ size) = true := by simp at h ⊢; omega
    simp only [h, this, beq_self_eq_true, lz_true, Option.bind_some]
    rfl
  · have h : (decide (1 ≤ size) && decide (size ≤ 4096)) = false := by simpa using h
    rw [h]
    rfl
theorem good_mail (F : Nat) : m_thing_Good F tMail = some true := rfl
theorem good_none (F : Nat) : m_thing_Good F tNone = some true := rfl
theorem ishl_8 : ishl .i64 (1 : Int) 3 = 8 := by decide
theorem good_node (F : Nat) {b : Int} (h0 : 0 ≤ b) (h1 : b ≤ 88) : m_thing_Good F (tNode b) = some true := by
  unfold m_thing_Good
  rw [show m_thing_own F (tNode b) = some (tNode b) from rfl]
  simp only [Option.bind_some, tNode, beq_self_eq_true, Bool.and_self, Bool.not_true, cond_false, cond_true, m_thing_in]
  simp only [show ((2 : Int) == 1) = false from rfl, cond_false, ishl_8]
  rw [gd_pos (fun _ => by decide), gd_pos (fun _ => by decide)]
  have : decide (b ≤ 96 - 8) = true := by simp; omega
  simp [this, h0, lz, h1]
theorem new_room (F : Nat) (size : Int) : m_thing_New F 1 size 0 = some (if 1 ≤ size ∧ size ≤ 4096 then (tRoom size, true) else (tNone, false)) := by
  unfold m_thing_New
  simp only [jn, beq_self_eq_true, cond_true]
  have := good_room F size
  unfold tRoom at this
  rw [this]
  simp only [Option.bind_some]
  by_cases h : 1 ≤ size ∧ size ≤ 4096
  · have e : (decide (1 ≤ size) && decide (size ≤ 4096)) = true := by simpa using h
    rw [e, if_pos h]; rfl
  · have e : (decide (1 ≤ size) && decide (size ≤ 4096)) = false := by
      cases hb : (decide (1 ≤ size) && decide (size ≤ 4096)) with
      | false => rfl
      | true => exact absurd (by simpa using hb) h
    rw [e, if_neg h]; rfl
theorem new_mail (F : Nat) : m_thing_New F 3 0 0 = some (tMail, true) := rfl
theorem new_node (F : Nat) {b : Int} (h0 : 0 ≤ b) (h1 : b ≤ 88) : m_thing_New F 2 3 b = some (tNode b, true) := by
  unfold m_thing_New
  simp only [jn, show ((2 : Int) == 1) = false from rfl, beq_self_eq_true, cond_true, cond_false]
  have := good_node F h0 h1
  unfold tNode at this
  rw [this]
  rfl

/-! ### The first state -/
def cNone : S_cap_Cap := ⟨0, 0, 0, 0⟩
def cRoom : S_cap_Cap := ⟨1, 0, 7, 0⟩
def cMail : S_cap_Cap := ⟨3, 1, 7, 0⟩
def sf (t : Nat) (i : Nat) : S_state_Slot := if i = 0 then ⟨cRoom, -1⟩ else if i % 8 = 1 ∧ i < 8 * t then ⟨cMail, if i = 1 then -1 else 1⟩ else ⟨cNone, -1⟩
def tf (t : Nat) (size : Int) (i : Nat) : S_thing_Thing := if i = 0 then tRoom size else if i = 1 then tMail else if i < 2 + t then tNode (8 * ((i : Int) - 2)) else tNone
def st0 (g : S_geo_Geo) (size : Int) : S_state_State := ⟨g, tab g.xSlots.toNat (sf g.xThreads.toNat), tab g.xThings.toNat (tf g.xThreads.toNat size)⟩
theorem new_l1 (F : Nat) (g : S_geo_Geo) (k : List S_state_Slot → Option (S_state_State × Int)) (hs : g.xSlots ≤ 96) : ∀ (n v : Nat), v ≤ g.xSlots.toNat → g.xSlots.toNat - v < n →
    m_state_New_l1 F g k n v (tab g.xSlots.toNat (fun i => if i < v then ⟨cNone, -1⟩ else ⟨cNone, 0⟩)) = k (tab g.xSlots.toNat (fun _ => ⟨cNone, -1⟩)) := by
  intro n
  induction n with
  | zero => intro v h1 h2; omega
  | succ n ih =>
    intro v h1 h2
    unfold m_state_New_l1
    simp only [List.length_replicate]
    by_cases hv : v < g.xSlots.toNat
    · have e1 : decide ((v : Int) < ((g.xSlots.toNat : Nat) : Int)) = true := decide_eq_true (by omega)
      rw [e1, cond_true, gd_ix (by omega) (by rw [tab_length]; omega), gd_inI (by omega) (by omega), nth_tab (by omega) (by omega), setn_tab, show ((v : Int) + 1) = ((v + 1 : Nat) : Int) by omega, ← ih (v + 1) (by omega) (by omega)]
      congr 1
      refine tab_congr fun j hj => ?_
      have : (v : Int).toNat = v := by omega
      rw [this]
      by_cases c1 : j = v
      · subst c1; simp [cNone]
      · by_cases c2 : j < v
        · rw [if_neg c1, if_pos c2, if_pos (by omega)]
        · rw [if_neg c1, if_neg c2, if_neg (by omega)]
    · have e1 : decide ((v : Int) < ((g.xSlots.toNat : Nat) : Int)) = false := decide_eq_false (by omega)
      rw [e1, cond_false]
      congr 1
      exact tab_congr fun j hj => by rw [if_pos (by omega)]
end Go.V.P
