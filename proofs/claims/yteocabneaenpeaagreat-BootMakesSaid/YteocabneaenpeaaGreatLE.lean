/- Plain laws, part E: the first state is made. No premises. -/
import Derived.Test.YteocabneaenpeaaGreatLD
set_option linter.unusedVariables false
set_option linter.unusedSimpArgs false
namespace Go.V.P
open Go.V Go.Proofs

def sv (v : Nat) (i : Nat) : S_state_Slot := if i = 0 then ⟨cRoom, -1⟩ else if i % 8 = 1 ∧ i < 8 * v then ⟨cMail, 1⟩ else ⟨cNone, -1⟩
theorem new_l0 (F : Nat) {g : S_geo_Geo} (size : Int) (hg : GG g) (k : List S_thing_Thing → List S_state_Slot → Option (S_state_State × Int)) : ∀ (n v : Nat), v ≤ g.xThreads.toNat → g.xThreads.toNat - v < n →
    m_state_New_l0 F g 0 k n v (tab g.xThings.toNat (tf v size)) (tab g.xSlots.toNat (sv v)) = k (tab g.xThings.toNat (tf g.xThreads.toNat size)) (tab g.xSlots.toNat (sv g.xThreads.toNat)) := by
  have t1 := hg.t1; have t2 := hg.t2; have s1 := hg.s1; have s2 := hg.s2; have h1' := hg.h1; have h2' := hg.h2
  intro n
  induction n with
  | zero => intro v h1 h2; omega
  | succ n ih =>
    intro v h1 h2
    unfold m_state_New_l0
    by_cases hv : v < g.xThreads.toNat
    · have e1 : decide ((v : Int) < g.xThreads) = true := decide_eq_true (by omega)
      rw [e1, cond_true, geo_Root F hg (by omega) (by omega), Option.bind_some]
      simp only [jn]
      rw [gd_inI (by omega) (by omega), new_node F (by omega) (by omega), Option.bind_some, gd_ix (by omega) (by rw [tab_length]; omega), gd_inI (by omega) (by omega), gd_inI (by decide) (by decide), gd_ix (by omega) (by rw [tab_length]; omega), gd_inI (by omega) (by omega)]
      rw [setn_tab, setn_tab, show ((v : Int) + 1) = ((v + 1 : Nat) : Int) by omega, ← ih (v + 1) (by omega) (by omega)]
      have e2 : ((2 : Int) + v).toNat = 2 + v := by omega
      have e3 : (8 * (v : Int) + 1).toNat = 8 * v + 1 := by omega
      rw [e2, e3]
      congr 1
      · refine tab_congr fun j hj => ?_
        simp only [tf]
        by_cases c : j = 2 + v
        · subst c
          rw [if_pos rfl, if_neg (by omega), if_neg (by omega), if_pos (by omega)]
          congr 1
          omega
        · rw [if_neg c]
          by_cases c0 : j = 0
          · rw [if_pos c0, if_pos c0]
          · rw [if_neg c0, if_neg c0]
            by_cases c1 : j = 1
            · rw [if_pos c1, if_pos c1]
            · rw [if_neg c1, if_neg c1]
              by_cases c2 : j < 2 + v
              · rw [if_pos c2, if_pos (by omega)]
              · rw [if_neg c2, if_neg (by omega)]
      · refine tab_congr fun j hj => ?_
        simp only [sv]
        by_cases c : j = 8 * v + 1
        · subst c
          rw [if_pos rfl, if_neg (by omega), if_pos (by omega)]
          rfl
        · rw [if_neg c]
          by_cases c0 : j = 0
          · rw [if_pos c0, if_pos c0]
          · rw [if_neg c0, if_neg c0]
            by_cases c2 : j % 8 = 1 ∧ j < 8 * v
            · rw [if_pos c2, if_pos (by omega)]
            · rw [if_neg c2, if_neg (by omega)]
    · have e1 : decide ((v : Int) < g.xThreads) = false := decide_eq_false (by omega)
      have : v = g.xThreads.toNat := by omega
      rw [e1, cond_false, this]
def stNone : S_state_State := ⟨⟨0, 0, 0⟩, [], []⟩
theorem state_New (F : Nat) (hF : 200 ≤ F) {g : S_geo_Geo} {size : Int} (hg : GG g) (h1 : 1 ≤ size) (h2 : size ≤ 4096) : m_state_New F g size = some (st0 g size, 0) := by
  have t1 := hg.t1; have t2 := hg.t2; have s1 := hg.s1; have s2 := hg.s2; have h1' := hg.h1; have h2' := hg.h2
  unfold m_state_New
  rw [new_room, Option.bind_some, if_pos ⟨h1, h2⟩, geo_Good F hg, Option.bind_some]
  simp only [Bool.not_true, Bool.or_self, cond_false, jn]
  rw [gd_pos (by omega), gd_pos (by omega)]
  have hk : List.replicate g.xSlots.toNat (⟨⟨0, 0, 0, 0⟩, 0⟩ : S_state_Slot) = tab g.xSlots.toNat (fun i => if i < 0 then ⟨cNone, -1⟩ else ⟨cNone, 0⟩) := by
    rw [replicate_tab]; exact tab_congr fun j hj => by simp [cNone]
  rw [hk]
  refine (new_l1 F g _ (by omega) F 0 (by omega) (by omega)).trans ?_
  rw [gd_ix (by omega) (by simp; omega), new_mail, Option.bind_some, gd_ix (by omega) (by simp; omega), geo_Root F hg (by omega) (by omega), Option.bind_some]
  rw [gd_ix (by omega) (by rw [tab_length]; omega), nth_tab (by omega) (by omega), setn_tab, replicate_tab, setn_tab, setn_tab]
  have e1 : tab g.xThings.toNat (fun j => if j = (1 : Int).toNat then tMail else if j = (0 : Int).toNat then tRoom size else (⟨0, 0, 0, 0, 0, 0, 0, false, 0, ⟨0, 0, 0, 0⟩⟩ : S_thing_Thing)) = tab g.xThings.toNat (tf 0 size) := by
    refine tab_congr fun j hj => ?_
    simp only [tf]
    by_cases c0 : j = 0
    · subst c0; rfl
    · by_cases c1 : j = 1
      · subst c1; rfl
      · rw [if_neg (by simpa using c1), if_neg (by simpa using c0), if_neg c0, if_neg c1, if_neg (by omega)]; rfl
  have e2 : tab g.xSlots.toNat (fun j => if j = ((8 : Int) * 0).toNat then (⟨⟨1, 0, 7, 0⟩, -1⟩ : S_state_Slot) else ⟨cNone, -1⟩) = tab g.xSlots.toNat (sv 0) := by
    refine tab_congr fun j hj => ?_
    simp only [sv]
    by_cases c0 : j = 0
    · subst c0; rfl
    · rw [if_neg (by simpa using c0), if_neg c0, if_neg (by omega)]
  rw [e1, e2]
  refine (new_l0 F size hg _ F 0 (by omega) (by omega)).trans ?_
  rw [gd_inI (by decide) (by decide), gd_ix (by decide) (by rw [tab_length]; omega), gd_pos (by rw [setn_length]), nth_tab (by decide) (by omega), setn_tab]
  unfold st0
  congr 3
  refine tab_congr fun j hj => ?_
  simp only [sf, sv]
  have e3 : ((8 : Int) * 0 + 1).toNat = 1 := by decide
  rw [e3]
  by_cases c1 : j = 1
  · subst c1
    have hT : 1 < 8 * g.xThreads.toNat := by omega
    simp [hT]
  · rw [if_neg c1]
    by_cases c0 : j = 0
    · rw [if_pos c0, if_pos c0]
    · rw [if_neg c0, if_neg c0]
      by_cases c2 : j % 8 = 1 ∧ j < 8 * g.xThreads.toNat
      · rw [if_pos c2, if_pos c2, if_neg c1]
      · rw [if_neg c2, if_neg c2]
theorem state_New_bad (F : Nat) {g : S_geo_Geo} {size : Int} (h : ¬ (GG g ∧ 1 ≤ size ∧ size ≤ 4096)) : m_state_New F g size = some (stNone, 1) := by
  unfold m_state_New
  rw [new_room, Option.bind_some]
  by_cases hg : GG g
  · rw [geo_Good F hg, Option.bind_some, if_neg (fun hs => h ⟨hg, hs⟩)]
    rfl
  · rw [geo_Bad F hg, Option.bind_some]
    rfl
end Go.V.P
