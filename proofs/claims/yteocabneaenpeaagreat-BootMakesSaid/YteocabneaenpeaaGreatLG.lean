/- Plain laws, part G: the first state's things, nodes, rings. No premises. -/
import Derived.Test.YteocabneaenpeaaGreatLF
set_option linter.unusedVariables false
set_option linter.unusedSimpArgs false
namespace Go.V.P
open Go.V Go.Proofs
variable {g : S_geo_Geo} {size : Int}

/-- Which slots hold a capability of a thing. -/
def isOf (c : S_cap_Cap) (a : Int) : Bool := (!((c.xType == 0) && ((c.xThing == 0) && ((c.xRights == 0) && ((c.xBadge == 0) && true))))) && (c.xThing == a)
theorem holders_eq (F : Nat) (hF : 100 ≤ F) (s : S_state_State) (hs : s.xSlots.length ≤ 96) (a : Int) : m_state_State_holders F s a = some (((List.range s.xSlots.length).filter (fun i : Nat => isOf (nth s.xSlots (i : Int)).xCap a)).map fun i : Nat => (i : Int)) := by
  unfold m_state_State_holders
  rw [jn_]
  have hlen : ∀ v, (((List.range v).filter (fun i : Nat => isOf (nth s.xSlots (i : Int)).xCap a)).map fun i : Nat => (i : Int)).length ≤ v := fun v => by
    rw [List.length_map]
    exact Nat.le_trans (List.length_filter_le _ _) (by simp)
  refine loop_st (fun n v l => m_state_State_holders_l0 F s a (fun v1 => some v1) n v l) s.xSlots.length (fun v => ((List.range v).filter (fun i : Nat => isOf (nth s.xSlots (i : Int)).xCap a)).map fun i : Nat => (i : Int)) _ (fun n v hv => ?_) (fun n => ?_) F 0 (by omega) (by omega)
  · conv => lhs; unfold m_state_State_holders_l0
    rw [dlt hv, ct, jn_, gd_ix (by omega) (by omega)]
    unfold m_cap_None
    rw [ob, cs]
    have hl := hlen v
    have e : List.range (v + 1) = List.range v ++ [v] := List.range_succ
    have hd : isOf (nth s.xSlots (v : Int)).xCap a = ((!((nth s.xSlots (v : Int)).xCap.xType == 0 && ((nth s.xSlots (v : Int)).xCap.xThing == 0 && ((nth s.xSlots (v : Int)).xCap.xRights == 0 && ((nth s.xSlots (v : Int)).xCap.xBadge == 0 && true))))) && (nth s.xSlots (v : Int)).xCap.xThing == a) := rfl
    rw [← hd]
    cases hc : isOf (nth s.xSlots (v : Int)).xCap a
    · rw [cf]; dsimp only; rw [gd_inI (by omega) (by omega), e, List.filter_append]
      simp [hc]
    · rw [ct, gd_pos (by simp only [List.length_cons, List.length_nil]; omega)]; dsimp only; rw [gd_inI (by omega) (by omega), e, List.filter_append]
      simp [hc]
  · conv => lhs; unfold m_state_State_holders_l0
    rw [dge, cf]
theorem holders0 (F : Nat) (hF : 100 ≤ F) (hg : GG g) (a : Int) (ha : a = 0 ∨ a = 1) : ∃ l, m_state_State_holders F (st0 g size) a = some l ∧ ((((l.length : Nat) : Int) == 0) = false) := by
  have t1 := hg.t1; have s2 := hg.s2; have s1 := hg.s1
  have hl : (st0 g size).xSlots.length = g.xSlots.toNat := tab_length _ _
  refine ⟨_, holders_eq F hF _ (by rw [hl]; omega) a, ?_⟩
  have hpos : 0 < (((List.range (st0 g size).xSlots.length).filter (fun i : Nat => isOf (nth (st0 g size).xSlots (i : Int)).xCap a)).map fun i : Nat => (i : Int)).length := by
    rw [List.length_map]
    apply List.length_pos_of_mem (a := a.toNat)
    rw [List.mem_filter, hl, List.mem_range]
    refine ⟨by omega, ?_⟩
    have hn : nth (st0 g size).xSlots ((a.toNat : Nat) : Int) = sf g.xThreads.toNat a.toNat := nth_tab' (by omega)
    rw [hn]
    rcases ha with rfl | rfl
    · rfl
    · have hT : 1 < 8 * g.xThreads.toNat := by omega
      have : sf g.xThreads.toNat (1 : Int).toNat = ⟨cMail, -1⟩ := by
        show sf g.xThreads.toNat 1 = _
        simp [sf, hT]
      rw [this]; rfl
  generalize (((List.range (st0 g size).xSlots.length).filter (fun i : Nat => isOf (nth (st0 g size).xSlots (i : Int)).xCap a)).map fun i : Nat => (i : Int)).length = n at hpos
  rw [beq_eq_false_iff_ne]
  omega
theorem tf_cases (t i : Nat) (size : Int) : (i = 0 ∧ tf t size i = tRoom size) ∨ (i = 1 ∧ tf t size i = tMail) ∨ (2 ≤ i ∧ i < 2 + t ∧ tf t size i = tNode (8 * ((i : Int) - 2))) ∨ (2 + t ≤ i ∧ 2 ≤ i ∧ tf t size i = tNone) := by
  unfold tf
  split
  · rename_i h; exact .inl ⟨h, rfl⟩
  · split
    · rename_i h; exact .inr (.inl ⟨h, rfl⟩)
    · split
      · exact .inr (.inr (.inl ⟨by omega, by omega, rfl⟩))
      · exact .inr (.inr (.inr ⟨by omega, by omega, rfl⟩))
theorem things_st0 (F : Nat) (hF : 100 ≤ F) (hg : GG g) (hz1 : 1 ≤ size) (hz2 : size ≤ 4096) : m_state_State_things F (st0 g size) = some true := by
  have t1 := hg.t1; have t2 := hg.t2; have s2 := hg.s2; have s1 := hg.s1; have h1 := hg.h1; have h2 := hg.h2
  unfold m_state_State_things
  rw [jn_]
  have hl : (st0 g size).xSlots.length = g.xSlots.toNat := tab_length _ _
  have hlt : (st0 g size).xThings.length = g.xThings.toNat := tab_length _ _
  refine loop_all (fun n v => m_state_State_things_l0 F (st0 g size) (fun _ => some true) n v) g.xThings.toNat _ (fun n v hv => ?_) (fun n => ?_) F 0 (by omega) (by omega)
  · have hn : nth (st0 g size).xThings (v : Int) = tf g.xThreads.toNat size v := nth_tab' hv
    have hgeo : (st0 g size).xGeo = g := rfl
    conv => lhs; unfold m_state_State_things_l0
    rw [hlt, dlt hv, ct, gd_ix (by omega) (by rw [hlt]; omega), hn, cs, hgeo]
    have hgood : m_thing_Good F (tf g.xThreads.toNat size v) = some true := by
      rcases tf_cases g.xThreads.toNat v size with ⟨rfl, e⟩ | ⟨rfl, e⟩ | ⟨c1, c2, e⟩ | ⟨c1, _, e⟩ <;> rw [e]
      · rw [good_room, decide_eq_true hz1, decide_eq_true hz2]; rfl
      · exact good_mail F
      · exact good_node F (by omega) (by omega)
      · exact good_none F
    have hfrom : (tf g.xThreads.toNat size v).xFrom = 0 := by
      rcases tf_cases g.xThreads.toNat v size with ⟨_, e⟩ | ⟨_, e⟩ | ⟨c1, c2, e⟩ | ⟨c1, _, e⟩ <;> rw [e] <;> rfl
    rw [hgood, ob, Bool.not_true, cf, hfrom, show decide ((0 : Int) < 0) = false from rfl, gd_pos (fun h => by cases h), gd_pos (fun h => by cases h), ftf, Bool.false_and, lzf, ob, Bool.false_and, cf]
    by_cases hv2 : 2 ≤ v
    · have d2 : decide ((2 : Int) ≤ (v : Int)) = true := decide_eq_true (by omega)
      rw [d2, gd_inI' (by omega) (by omega)]
      by_cases hv3 : v < 2 + g.xThreads.toNat
      · have d3 : decide ((v : Int) < 2 + g.xThreads) = true := decide_eq_true (by omega)
        have e : tf g.xThreads.toNat size v = tNode (8 * ((v : Int) - 2)) := by
          rcases tf_cases g.xThreads.toNat v size with ⟨_, e⟩ | ⟨_, e⟩ | ⟨c1, c2, e⟩ | ⟨c1, _, e⟩
          · omega
          · omega
          · exact e
          · omega
        rw [d3, Bool.and_self, gd_inI' (by omega) (by omega), ttt, lzt, geo_Root F hg (by omega) (by omega), ob, e]
        simp only [tNode, beq_self_eq_true, Bool.and_self, Bool.not_true, Bool.and_false, cf, Bool.false_and, ftf, lzf, ob, v4z]
        rw [gd_inI (by omega) (by omega)]
      · have d3 : decide ((v : Int) < 2 + g.xThreads) = false := decide_eq_false (by omega)
        have e : tf g.xThreads.toNat size v = tNone := by
          rcases tf_cases g.xThreads.toNat v size with ⟨_, e⟩ | ⟨_, e⟩ | ⟨c1, c2, e⟩ | ⟨c1, _, e⟩
          · omega
          · omega
          · omega
          · exact e
        rw [d3, Bool.and_false, gd_pos (fun h => by cases h), ftf, lzf, ob, Bool.false_and, cf, e]
        rw [show (tNone.xType != 0) = false from rfl, Bool.and_false, ftf, lzf, ob, Bool.false_and, cf, gd_inI (by omega) (by omega)]
    · have d2 : decide ((2 : Int) ≤ (v : Int)) = false := decide_eq_false (by omega)
      rw [d2, gd_pos (fun h => by cases h), Bool.false_and, gd_pos (fun h => by cases h), ftf, lzf, ob, Bool.false_and, cf]
      obtain ⟨l, hl1, hl2⟩ := holders0 (size := size) F hF hg (v : Int) (by omega)
      have e : ((tf g.xThreads.toNat size v).xType != 0) = true := by
        rcases tf_cases g.xThreads.toNat v size with ⟨_, e⟩ | ⟨_, e⟩ | ⟨c1, c2, e⟩ | ⟨c1, _, e⟩
        · rw [e]; rfl
        · rw [e]; rfl
        · omega
        · omega
      rw [e, Bool.not_false, Bool.and_self, ttt, lzt, hl1, ob, hl2, Bool.and_false, cf, gd_inI (by omega) (by omega)]
  · conv => lhs; unfold m_state_State_things_l0
    rw [hlt, dge, cf]
end Go.V.P
