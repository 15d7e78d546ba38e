/- Plain laws, part K: the first state in words. No premises. -/
import Derived.Test.YteocabneaenpeaaGreatLJ
set_option linter.unusedVariables false
set_option linter.unusedSimpArgs false
namespace Go.V.P
open Go.V Go.Proofs
variable {g : S_geo_Geo} {size : Int}

theorem capW_ok (F : Nat) (hF : 5 ≤ F) (t i : Nat) : m_cap_Word F (sf t i).xCap = some (capW (sf t i).xCap, true) := by
  obtain ⟨G, rfl⟩ : ∃ G, F = G + 5 := ⟨F - 5, by omega⟩
  rcases sf_cases t i with e | e | e | e <;> rw [e]
  · exact cw1 G
  · exact cw2 G
  · exact cw2 G
  · exact cw3 G
theorem capG_ok (F : Nat) (hF : 5 ≤ F) (t i : Nat) : m_cap_Get F (capW (sf t i).xCap) = some ((sf t i).xCap, true) := by
  obtain ⟨G, rfl⟩ : ∃ G, F = G + 5 := ⟨F - 5, by omega⟩
  rcases sf_cases t i with e | e | e | e <;> rw [e]
  · exact cgt1 G
  · exact cgt2 G
  · exact cgt2 G
  · exact cgt3 G
theorem node_cases {i t : Nat} (h2 : 2 ≤ i) (h : i < 2 + t) (ht : t ≤ 4) : (8 * ((i : Int) - 2)) = 0 ∨ (8 * ((i : Int) - 2)) = 8 ∨ (8 * ((i : Int) - 2)) = 16 ∨ (8 * ((i : Int) - 2)) = 24 := by omega
theorem thP_ok (F : Nat) (hF : 20 ≤ F) {t : Nat} (ht : t ≤ 4) (hz1 : 1 ≤ size) (hz2 : size ≤ 4096) (i : Nat) : m_thing_Put F (tf t size i) = some (thW (tf t size i)) := by
  obtain ⟨G, rfl⟩ : ∃ G, F = G + 6 := ⟨F - 6, by omega⟩
  rcases tf_cases t i size with ⟨_, e⟩ | ⟨_, e⟩ | ⟨c1, c2, e⟩ | ⟨c1, _, e⟩ <;> rw [e]
  · obtain ⟨n, rfl⟩ : ∃ n : Nat, size = n := ⟨size.toNat, by omega⟩
    exact tp1 G n (by omega) (by omega)
  · exact tp2 G
  · rcases node_cases c1 c2 ht with h | h | h | h <;> rw [h]
    · exact tp30 G
    · exact tp31 G
    · exact tp32 G
    · exact tp33 G
  · exact tp4 G
theorem thG_ok (F : Nat) (hF : 20 ≤ F) {t : Nat} (ht : t ≤ 4) (hz1 : 1 ≤ size) (hz2 : size ≤ 4096) (i : Nat) : m_thing_Get F (thW (tf t size i)) = some (tf t size i, true) := by
  obtain ⟨G, rfl⟩ : ∃ G, F = G + 10 := ⟨F - 10, by omega⟩
  rcases tf_cases t i size with ⟨_, e⟩ | ⟨_, e⟩ | ⟨c1, c2, e⟩ | ⟨c1, _, e⟩ <;> rw [e]
  · obtain ⟨n, rfl⟩ : ∃ n : Nat, size = n := ⟨size.toNat, by omega⟩
    exact tg1 G n (by omega) (by omega)
  · exact tg2 G
  · rcases node_cases c1 c2 ht with h | h | h | h <;> rw [h]
    · exact tg30 G
    · exact tg31 G
    · exact tg32 G
    · exact tg33 G
  · exact tg4 G
theorem thW_length (t : S_thing_Thing) : (thW t).length = 8 := rfl
theorem sf_up (t i : Nat) : (sf t i).xUp = -1 ∨ (sf t i).xUp = 1 := by
  rcases sf_cases t i with e | e | e | e <;> rw [e] <;> simp
/-- How many words. -/
def N1 (g : S_geo_Geo) : Nat := C1 g + 8
/-- The words behind the superblocks, and v slots. -/
noncomputable def wS (g : S_geo_Geo) (b : Int) (v : Nat) (i : Nat) : Int :=
  if i < 8 then (sup ⟨g, b⟩).getD i 0
  else if i < A1 g then 0
  else if i < A1 g + 2 * v then (if (i - A1 g) % 2 = 0 then capW (sf g.xThreads.toNat ((i - A1 g) / 2)).xCap else (sf g.xThreads.toNat ((i - A1 g) / 2)).xUp + 1)
  else if i < C1 g then 0
  else (sup ⟨g, b⟩).getD (i - C1 g) 0
/-- The words behind all slots, and v things. -/
noncomputable def wT (g : S_geo_Geo) (size : Int) (b : Int) (v : Nat) (i : Nat) : Int :=
  if i < 8 then (sup ⟨g, b⟩).getD i 0
  else if i < A1 g then 0
  else if i < B1 g then (if (i - A1 g) % 2 = 0 then capW (sf g.xThreads.toNat ((i - A1 g) / 2)).xCap else (sf g.xThreads.toNat ((i - A1 g) / 2)).xUp + 1)
  else if i < B1 g + 8 * v then (thW (tf g.xThreads.toNat size ((i - B1 g) / 8))).getD ((i - B1 g) % 8) 0
  else if i < C1 g then 0
  else (sup ⟨g, b⟩).getD (i - C1 g) 0
theorem put_l1 (F : Nat) (hF : 200 ≤ F) (hg : GG g) (b : Int) (k : List Int → Option (List Int)) : m_image_Put_l1 F (st0 g size) k F 0 (tab (N1 g) (wS g b 0)) = k (tab (N1 g) (wS g b g.xSlots.toNat)) := by
  have t1 := hg.t1; have t2 := hg.t2; have s2 := hg.s2; have s1 := hg.s1; have c8 := C8 hg
  have hl : (st0 g size).xSlots.length = g.xSlots.toNat := tab_length _ _
  refine loop_st (fun n v l => m_image_Put_l1 F (st0 g size) k n v l) g.xSlots.toNat (fun v => tab (N1 g) (wS g b v)) _ (fun n v hv => ?_) (fun n => ?_) F 0 (by omega) (by omega)
  · have hn : nth (st0 g size).xSlots (v : Int) = sf g.xThreads.toNat v := nth_tab' hv
    have hgeo : (st0 g size).xGeo = g := rfl
    have hu := sf_up g.xThreads.toNat v
    have hlt : A1 g + 2 * v + 1 < B1 g := by unfold B1; omega
    have hA8 : 16 ≤ A1 g := by unfold A1; omega
    have hlt2 : B1 g ≤ C1 g := by unfold C1; omega
    have hN : N1 g = C1 g + 8 := rfl
    conv => lhs; unfold m_image_Put_l1
    rw [hl, dlt hv, ct, gd_ix (by omega) (by rw [hl]; omega), hgeo, geo_Slot F hg hv, ob, hn, capW_ok F (by omega), ob, gd_ix (by omega) (by rw [tab_length]; omega), gd_inI (by omega) (by omega), gd_inI (by omega) (by omega), gd_ix (by omega) (by rw [tab_length]; omega), gd_inI (by omega) (by omega), cs, cs]
    rw [wrapu_small (by omega) (by omega), setn_tab, setn_tab, Int.toNat_natCast, Int.toNat_natCast]
    congr 1
    refine tab_congr fun j hj => ?_
    unfold wS
    by_cases c1 : j = A1 g + 2 * v + 1
    · subst c1
      rw [if_pos rfl, if_neg (by omega), if_neg (by omega), if_pos (by omega), if_neg (by omega), show (A1 g + 2 * v + 1 - A1 g) / 2 = v by omega]
    · rw [if_neg c1]
      by_cases c2 : j = A1 g + 2 * v
      · subst c2
        rw [if_pos rfl, if_neg (by omega), if_neg (by omega), if_pos (by omega), if_pos (by omega), show (A1 g + 2 * v - A1 g) / 2 = v by omega]
      · rw [if_neg c2]
        by_cases c3 : j < 8
        · rw [if_pos c3, if_pos c3]
        · rw [if_neg c3, if_neg c3]
          by_cases c4 : j < A1 g
          · rw [if_pos c4, if_pos c4]
          · rw [if_neg c4, if_neg c4]
            by_cases c5 : j < A1 g + 2 * v
            · rw [if_pos c5, if_pos (show j < A1 g + 2 * (v + 1) by omega)]
            · rw [if_neg c5, if_neg (show ¬ j < A1 g + 2 * (v + 1) by omega)]
  · conv => lhs; unfold m_image_Put_l1
    rw [hl, dge, cf]
theorem put_l0 (F : Nat) (hF : 200 ≤ F) (hg : GG g) (hz1 : 1 ≤ size) (hz2 : size ≤ 4096) (b : Int) (k : List Int → Option (List Int)) : m_image_Put_l0 F (st0 g size) k F 0 (tab (N1 g) (wT g size b 0)) = k (tab (N1 g) (wT g size b g.xThings.toNat)) := by
  have t1 := hg.t1; have t2 := hg.t2; have h1 := hg.h1; have h2 := hg.h2; have c8 := C8 hg
  have hl : (st0 g size).xThings.length = g.xThings.toNat := tab_length _ _
  refine loop_st (fun n v l => m_image_Put_l0 F (st0 g size) k n v l) g.xThings.toNat (fun v => tab (N1 g) (wT g size b v)) _ (fun n v hv => ?_) (fun n => ?_) F 0 (by omega) (by omega)
  · have hn : nth (st0 g size).xThings (v : Int) = tf g.xThreads.toNat size v := nth_tab' hv
    have hgeo : (st0 g size).xGeo = g := rfl
    have hlt : B1 g + 8 * v + 8 ≤ C1 g := by unfold C1; omega
    have hA : A1 g ≤ B1 g := by unfold B1; omega
    have hA8 : 16 ≤ A1 g := by unfold A1; omega
    have hN : N1 g = C1 g + 8 := rfl
    have e0 : 0 + (((B1 g + 8 * v : Nat) : Int)).toNat * 1 = B1 g + 8 * v := by omega
    have e1 : (((N1 g : Nat) : Int)).toNat - (((B1 g + 8 * v : Nat) : Int)).toNat = N1 g - (B1 g + 8 * v) := by omega
    conv => lhs; unfold m_image_Put_l0
    rw [hl, dlt hv, ct, gd_ix (by omega) (by rw [hl]; omega), hgeo, geo_Thing F hg hv, ob, tab_length, gd_pos (by omega), hn, thP_ok F (by omega) (by omega) hz1 hz2, ob, thW_length, e0, e1, gd_pos (by omega), gd_inI (by omega) (by omega), cs]
    rw [cpy_tab (by rw [thW_length]; omega) (by rw [thW_length]; omega), thW_length]
    congr 1
    refine tab_congr fun j hj => ?_
    unfold wT
    by_cases c1 : B1 g + 8 * v ≤ j ∧ j < B1 g + 8 * v + 8
    · rw [if_pos c1, if_neg (by omega), if_neg (by omega), if_neg (by omega), if_pos (by omega), show (j - B1 g) / 8 = v by omega, show (j - B1 g) % 8 = j - (B1 g + 8 * v) by omega]
    · rw [if_neg c1]
      by_cases c3 : j < 8
      · rw [if_pos c3, if_pos c3]
      · rw [if_neg c3, if_neg c3]
        by_cases c4 : j < A1 g
        · rw [if_pos c4, if_pos c4]
        · rw [if_neg c4, if_neg c4]
          by_cases c5 : j < B1 g
          · rw [if_pos c5, if_pos c5]
          · rw [if_neg c5, if_neg c5]
            by_cases c6 : j < B1 g + 8 * v
            · rw [if_pos c6, if_pos (show j < B1 g + 8 * (v + 1) by omega)]
            · rw [if_neg c6, if_neg (show ¬ j < B1 g + 8 * (v + 1) by omega)]
  · conv => lhs; unfold m_image_Put_l0
    rw [hl, dge, cf]
/-- The words of the first state. -/
noncomputable def P1 (g : S_geo_Geo) (size b : Int) : List Int := tab (N1 g) (wf g size b)
theorem image_Put (F : Nat) (hF : 200 ≤ F) (hg : GG g) (hz1 : 1 ≤ size) (hz2 : size ≤ 4096) (b : Int) : m_image_Put F (st0 g size) b = some (P1 g size b) := by
  have t1 := hg.t1; have t2 := hg.t2; have h1 := hg.h1; have h2 := hg.h2; have c8 := C8 hg
  have hgeo : (st0 g size).xGeo = g := rfl
  have hA : A1 g ≤ B1 g := by unfold B1; omega
  have hA8 : 16 ≤ A1 g := by unfold A1; omega
  have hBC : B1 g ≤ C1 g := by unfold C1; omega
  have hN : N1 g = C1 g + 8 := rfl
  have e0 : ((((C1 g / 8 + 1 : Nat) : Int)) * 8).toNat = N1 g := by omega
  unfold m_image_Put
  rw [state_Good F (by omega) hg hz1 hz2, ob, Bool.not_true, cf, hgeo, geo_Rows F hg, ob, gd_inI (by omega) (by omega), gd_pos (by omega), super_Put F (by omega) _ (geo_Good F hg), ob, sup_length, e0, List.length_replicate, gd_pos (by omega), geo_Copy F hg, ob, gd_pos (by omega), cpy_length, List.length_replicate, gd_pos (by omega), jn_, replicate_tab]
  rw [cpy_tab (by rw [sup_length]; omega) (by rw [sup_length]; omega), cpy_tab (by rw [sup_length]; omega) (by rw [sup_length]; omega), sup_length]
  have eS : tab (N1 g) (fun i => if 0 + (((C1 g : Nat) : Int)).toNat * 1 ≤ i ∧ i < 0 + (((C1 g : Nat) : Int)).toNat * 1 + 8 then (sup ⟨g, b⟩).getD (i - (0 + (((C1 g : Nat) : Int)).toNat * 1)) 0 else if 0 ≤ i ∧ i < 0 + 8 then (sup ⟨g, b⟩).getD (i - 0) 0 else 0) = tab (N1 g) (wS g b 0) := by
    refine tab_congr fun j hj => ?_
    have e1 : 0 + (((C1 g : Nat) : Int)).toNat * 1 = C1 g := by omega
    rw [e1]
    unfold wS
    by_cases c1 : C1 g ≤ j
    · rw [if_pos (by omega), if_neg (by omega), if_neg (by omega), if_neg (by omega), if_neg (by omega)]
    · rw [if_neg (by omega)]
      by_cases c2 : j < 8
      · rw [if_pos (by omega), if_pos c2]; rfl
      · rw [if_neg (by omega), if_neg c2]
        by_cases c3 : j < A1 g
        · rw [if_pos c3]
        · rw [if_neg c3, if_neg (by omega), if_pos (by omega)]
  rw [eS, put_l1 F hF hg b, jn_]
  have eT : tab (N1 g) (wS g b g.xSlots.toNat) = tab (N1 g) (wT g size b 0) := by
    refine tab_congr fun j hj => ?_
    unfold wS wT
    have e2 : A1 g + 2 * g.xSlots.toNat = B1 g := rfl
    rw [e2]
    by_cases c1 : j < 8
    · rw [if_pos c1, if_pos c1]
    · rw [if_neg c1, if_neg c1]
      by_cases c2 : j < A1 g
      · rw [if_pos c2, if_pos c2]
      · rw [if_neg c2, if_neg c2]
        by_cases c3 : j < B1 g
        · rw [if_pos c3, if_pos c3]
        · rw [if_neg c3, if_neg c3, if_neg (show ¬ j < B1 g + 8 * 0 by omega)]
  rw [eT, put_l0 F hF hg hz1 hz2 b]
  unfold P1
  congr 1
  refine tab_congr fun j hj => ?_
  unfold wT wf
  have e2 : B1 g + 8 * g.xThings.toNat = C1 g := rfl
  rw [e2]
  by_cases c1 : j < 8
  · rw [if_pos c1, if_pos c1]
  · rw [if_neg c1, if_neg c1]
    by_cases c2 : j < A1 g
    · rw [if_pos c2, if_pos c2]
    · rw [if_neg c2, if_neg c2]
      by_cases c3 : j < B1 g
      · rw [if_pos c3, if_pos c3]
      · rw [if_neg c3, if_neg c3]
        by_cases c4 : j < C1 g
        · rw [if_pos c4, if_pos c4]
        · rw [if_neg c4, if_neg c4, if_neg c4]
end Go.V.P
