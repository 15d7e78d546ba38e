/- Plain laws, part Q: the model of 'BootMakes' answers true, whatever the places and the room. No premises. -/
import Derived.Test.YteocabneaenpeaaGreatLP
set_option linter.unusedVariables false
set_option linter.unusedSimpArgs false
namespace Go.V.P
open Go.V Go.Proofs
variable {g : S_geo_Geo} {size : Int}

theorem Make_ok (F : Nat) (hF : 10000 ≤ F) (hg : GG g) (hz1 : 1 ≤ size) (hz2 : size ≤ 4096) : m_boot_Make F g size = some (some (mem0 (N1 g / 8) (wf g size 0)), 0) := by
  have c8 := C8 hg
  have hN : N1 g = C1 g + 8 := rfl
  unfold m_boot_Make
  rw [state_New F (by omega) hg hz1 hz2, ob, show ((0 : Int) != 0) = false from rfl, cf, image_Put F (by omega) hg hz1 hz2, ob]
  have := nvm_From F (R := N1 g / 8) (wf g size 0) (by omega) (by omega) (by omega)
  rw [show 8 * (N1 g / 8) = N1 g by omega] at this
  unfold P1
  rw [this, ob]
  rfl
theorem Make_bad (F : Nat) (h : ¬ (GG g ∧ 1 ≤ size ∧ size ≤ 4096)) : m_boot_Make F g size = some (none, 1) := by
  unfold m_boot_Make
  rw [state_New_bad F h, ob]
  rfl
theorem State_ok (F : Nat) (hF : 5000 ≤ F) (hg : GG g) (hz1 : 1 ≤ size) (hz2 : size ≤ 4096) {b : Int} {M : S_nvm_Mem} {c : Nat} {w : Nat → Int} (h : Mem M (N1 g / 8) w c) (hw : tab (N1 g) w = P1 g size b) :
    m_gear_Gear_State F ⟨M, g, List.replicate g.xThreads.toNat work0, [], false⟩ = some (st0 g size, 0) := by
  have t1 := hg.t1; have t2 := hg.t2; have c8 := C8 hg
  have hN : N1 g = C1 g + 8 := rfl
  have hA8 : 16 ≤ A1 g := by unfold A1; omega
  have hl : (P1 g size b).length = N1 g := tab_length _ _
  have hwords : m_nvm_Mem_Words F M = some (P1 g size b) := by
    rw [words_ok F h (by omega) (by omega), show 8 * (N1 g / 8) = N1 g by omega, hw]
  unfold m_gear_Gear_State m_gear_Gear_may m_nvm_Mem_Off
  dsimp only
  rw [h.off, ob, show (false || false) = false from rfl, cf, List.length_replicate, decide_eq_false (show ¬ ((0 : Int) < 0) by omega), decide_eq_false (show ¬ (((g.xThreads.toNat : Nat) : Int) ≤ 0) by omega), show (false || false) = false from rfl, cf, ob, show ((0 : Int) != 0) = false from rfl, cf, hwords, ob, jn_]
  refine loop_all (fun n v => m_gear_Gear_State_l0 F ⟨M, g, List.replicate g.xThreads.toNat work0, [], false⟩ _ n (P1 g size b) v) g.xThreads.toNat _ (fun n v hv => ?_) (fun n => ?_) F 0 (by omega) (by omega)
  · have hA : 16 + 1208 * v + 1208 ≤ A1 g := by unfold A1; omega
    have hAB : A1 g ≤ B1 g := by unfold B1; omega
    have hBC : B1 g ≤ C1 g := by unfold C1; omega
    conv => lhs; unfold m_gear_Gear_State_l0 m_gear_Gear_desc
    dsimp only
    rw [List.length_replicate, dlt hv, ct, jn_, geo_Desc F hg hv, ob, gd_inI (by omega) (by omega), hl, gd_pos (by omega), cut_desc hg size b hv, opd_Get F hg, ob, ob]
    dsimp only
    rw [show (true && (D0.xStatus == 2)) = false from rfl, cf]
    rw [gd_inI (by omega) (by omega), cs]
  · conv => lhs; unfold m_gear_Gear_State_l0
    dsimp only
    rw [List.length_replicate, dge, cf, image_Get F (by omega) hg hz1 hz2, ob]
def gPlain : S_geo_Geo := ⟨2, 32, 16⟩
theorem GG_plain : GG gPlain := ⟨by decide, by decide, by decide, by decide, by decide, by decide, by decide⟩
theorem awake_ok (F : Nat) (hF : 10000 ≤ F) (hF2 : F < 1000000) : m_reevelaw26_awake F = some true := by
  have hg := GG_plain
  have hN : N1 gPlain = 2632 := by decide
  have hs : (st0 gPlain 64).xSlots.length = 32 := tab_length _ _
  have ht : (st0 gPlain 64).xThings.length = 16 := tab_length _ _
  obtain ⟨M', c', w', e, hM', hw'⟩ := boot_ok F (by omega) hg (size := 64) (by decide) (by decide) (b := 0) (by decide) (by decide) (c := 0) (by decide) (mem0_Mem (wf gPlain 64 0))
  have hwords : m_nvm_Mem_Words F M' = some (P1 gPlain 64 (0 + 1)) := by
    rw [words_ok F hM' (by rw [hN]; omega) (by rw [hN]; omega), show 8 * (N1 gPlain / 8) = N1 gPlain by rw [hN], hw']
  have hl : (P1 gPlain 64 (0 + 1)).length = 2632 := (tab_length _ _).trans hN
  have n4 : nth (P1 gPlain 64 (0 + 1)) 4 = 1 := by
    unfold P1
    rw [show (4 : Int) = ((4 : Nat) : Int) from rfl, nth_tab' (by rw [hN]; omega)]
    rfl
  unfold m_reevelaw26_awake
  rw [show m_geo_Plain F = some gPlain from rfl, ob, Make_ok F hF hg (by decide) (by decide), ob]
  unfold optc
  dsimp only
  rw [show (((0 : Int) != 0) || false) = false from rfl, cf, e, ob]
  dsimp only
  rw [show (((0 : Int) != 0) || false) = false from rfl, cf, State_ok F (by omega) hg (by decide) (by decide) hM' hw', ob, ob, state_New F (by omega) hg (by decide) (by decide), ob, hwords, ob]
  dsimp only
  rw [show ((0 : Int) == 0) = true from rfl, ttt, lzt, same_self F _ (by rw [hs]; omega) (by rw [ht]; omega) hF2, ob, hl, show decide ((8 : Int) < ((2632 : Nat) : Int)) = true from rfl, show ((true && true) && true) = true from rfl, gd_pos (fun _ => ⟨by decide, by rw [hl]; decide⟩), n4, show ((1 : Int) == 1) = true from rfl, show (true && true) = true from rfl, ttt, lzt, sound_eq F (by omega) hg (by decide) (by decide) (by decide) (by decide), ob]
  rfl
theorem BootMakes_ok (F : Nat) (hF : 10000 ≤ F) (hF2 : F < 1000000) (g : S_geo_Geo) (size : Int) : m_reevelaw26_BootMakes F g size = some true := by
  unfold m_reevelaw26_BootMakes
  rw [awake_ok F hF hF2, ob, Bool.not_true, cf]
  by_cases h : GG g ∧ 1 ≤ size ∧ size ≤ 4096
  · obtain ⟨hg, hz1, hz2⟩ := h
    have t1 := hg.t1; have t2 := hg.t2; have s2 := hg.s2; have s1 := hg.s1; have h1 := hg.h1; have h2 := hg.h2; have c8 := C8 hg
    have hN : N1 g = C1 g + 8 := rfl
    have hs : (st0 g size).xSlots.length = g.xSlots.toNat := tab_length _ _
    have ht : (st0 g size).xThings.length = g.xThings.toNat := tab_length _ _
    have hwords : m_nvm_Mem_Words F (mem0 (N1 g / 8) (wf g size 0)) = some (P1 g size 0) := by
      rw [words_ok F (mem0_Mem _) (by omega) (by omega), show 8 * (N1 g / 8) = N1 g by omega]; rfl
    rw [Make_ok F hF hg hz1 hz2, ob]
    unfold optc
    dsimp only
    rw [state_New F (by omega) hg hz1 hz2, ob]
    dsimp only
    rw [show (((0 : Int) != 0) || ((0 : Int) != 0)) = false from rfl, cf, out0 F _ (by omega) (by omega), ob, show ((((([] : List Int).length : Nat) : Int)) != 0) = false from rfl, cf, hwords, ob, after_eq F (by omega) hg hz1 hz2 (by decide) (by decide), ob]
    dsimp only
    rw [tab_length, show ((((g.xThreads.toNat : Nat) : Int)) != g.xThreads) = false by rw [bne_eq_false_iff_eq]; omega, show ((!true) || ((0 : Int) + 1 != 1) || false) = false from rfl, fff, lzt, same_self F _ (by omega) (by omega) hF2, ob, show (false || !true) = false from rfl, cf, jn_]
    refine loop_all (fun n v => m_reevelaw26_BootMakes_l0 F _ _ n v) g.xThreads.toNat _ (fun n v hv => ?_) (fun n => ?_) F 0 (by omega) (by omega)
    · conv => lhs; unfold m_reevelaw26_BootMakes_l0
      dsimp only
      rw [tab_length, dlt hv, ct, gd_ix (by omega) (by rw [tab_length]; omega), nth_tab' hv, gd_pos (fun _ => ⟨by omega, by rw [tab_length]; omega⟩), show ((D0.xStatus != 0) || (D0.xSeq != 0)) = false from rfl, cf, gd_inI (by omega) (by omega), cs]
    · conv => lhs; unfold m_reevelaw26_BootMakes_l0
      dsimp only
      rw [tab_length, dge, cf]
  · rw [Make_bad F h, ob]
    unfold optc
    dsimp only
    rw [state_New_bad F h, ob]
    rfl
end Go.V.P
