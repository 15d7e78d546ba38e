/- Plain laws, part P: a Boot. No premises. -/
import Derived.Test.YteocabneaenpeaaGreatLO
set_option linter.unusedVariables false
set_option linter.unusedSimpArgs false
namespace Go.V.P
open Go.V Go.Proofs
variable {g : S_geo_Geo} {size : Int}

theorem app_same {ws : List S_wset_Write} {w : Nat → Int} (h : ∀ x ∈ ws, w x.xAt.toNat = x.xV) : app ws w = w := by
  induction ws with
  | nil => rfl
  | cons x ws ih =>
    unfold app
    have : (fun i => if i = x.xAt.toNat then x.xV else w i) = w := by
      funext i
      by_cases c : i = x.xAt.toNat
      · rw [if_pos c, c]; exact (h x List.mem_cons_self).symm
      · rw [if_neg c]
    rw [this]
    exact ih fun y hy => h y (List.mem_cons_of_mem _ hy)
theorem app_blk (a : Nat) (f : Nat → Int) (w : Nat → Int) (i : Nat) : ∀ n : Nat, app (tab n (fun j => (⟨((a + j : Nat) : Int), f j⟩ : S_wset_Write))) w i = if a ≤ i ∧ i < a + n then f (i - a) else w i
  | 0 => by rw [tab_zero, if_neg (by omega)]; rfl
  | n + 1 => by
    rw [tab_succ, app_append]
    show (if i = (((a + n : Nat) : Int)).toNat then f n else app (tab n (fun j => (⟨((a + j : Nat) : Int), f j⟩ : S_wset_Write))) w i) = _
    rw [app_blk a f w i n, Int.toNat_natCast]
    by_cases c : i = a + n
    · rw [if_pos c, if_pos (by omega)]; congr 1; omega
    · rw [if_neg c]
      by_cases c2 : a ≤ i ∧ i < a + n
      · rw [if_pos c2, if_pos (by omega)]
      · rw [if_neg c2, if_neg (by omega)]
noncomputable def blk (g : S_geo_Geo) (b : Int) (a : Nat) : List S_wset_Write := tab 8 (fun j => ⟨((a + j : Nat) : Int), (sup ⟨g, b⟩).getD j 0⟩)
theorem block_ok (F : Nat) (hF : 20 ≤ F) (hg : GG g) (s : S_state_State) (hs : s.xGeo = g) (was : List S_opd_Desc) (b : Int) (first : Bool) (a : Nat) (ha : a ≤ 100000) : m_boot_block F ⟨s, was, b, first⟩ (a : Int) = some (blk g b a) := by
  unfold m_boot_block
  dsimp only
  rw [jn_, hs, super_Put F (by omega) _ (geo_Good F hg), ob]
  refine loop_st (fun n v l => m_boot_block_l0 F (a : Int) _ (sup ⟨g, b⟩) n v l) 8 (fun v => tab v (fun j => (⟨((a + j : Nat) : Int), (sup ⟨g, b⟩).getD j 0⟩ : S_wset_Write))) _ (fun n v hv => ?_) (fun n => ?_) F 0 (by omega) (by omega)
  · conv => lhs; unfold m_boot_block_l0
    rw [sup_length, dlt hv, ct, gd_ix (by omega) (by rw [sup_length]; omega), gd_inI (by omega) (by omega), gd_pos (by rw [tab_length]; simp only [List.length_cons, List.length_nil]; omega), gd_inI (by omega) (by omega), cs, tab_succ, show ((a : Int) + (v : Int)) = ((a + v : Nat) : Int) by omega, nth_nat _ (by rw [sup_length]; exact hv)]
    simp [List.getD_eq_getElem?_getD, show v < (sup ⟨g, b⟩).length by rw [sup_length]; exact hv]
  · conv => lhs; unfold m_boot_block_l0
    rw [sup_length, dge, cf]
    rfl
theorem first_D0 (G : Nat) : m_opd_First (G + 10) D0 = some 0 := by kernel_rfl
def marks (t : Nat) : List S_wset_Write := tab t (fun v => ⟨((16 + 1208 * v : Nat) : Int), 0⟩)
theorem steps_ok (F : Nat) (hF : 20 ≤ F) (hg : GG g) (b : Int) : m_boot_steps F ⟨st0 g size, tab g.xThreads.toNat (fun _ => D0), b, true⟩ = some [marks g.xThreads.toNat, [⟨8, 0⟩], blk g b (C1 g), blk g b 0] := by
  have t1 := hg.t1; have t2 := hg.t2; have c8 := C8 hg
  unfold m_boot_steps
  dsimp only
  rw [jn_]
  have hgeo : (st0 g size).xGeo = g := rfl
  obtain ⟨G, hG⟩ : ∃ G, F = G + 10 := ⟨F - 10, by omega⟩
  have hfirst : m_opd_First F D0 = some 0 := by rw [hG]; exact first_D0 G
  have key : ∀ k, m_boot_steps_l0 F ⟨st0 g size, tab g.xThreads.toNat (fun _ => D0), b, true⟩ k F 0 [] [] = k (marks g.xThreads.toNat) [] := by
    intro k
    refine loop_st (fun n v l => m_boot_steps_l0 F ⟨st0 g size, tab g.xThreads.toNat (fun _ => D0), b, true⟩ k n v l []) g.xThreads.toNat (fun v => tab v (fun v => (⟨((16 + 1208 * v : Nat) : Int), 0⟩ : S_wset_Write))) _ (fun n v hv => ?_) (fun n => ?_) F 0 (by omega) (by omega)
    · conv => lhs; unfold m_boot_steps_l0
      dsimp only
      rw [tab_length, dlt hv, ct, gd_ix (by omega) (by rw [tab_length]; omega), hgeo, geo_Desc F hg hv, ob, jn_, nth_tab' hv, show (D0.xStatus == 2) = false from rfl, cf]
      dsimp only
      rw [jn_, show (D0.xStatus == 1) = false from rfl, cf]
      dsimp only
      rw [then_D0, ob, hfirst, ob, gd_pos (by rw [tab_length]; simp only [List.length_cons, List.length_nil]; omega), gd_inI (by omega) (by omega), cs, tab_succ]
    · conv => lhs; unfold m_boot_steps_l0
      dsimp only
      rw [tab_length, dge, cf]
      rfl
  have h1 : 1 = ([(⟨8, 0⟩ : S_wset_Write)] : List S_wset_Write).length := rfl
  have hb0 : m_boot_block F ⟨st0 g size, tab g.xThreads.toNat (fun _ => D0), b, true⟩ 0 = some (blk g b 0) := block_ok F hF hg _ hgeo _ _ _ 0 (by omega)
  have hbC : m_boot_block F ⟨st0 g size, tab g.xThreads.toNat (fun _ => D0), b, true⟩ ((C1 g : Nat) : Int) = some (blk g b (C1 g)) := block_ok F hF hg _ hgeo _ _ _ _ (by omega)
  rw [key, hgeo, geo_Lock F hg, ob, gd_pos h1, gd_pos h1, gd_pos (by simp), ct, geo_Copy F hg, ob, hbC, ob, hb0, ob, gd_pos (by simp)]
  rfl
/-- All parts, one behind the other. -/
def appA (l : List (List S_wset_Write)) (w : Nat → Int) : Nat → Int := match l with
  | [] => w
  | ws :: l => appA l (app ws w)
theorem appA_append (a b : List (List S_wset_Write)) (w : Nat → Int) : appA (a ++ b) w = appA b (appA a w) := by
  induction a generalizing w with
  | nil => rfl
  | cons x a ih => exact ih _
theorem boot_l0 (F : Nat) {R : Nat} {l : List (List S_wset_Write)} (hR : R ≤ 4096) (hF : R < F) (hF2 : 1000 ≤ F) (hfit : ∀ ws ∈ l, fitW R ws ∧ ws.length ≤ 900) (hl : l.length ≤ 100) (Q : S_nvm_Mem → S_gear_Gear → Prop) (k : List S_row_Row → Bool → Int → Int → List Int → Option (S_nvm_Mem × Option S_gear_Gear × Int)) (w0 : Nat → Int) (c0 : Nat)
    (hk : ∀ M, Mem M R (appA l w0) (c0 + 2000 * l.length) → ∃ M' G, k M.xl M.xoff M.xcount M.xfuse M.xkeep = some (M', some G, 0) ∧ Q M' G) (hc : c0 ≤ 1000000) :
    ∀ (n v : Nat) (M : S_nvm_Mem), v ≤ l.length → l.length - v < n → Mem M R (appA (l.take v) w0) (c0 + 2000 * v) → ∃ M' G, m_boot_Boot_l0 F k l n (v : Int) M.xl M.xoff M.xcount M.xfuse M.xkeep = some (M', some G, 0) ∧ Q M' G := by
  intro n
  induction n with
  | zero => intro v M h1 h2; omega
  | succ n ih =>
    intro v M h1 h2 h
    unfold m_boot_Boot_l0
    by_cases hv : v < l.length
    · have hm : nth l (v : Int) ∈ l := by rw [nth_nat l hv]; exact List.getElem_mem hv
      obtain ⟨a1, a2⟩ := hfit _ hm
      obtain ⟨M', e, h'⟩ := last_ok F h hR a1 (by omega) (by omega) hF (by omega)
      rw [dlt hv, ct, gd_ix (by omega) (by omega), show (⟨M.xl, M.xoff, M.xcount, M.xfuse, M.xkeep⟩ : S_nvm_Mem) = M from rfl, e, ob, show ((0 : Int) != 0) = false from rfl, cf, gd_inI (by omega) (by omega), cs]
      refine ih (v + 1) M' (by omega) (by omega) ?_
      have e2 : appA (l.take (v + 1)) w0 = app (nth l (v : Int)) (appA (l.take v) w0) := by
        rw [List.take_succ_eq_append_getElem hv, appA_append, nth_nat l hv]
        rfl
      rw [e2]
      exact ⟨h'.len, h'.wds, h'.off, h'.fuse, h'.cnt0, by have := h'.cnt; omega⟩
    · have : v = l.length := by omega
      subst this
      rw [dge, cf]
      rw [List.take_length] at h
      exact hk M h
theorem steps_wf (hg : GG g) (b : Int) (i : Nat) : appA [marks g.xThreads.toNat, [⟨8, 0⟩], blk g (b + 1) (C1 g), blk g (b + 1) 0] (wf g size b) i = if i < N1 g then wf g size (b + 1) i else wf g size b i := by
  have t1 := hg.t1; have t2 := hg.t2; have c8 := C8 hg
  have hA8 : 16 ≤ A1 g := by unfold A1; omega
  have hAB : A1 g ≤ B1 g := by unfold B1; omega
  have hBC : B1 g ≤ C1 g := by unfold C1; omega
  have hN : N1 g = C1 g + 8 := rfl
  have m1 : app (marks g.xThreads.toNat) (wf g size b) = wf g size b := app_same fun x hx => by
    unfold marks tab at hx
    obtain ⟨v, hv, rfl⟩ := List.mem_map.1 hx
    have hv := List.mem_range.1 hv
    have hA : 16 + 1208 * v + 1208 ≤ A1 g := by unfold A1; omega
    dsimp only
    rw [Int.toNat_natCast]
    unfold wf
    rw [if_neg (by omega), if_pos (by omega)]
  have m2 : app [⟨8, 0⟩] (wf g size b) = wf g size b := app_same fun x hx => by
    rw [List.mem_singleton] at hx
    subst hx
    show wf g size b 8 = 0
    unfold wf
    rw [if_neg (by omega), if_pos (by omega)]
  show app (blk g (b + 1) 0) (app (blk g (b + 1) (C1 g)) (app [⟨8, 0⟩] (app (marks g.xThreads.toNat) (wf g size b)))) i = _
  rw [m1, m2]
  unfold blk
  rw [app_blk, app_blk]
  by_cases c1 : i < 8
  · rw [if_pos (by omega), if_pos (by omega)]
    unfold wf
    rw [if_pos c1, Nat.sub_zero]
  · rw [if_neg (by omega)]
    by_cases c2 : C1 g ≤ i ∧ i < C1 g + 8
    · rw [if_pos c2, if_pos (by omega)]
      unfold wf
      rw [if_neg c1, if_neg (by omega), if_neg (by omega), if_neg (by omega)]
    · rw [if_neg c2]
      by_cases c3 : i < N1 g
      · rw [if_pos c3]
        unfold wf
        rw [if_neg c1, if_neg c1]
        by_cases c4 : i < A1 g
        · rw [if_pos c4, if_pos c4]
        · rw [if_neg c4, if_neg c4]
          by_cases c5 : i < B1 g
          · rw [if_pos c5, if_pos c5]
          · rw [if_neg c5, if_neg c5, if_pos (by omega), if_pos (by omega)]
      · rw [if_neg c3]
def work0 : S_gear_work := ⟨0, D0, []⟩
theorem gear_New (F : Nat) (hF : 5000 ≤ F) (hg : GG g) (hz1 : 1 ≤ size) (hz2 : size ≤ 4096) (b : Int) {M : S_nvm_Mem} {c : Nat} {w : Nat → Int} (h : Mem M (N1 g / 8) w c) (hw : tab (N1 g) w = P1 g size b) :
    m_gear_New F M = some (some ⟨M, g, List.replicate g.xThreads.toNat work0, [], false⟩, 0) := by
  have t1 := hg.t1; have t2 := hg.t2; have c8 := C8 hg
  have hN : N1 g = C1 g + 8 := rfl
  have hA8 : 16 ≤ A1 g := by unfold A1; omega
  have hl : (P1 g size b).length = N1 g := tab_length _ _
  have hgeo : (st0 g size).xGeo = g := rfl
  have hwords : m_nvm_Mem_Words F M = some (P1 g size b) := by
    rw [words_ok F h (by omega) (by omega), show 8 * (N1 g / 8) = N1 g by omega, hw]
  have n8 : nth (P1 g size b) 8 = 0 := by
    unfold P1
    rw [show (8 : Int) = ((8 : Nat) : Int) from rfl, nth_tab' (by omega)]
    unfold wf
    rw [if_neg (by omega), if_pos (by omega)]
  unfold m_gear_New m_nvm_Mem_Off
  rw [h.off, ob, cf, hwords, ob, image_Get F (by omega) hg hz1 hz2, ob]
  dsimp only
  rw [show ((0 : Int) != 0) = false from rfl, fff, lzt, hgeo, geo_Lock F hg, ob, gd_pos (fun _ => ⟨by decide, by rw [hl]; omega⟩), n8, show (false || ((0 : Int) != 0)) = false from rfl, cf, jn_]
  refine loop_all (fun n v => m_gear_New_l0 F (P1 g size b) (st0 g size, 0) _ n v) g.xThreads.toNat _ (fun n v hv => ?_) (fun n => ?_) F 0 (by omega) (by omega)
  · have hA : 16 + 1208 * v + 1208 ≤ A1 g := by unfold A1; omega
    have hAB : A1 g ≤ B1 g := by unfold B1; omega
    have hBC : B1 g ≤ C1 g := by unfold C1; omega
    conv => lhs; unfold m_gear_New_l0
    dsimp only
    rw [hgeo, decide_eq_true (show (v : Int) < g.xThreads by omega), ct, geo_Desc F hg hv, ob, jn_, gd_inI (by omega) (by omega), hl, gd_pos (by omega), cut_desc hg size b hv, opd_Get F hg, ob]
    dsimp only
    rw [show (((!true) || (D0.xStatus == 1)) || (D0.xStatus == 2)) = false from rfl, cf, gd_inI (by omega) (by omega), cs]
  · conv => lhs; unfold m_gear_New_l0
    dsimp only
    rw [hgeo, decide_eq_false (show ¬ (((g.xThreads.toNat : Nat) : Int) < g.xThreads) by omega), cf, gd_pos (by omega)]
    rfl
theorem boot_ok (F : Nat) (hF : 5000 ≤ F) (hg : GG g) (hz1 : 1 ≤ size) (hz2 : size ≤ 4096) {b : Int} (h0 : 0 ≤ b) (h1 : b < 4611686018427387904) {M : S_nvm_Mem} {c : Nat} (hc : c ≤ 1000000) (h : Mem M (N1 g / 8) (wf g size b) c) :
    ∃ M' c' w', m_boot_Boot F M = some (M', some ⟨M', g, List.replicate g.xThreads.toNat work0, [], false⟩, 0) ∧ Mem M' (N1 g / 8) w' c' ∧ tab (N1 g) w' = P1 g size (b + 1) := by
  have t1 := hg.t1; have t2 := hg.t2; have c8 := C8 hg
  have hN : N1 g = C1 g + 8 := rfl
  have hA8 : 16 ≤ A1 g := by unfold A1; omega
  have hAB : A1 g ≤ B1 g := by unfold B1; omega
  have hBC : B1 g ≤ C1 g := by unfold C1; omega
  have hwords : m_nvm_Mem_Words F M = some (P1 g size b) := by
    rw [words_ok F h (by omega) (by omega), show 8 * (N1 g / 8) = N1 g by omega]; rfl
  have hw' : tab (N1 g) (appA [marks g.xThreads.toNat, [⟨8, 0⟩], blk g (b + 1) (C1 g), blk g (b + 1) 0] (wf g size b)) = P1 g size (b + 1) := by
    unfold P1
    exact tab_congr fun i hi => by rw [steps_wf hg b i, if_pos hi]
  have hfit : ∀ ws ∈ [marks g.xThreads.toNat, [⟨8, 0⟩], blk g (b + 1) (C1 g), blk g (b + 1) 0], fitW (N1 g / 8) ws ∧ ws.length ≤ 900 := by
    intro ws hws
    simp only [List.mem_cons, List.not_mem_nil, or_false] at hws
    rcases hws with rfl | rfl | rfl | rfl
    · refine ⟨fun x hx => ?_, by unfold marks; rw [tab_length]; omega⟩
      unfold marks tab at hx
      obtain ⟨v, hv, rfl⟩ := List.mem_map.1 hx
      have hv := List.mem_range.1 hv
      have hA : 16 + 1208 * v + 1208 ≤ A1 g := by unfold A1; omega
      dsimp only
      omega
    · refine ⟨fun x hx => ?_, by simp⟩
      rw [List.mem_singleton] at hx
      subst hx
      dsimp only
      omega
    · refine ⟨fun x hx => ?_, by unfold blk; rw [tab_length]; omega⟩
      unfold blk tab at hx
      obtain ⟨v, hv, rfl⟩ := List.mem_map.1 hx
      have hv := List.mem_range.1 hv
      dsimp only
      omega
    · refine ⟨fun x hx => ?_, by unfold blk; rw [tab_length]; omega⟩
      unfold blk tab at hx
      obtain ⟨v, hv, rfl⟩ := List.mem_map.1 hx
      have hv := List.mem_range.1 hv
      dsimp only
      omega
  have key := boot_l0 F (R := N1 g / 8) (l := [marks g.xThreads.toNat, [⟨8, 0⟩], blk g (b + 1) (C1 g), blk g (b + 1) 0]) (by omega) (by omega) (by omega) hfit (by simp) (fun M' G => G = ⟨M', g, List.replicate g.xThreads.toNat work0, [], false⟩ ∧ Mem M' (N1 g / 8) (appA [marks g.xThreads.toNat, [⟨8, 0⟩], blk g (b + 1) (C1 g), blk g (b + 1) 0] (wf g size b)) (c + 8000))
    (fun v7 v8 v9 v10 v11 => (m_gear_New F (⟨v7, v8, v9, v10, v11⟩ : S_nvm_Mem)).bind fun x13 => optc (x13.1) (some ((⟨v7, v8, v9, v10, v11⟩ : S_nvm_Mem), none, x13.2)) fun o14 => some ((⟨v7, v8, v9, v10, v11⟩ : S_nvm_Mem), (some (⟨(⟨v7, v8, v9, v10, v11⟩ : S_nvm_Mem), o14.xgeo, o14.xw, o14.xorder, o14.xdead⟩ : S_gear_Gear)), x13.2))
    (wf g size b) c (fun M1 hM1 => by
      have hgn := gear_New F hF hg hz1 hz2 (b + 1) hM1 hw'
      refine ⟨M1, _, ?_, rfl, ⟨hM1.len, hM1.wds, hM1.off, hM1.fuse, hM1.cnt0, by have := hM1.cnt; simp at this; omega⟩⟩
      rw [show (⟨M1.xl, M1.xoff, M1.xcount, M1.xfuse, M1.xkeep⟩ : S_nvm_Mem) = M1 from rfl, hgn, ob]
      rfl) hc F 0 M (by omega) (by simp; omega) (by simpa [appA] using h)
  obtain ⟨M', G, e, rfl, hM'⟩ := key
  refine ⟨M', _, _, ?_, hM', hw'⟩
  unfold m_boot_Boot m_nvm_Mem_Off
  rw [h.off, ob, cf, hwords, ob, read_eq F (by omega) hg hz1 hz2 h0 h1, ob, Bool.not_true, cf, jn_, steps_ok F (by omega) hg, ob]
  rw [h.off] at e
  exact e
end Go.V.P
