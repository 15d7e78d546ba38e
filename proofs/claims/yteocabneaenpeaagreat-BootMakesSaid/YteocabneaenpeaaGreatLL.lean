/- Plain laws, part L: the first state is read out of its words. No premises. -/
import Derived.Test.YteocabneaenpeaaGreatLK
set_option linter.unusedVariables false
set_option linter.unusedSimpArgs false
namespace Go.V.P
open Go.V Go.Proofs
variable {g : S_geo_Geo} {size : Int}

def mx (a b : Int) : Int := if b > a then b else a
theorem bu_max (a b c : Int) : bu Tryz.prog .max #[42, 42, 42] 42 #[false, false, false] [.int .u64 a, .int .u64 b, .int .u64 c] = some (.int .u64 (mx (mx a b) c)) := rfl
theorem int_u64 (a : Int) : int? .u64 (.int .u64 a) = some a := rfl
theorem sup_nth (s : S_super_Super) : nth (sup s) 1 = IntKind.u64.wrap s.xGeo.xThreads ∧ nth (sup s) 2 = IntKind.u64.wrap s.xGeo.xSlots ∧ nth (sup s) 3 = IntKind.u64.wrap s.xGeo.xThings ∧ nth (sup s) 4 = s.xBoot := ⟨rfl, rfl, rfl, rfl⟩
theorem super_Get (F : Nat) (hF : 20 ≤ F) (hg : GG g) (b : Int) : m_super_Get F (sup ⟨g, b⟩) = some (⟨g, b⟩, true) := by
  have t1 := hg.t1; have t2 := hg.t2; have s2 := hg.s2; have s1 := hg.s1; have h1 := hg.h1; have h2 := hg.h2
  obtain ⟨n1, n2, n3, n4⟩ := sup_nth ⟨g, b⟩
  dsimp only at n1 n2 n3 n4
  rw [wrapu_small (by omega) (by omega)] at n1 n2 n3
  have hl : ((sup ⟨g, b⟩).length : Nat) = 8 := sup_length _
  have hb : (((8 : Nat) : Int) != 8) = false := rfl
  have e : (⟨IntKind.i64.wrap (nth (sup ⟨g, b⟩) 1), IntKind.i64.wrap (nth (sup ⟨g, b⟩) 2), IntKind.i64.wrap (nth (sup ⟨g, b⟩) 3)⟩ : S_geo_Geo) = g := by
    rw [n1, n2, n3, wrap_small (by omega) (by omega), wrap_small (by omega) (by omega), wrap_small (by omega) (by omega)]
  unfold m_super_Get
  rw [gd_pos (fun _ => ⟨by decide, by rw [hl]; decide⟩), gd_pos (fun _ => ⟨by decide, by rw [hl]; decide⟩), gd_pos (fun _ => ⟨by decide, by rw [hl]; decide⟩), e, hl, hb, fff, lzt, bu_max, ob, int_u64, ob, n1, n2, n3]
  have hm : decide ((4096 : Int) < mx (mx g.xThreads g.xSlots) g.xThings) = false := by
    apply decide_eq_false
    unfold mx
    split <;> split <;> omega
  rw [hm, show (false || false) = false from rfl, cf, gd_ix (by decide) (by rw [hl]; decide), gd_ix (by decide) (by rw [hl]; decide), gd_ix (by decide) (by rw [hl]; decide), gd_ix (by decide) (by rw [hl]; decide), n4, super_Put F (by omega) _ (geo_Good F hg), ob, eq_words F _ (by rw [hl]; omega) (by rw [hl]; decide), ob, Bool.not_true, cf]
theorem cut_tab {n a b : Nat} {f : Nat → Int} (h1 : a ≤ b) (h2 : b ≤ n) : cut (tab n f) (a : Int) (b : Int) = tab (b - a) (fun i => f (a + i)) := by
  unfold cut
  rw [Int.toNat_natCast, Int.toNat_natCast]
  apply List.ext_getElem?
  intro i
  by_cases hi : i < b - a
  · rw [List.getElem?_take_of_lt hi, List.getElem?_drop, tab_get (by omega), tab_get hi]
  · rw [List.getElem?_eq_none (by rw [List.length_take, List.length_drop, tab_length]; omega), List.getElem?_eq_none (by rw [tab_length]; omega)]
theorem sup_tab (s : S_super_Super) : sup s = tab 8 (fun i => (sup s).getD i 0) := list_tab (sup s) 0
theorem cut_first (hg : GG g) (size b : Int) : cut (P1 g size b) 0 8 = sup ⟨g, b⟩ := by
  have c8 := C8 hg
  have hN : N1 g = C1 g + 8 := rfl
  unfold P1
  rw [show (0 : Int) = ((0 : Nat) : Int) from rfl, show (8 : Int) = ((8 : Nat) : Int) from rfl, cut_tab (by omega) (by omega), sup_tab]
  exact tab_congr fun j hj => by unfold wf; rw [if_pos (by omega), Nat.zero_add]
theorem cut_last (hg : GG g) (size b : Int) : cut (P1 g size b) ((C1 g : Nat) : Int) ((N1 g : Nat) : Int) = sup ⟨g, b⟩ := by
  have c8 := C8 hg
  have hN : N1 g = C1 g + 8 := rfl
  have hA : A1 g ≤ B1 g := by unfold B1; omega
  have hBC : B1 g ≤ C1 g := by unfold C1; omega
  unfold P1
  rw [cut_tab (by omega) (by omega), sup_tab, show N1 g - C1 g = 8 by omega]
  exact tab_congr fun j hj => by unfold wf; rw [if_neg (by omega), if_neg (by omega), if_neg (by omega), if_neg (by omega), show C1 g + j - C1 g = j by omega]
theorem super_Find (F : Nat) (hF : 20 ≤ F) (hg : GG g) (size b : Int) : m_super_Find F (P1 g size b) = some (⟨g, b⟩, true, true) := by
  have c8 := C8 hg
  have hN : N1 g = C1 g + 8 := rfl
  have hl : (P1 g size b).length = N1 g := tab_length _ _
  unfold m_super_Find
  rw [hl, decide_eq_false (show ¬ (((N1 g : Nat) : Int) < 8) by omega), show (Int.tmod ((N1 g : Nat) : Int) 8 != 0) = false by rw [tmod8 (by omega), bne_eq_false_iff_eq]; omega, show (false || false) = false from rfl, cf, gd_pos (by omega), cut_first hg, super_Get F hF hg, ob, ttt, lzt, geo_Rows F hg, ob, gd_inI (by omega) (by omega), gd_pos (by omega)]
  rw [show ((N1 g : Nat) : Int) - 8 = ((C1 g : Nat) : Int) by omega, cut_last hg, super_Get F hF hg, ob, ttt, lzt, geo_Rows F hg, ob, tdiv8 (by omega), wrap_small (by omega) (by omega)]
  have e : (((C1 g / 8 + 1 : Nat) : Int) == ((N1 g : Nat) : Int) / 8) = true := by rw [beq_iff_eq]; omega
  rw [e, show (true && true) = true from rfl, ct]
theorem get_l1 (F : Nat) (hF : 200 ≤ F) (hg : GG g) (size b : Int) (k : List S_state_Slot → Option (S_state_State × Int)) : m_image_Get_l1 F (P1 g size b) (⟨g, b⟩, true, true) k F 0 [] = k (tab g.xSlots.toNat (sf g.xThreads.toNat)) := by
  have t1 := hg.t1; have t2 := hg.t2; have s2 := hg.s2; have s1 := hg.s1; have c8 := C8 hg
  have hN : N1 g = C1 g + 8 := rfl
  have hBC : B1 g ≤ C1 g := by unfold C1; omega
  have hA8 : 16 ≤ A1 g := by unfold A1; omega
  have hl : (P1 g size b).length = N1 g := tab_length _ _
  refine loop_st (fun n v l => m_image_Get_l1 F (P1 g size b) (⟨g, b⟩, true, true) k n v l) g.xSlots.toNat (fun v => tab v (sf g.xThreads.toNat)) _ (fun n v hv => ?_) (fun n => ?_) F 0 (by omega) (by omega)
  · have hlt : A1 g + 2 * v + 1 < B1 g := by unfold B1; omega
    have hu := sf_up g.xThreads.toNat v
    conv => lhs; unfold m_image_Get_l1
    rw [decide_eq_true (show (v : Int) < g.xSlots by omega), ct, jn_, geo_Slot F hg hv, ob, gd_ix (by omega) (by rw [hl]; omega)]
    have e1 : nth (P1 g size b) ((A1 g + 2 * v : Nat) : Int) = capW (sf g.xThreads.toNat v).xCap := by
      unfold P1
      rw [nth_tab' (by omega)]
      unfold wf
      rw [if_neg (by omega), if_neg (by omega), if_pos (by omega), if_pos (by omega), show (A1 g + 2 * v - A1 g) / 2 = v by omega]
    have e2 : nth (P1 g size b) (((A1 g + 2 * v : Nat) : Int) + 1) = (sf g.xThreads.toNat v).xUp + 1 := by
      unfold P1
      rw [cs, nth_tab' (by omega)]
      unfold wf
      rw [if_neg (by omega), if_neg (by omega), if_pos (by omega), if_neg (by omega), show (A1 g + 2 * v + 1 - A1 g) / 2 = v by omega]
    rw [e1, capG_ok F (by omega), ob, gd_pos (fun _ => ⟨by omega, by omega⟩), gd_pos (fun _ => ⟨by omega, by rw [hl]; omega⟩), e2, decide_eq_false (show ¬ ((96 : Int) < (sf g.xThreads.toNat v).xUp + 1) by omega), Bool.not_true, show (false || false) = false from rfl, cf, gd_inI (by omega) (by omega), gd_ix (by omega) (by rw [hl]; omega), wrap_small (by omega) (by omega), gd_inI (by omega) (by omega), gd_pos (by rw [tab_length]; simp only [List.length_cons, List.length_nil]; omega)]
    dsimp only
    rw [gd_inI (by omega) (by omega), cs, tab_succ, Int.add_sub_cancel]
  · conv => lhs; unfold m_image_Get_l1
    rw [decide_eq_false (show ¬ (((g.xSlots.toNat : Nat) : Int) < g.xSlots) by omega), cf]
theorem get_l0 (F : Nat) (hF : 200 ≤ F) (hg : GG g) (hz1 : 1 ≤ size) (hz2 : size ≤ 4096) (b : Int) (k : List S_thing_Thing → Option (S_state_State × Int)) : m_image_Get_l0 F (P1 g size b) (⟨g, b⟩, true, true) k F 0 [] = k (tab g.xThings.toNat (tf g.xThreads.toNat size)) := by
  have t1 := hg.t1; have t2 := hg.t2; have h1 := hg.h1; have h2 := hg.h2; have c8 := C8 hg
  have hN : N1 g = C1 g + 8 := rfl
  have hA : A1 g ≤ B1 g := by unfold B1; omega
  have hA8 : 16 ≤ A1 g := by unfold A1; omega
  have hl : (P1 g size b).length = N1 g := tab_length _ _
  refine loop_st (fun n v l => m_image_Get_l0 F (P1 g size b) (⟨g, b⟩, true, true) k n v l) g.xThings.toNat (fun v => tab v (tf g.xThreads.toNat size)) _ (fun n v hv => ?_) (fun n => ?_) F 0 (by omega) (by omega)
  · have hlt : B1 g + 8 * v + 8 ≤ C1 g := by unfold C1; omega
    conv => lhs; unfold m_image_Get_l0
    rw [decide_eq_true (show (v : Int) < g.xThings by omega), ct, geo_Thing F hg hv, ob, gd_inI (by omega) (by omega), hl, gd_pos (by omega)]
    have e1 : cut (P1 g size b) ((B1 g + 8 * v : Nat) : Int) (((B1 g + 8 * v : Nat) : Int) + 8) = thW (tf g.xThreads.toNat size v) := by
      unfold P1
      rw [show (((B1 g + 8 * v : Nat) : Int) + 8) = ((B1 g + 8 * v + 8 : Nat) : Int) by omega, cut_tab (by omega) (by omega), show B1 g + 8 * v + 8 - (B1 g + 8 * v) = 8 by omega, list_tab (thW (tf g.xThreads.toNat size v)) 0, thW_length]
      refine tab_congr fun j hj => ?_
      unfold wf
      rw [if_neg (by omega), if_neg (by omega), if_neg (by omega), if_pos (by omega), show (B1 g + 8 * v + j - B1 g) / 8 = v by omega, show (B1 g + 8 * v + j - B1 g) % 8 = j by omega]
    rw [e1, thG_ok F (by omega) (by omega) hz1 hz2, ob, Bool.not_true, cf, gd_pos (by rw [tab_length]; simp only [List.length_cons, List.length_nil]; omega), gd_inI (by omega) (by omega), cs, tab_succ]
  · conv => lhs; unfold m_image_Get_l0
    rw [decide_eq_false (show ¬ (((g.xThings.toNat : Nat) : Int) < g.xThings) by omega), cf]
theorem image_Get (F : Nat) (hF : 200 ≤ F) (hg : GG g) (hz1 : 1 ≤ size) (hz2 : size ≤ 4096) (b : Int) : m_image_Get F (P1 g size b) = some (st0 g size, 0) := by
  unfold m_image_Get
  rw [super_Find F (by omega) hg, ob, show (!true && !true) = false from rfl, cf, jn_, get_l1 F hF hg, jn_, get_l0 F hF hg hz1 hz2]
  have := state_Good F (by omega) hg hz1 hz2
  unfold st0 at this
  rw [this, ob, Bool.not_true, cf]
  rfl
end Go.V.P
