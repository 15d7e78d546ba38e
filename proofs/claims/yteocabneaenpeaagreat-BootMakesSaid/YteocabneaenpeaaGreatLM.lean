/- Plain laws, part M: what a Boot makes of the first state's words. No premises. -/
import Derived.Test.YteocabneaenpeaaGreatLL
set_option linter.unusedVariables false
set_option linter.unusedSimpArgs false
namespace Go.V.P
open Go.V Go.Proofs
variable {g : S_geo_Geo} {size : Int}

def D0 : S_opd_Desc := ⟨0, 0, ⟨0, 0, 0, 0⟩, ⟨0, 0, 0⟩, []⟩
def Z0 : List Int := tab 1208 (fun _ => 0)
theorem cut_desc (hg : GG g) (size b : Int) {v : Nat} (hv : v < g.xThreads.toNat) : cut (P1 g size b) ((16 + 1208 * v : Nat) : Int) (((16 + 1208 * v : Nat) : Int) + 1208) = Z0 := by
  have c8 := C8 hg
  have hN : N1 g = C1 g + 8 := rfl
  have hA : 16 + 1208 * v + 1208 ≤ A1 g := by unfold A1; omega
  have hA2 : A1 g ≤ B1 g := by unfold B1; omega
  have hBC : B1 g ≤ C1 g := by unfold C1; omega
  unfold P1 Z0
  rw [show (((16 + 1208 * v : Nat) : Int) + 1208) = ((16 + 1208 * v + 1208 : Nat) : Int) by omega, cut_tab (by omega) (by omega), show 16 + 1208 * v + 1208 - (16 + 1208 * v) = 1208 by omega]
  exact tab_congr fun j hj => by unfold wf; rw [if_neg (by omega), if_pos (by omega)]
theorem opd_Get (F : Nat) (hg : GG g) : m_opd_Get F g Z0 = some (D0, true) := by
  have t1 := hg.t1
  have hl : Z0.length = 1208 := tab_length _ _
  unfold m_opd_Get
  rw [show m_geo_Desc F g 0 = some (((16 + 1208 * 0 : Nat) : Int), 1208) from geo_Desc F hg (v := 0) (by omega), ob, hl, show (((1208 : Int) == 0) || (((1208 : Nat) : Int) != 1208)) = false from rfl, cf, gd_ix (by decide) (by rw [hl]; decide)]
  have e0 : nth Z0 0 = 0 := nth_tab' (v := 0) (by decide)
  have e7 : nth Z0 7 = 0 := nth_tab' (v := 7) (by decide)
  rw [e0, show ((0 : Int) == 0) = true from rfl, ct, jn_, gd_ix (by decide) (by rw [hl]; decide), e7]
  rfl
theorem bu_max2 (a b : Int) : bu Tryz.prog .max #[42, 42] 42 #[false, false] [.int .u64 a, .int .u64 b] = some (.int .u64 (mx a b)) := rfl
theorem wrap_boot {b : Int} (h0 : 0 ≤ b) (h1 : b < 4611686018427387904) : IntKind.u64.wrap (b + 1) = b + 1 := by rw [IntKind.wrap_u64]; omega
theorem read_eq (F : Nat) (hF : 200 ≤ F) (hg : GG g) (hz1 : 1 ≤ size) (hz2 : size ≤ 4096) {b : Int} (h0 : 0 ≤ b) (h1 : b < 4611686018427387904) : m_boot_read F (P1 g size b) = some (⟨st0 g size, tab g.xThreads.toNat (fun _ => D0), b + 1, true⟩, true) := by
  have t1 := hg.t1; have t2 := hg.t2; have c8 := C8 hg
  have hN : N1 g = C1 g + 8 := rfl
  have hl : (P1 g size b).length = N1 g := tab_length _ _
  unfold m_boot_read
  rw [super_Find F (by omega) hg, ob, show (!true && !true) = false from rfl, cf, jn_, hl, gd_inI (by omega) (by omega), gd_pos (by omega), show ((N1 g : Nat) : Int) - 8 = ((C1 g : Nat) : Int) by omega, cut_last hg, super_Get F (by omega) hg, ob, show (true && true) = true from rfl, ct]
  dsimp only
  rw [bu_max2, ob, int_u64, ob, show mx b b = b by unfold mx; split <;> rfl, decide_eq_false (show ¬ ((4611686018427387904 : Int) ≤ b) by omega), cf, jn_]
  have key : ∀ k, m_boot_read_l0 F (⟨g, b⟩, true, true) k F (P1 g size b) 0 0 [] = k (P1 g size b) 0 (tab g.xThreads.toNat (fun _ => D0)) := by
    intro k
    refine loop_st (fun n v l => m_boot_read_l0 F (⟨g, b⟩, true, true) k n (P1 g size b) 0 v l) g.xThreads.toNat (fun v => tab v (fun _ => D0)) _ (fun n v hv => ?_) (fun n => ?_) F 0 (by omega) (by omega)
    · conv => lhs; unfold m_boot_read_l0
      have hA : 16 + 1208 * v + 1208 ≤ A1 g := by unfold A1; omega
      have hA2 : A1 g ≤ B1 g := by unfold B1; omega
      have hBC : B1 g ≤ C1 g := by unfold C1; omega
      rw [decide_eq_true (show (v : Int) < g.xThreads by omega), ct, geo_Desc F hg hv, ob, jn_, gd_inI (by omega) (by omega), hl, gd_pos (by omega), cut_desc hg size b hv, opd_Get F hg, ob]
      dsimp only
      rw [Bool.not_true, cf, jn_, show (D0.xStatus == 2) = false from rfl, cf]
      dsimp only
      rw [gd_pos (by rw [tab_length]; simp only [List.length_cons, List.length_nil]; omega), gd_inI (by omega) (by omega), cs, tab_succ]
    · conv => lhs; unfold m_boot_read_l0
      rw [decide_eq_false (show ¬ (((g.xThreads.toNat : Nat) : Int) < g.xThreads) by omega), cf]
  rw [key, image_Get F hF hg hz1 hz2, ob, wrap_boot h0 h1]
  rfl
theorem sound_eq (F : Nat) (hF : 200 ≤ F) (hg : GG g) (hz1 : 1 ≤ size) (hz2 : size ≤ 4096) {b : Int} (h0 : 0 ≤ b) (h1 : b < 4611686018427387904) : m_boot_Sound F (P1 g size b) = some true := by
  unfold m_boot_Sound
  rw [read_eq F hF hg hz1 hz2 h0 h1, ob]
theorem then_D0 (F : Nat) : m_boot_then F D0 = some D0 := rfl
theorem after_eq (F : Nat) (hF : 200 ≤ F) (hg : GG g) (hz1 : 1 ≤ size) (hz2 : size ≤ 4096) {b : Int} (h0 : 0 ≤ b) (h1 : b < 4611686018427387904) : m_boot_After F (P1 g size b) = some (st0 g size, tab g.xThreads.toNat (fun _ => D0), b + 1, true) := by
  have t1 := hg.t1; have t2 := hg.t2
  unfold m_boot_After
  rw [read_eq F hF hg hz1 hz2 h0 h1, ob, Bool.not_true, cf, jn_]
  refine loop_st (fun n v l => m_boot_After_l0 F _ _ n v l) g.xThreads.toNat (fun v => tab v (fun _ => D0)) _ (fun n v hv => ?_) (fun n => ?_) F 0 (by omega) (by omega)
  · conv => lhs; unfold m_boot_After_l0
    dsimp only
    rw [tab_length, dlt hv, ct, gd_ix (by omega) (by rw [tab_length]; omega), nth_tab' hv, then_D0, ob, gd_pos (by rw [tab_length]; simp only [List.length_cons, List.length_nil]; omega), gd_inI (by omega) (by omega), cs, tab_succ]
  · conv => lhs; unfold m_boot_After_l0
    dsimp only
    rw [tab_length, dge, cf, jn_]
end Go.V.P
