/- Plain laws, part C: spinning words, the superblock's words. No premises. -/
import Derived.Test.YteocabneaenpeaaGreatLB
import Derived.Laws.BitsAllLaws
import Derived.Laws.BitsLemmas
set_option linter.unusedVariables false
set_option linter.unusedSimpArgs false
namespace Go.V.P
open Go.V Go.Proofs

theorem gd_inI {α : Type} {n : Int} {x : Option α} (h1 : -9223372036854775808 ≤ n) (h2 : n ≤ 9223372036854775807) : gd (inI n) x = x := gd_pos ⟨h1, h2⟩
theorem gd_ix {α β : Type} {l : List β} {i : Int} {x : Option α} (h1 : 0 ≤ i) (h2 : i < (l.length : Nat)) : gd (ix l i) x = x := gd_pos ⟨h1, h2⟩
theorem nth_nat {α : Type} [Inhabited α] (l : List α) {i : Nat} (h : i < l.length) : nth l (i : Int) = l[i] := by simp [nth, List.getD_eq_getElem?_getD, h]

def rst (v : Int) : Int := Int.tmod (Int.tmod v 1000003 + 1000003) 1000003
theorem rst_bound (v : Int) : 0 ≤ rst v ∧ rst v < 1000003 := by
  have h1 : -1000003 < Int.tmod v 1000003 := by
    have := Int.lt_tmod_of_pos v (show (0 : Int) < 1000003 by decide); omega
  unfold rst
  refine ⟨Int.tmod_nonneg _ (by omega), Int.tmod_lt_of_pos _ (by decide)⟩
theorem tmod_m (v : Int) : -1000003 < Int.tmod v 1000003 ∧ Int.tmod v 1000003 < 1000003 := by
  have h1 := Int.lt_tmod_of_pos v (show (0 : Int) < 1000003 by decide)
  have h2 := Int.tmod_lt_of_pos v (show (0 : Int) < 1000003 by decide)
  exact ⟨by omega, h2⟩
theorem rest_rst (F : Nat) (v : Int) : m_gauss_rest F v = some (rst v) := by
  have := tmod_m v
  unfold m_gauss_rest
  rw [gd_inI (by omega) (by omega)]
  rfl
noncomputable def cz (z : Int × Int) : Value := .complex .f64 (fl z.1) (fl z.2)
def small (z : Int × Int) : Prop := -1000003 ≤ z.1 ∧ z.1 ≤ 1000003 ∧ -1000003 ≤ z.2 ∧ z.2 ≤ 1000003
theorem turn_l0 (F G : Nat) (k : Int → Int → Option Value) (a b : Int) (h1 : -1000003 ≤ b) (h2 : b ≤ 1000003) : m_gauss_Turn_l0 F 1 k (G + 2) a b 0 = k (-b) a := by
  unfold m_gauss_Turn_l0
  rw [show (decide ((0 : Int) < Int.tmod (Int.tmod 1 4 + 4) 4)) = true from by decide, cond_true, gd_pos (by omega), gd_inI (by decide) (by decide)]
  unfold m_gauss_Turn_l0
  rw [show (decide ((0 : Int) + 1 < Int.tmod (Int.tmod 1 4 + 4) 4)) = false from by decide, cond_false]
theorem parts_cz (F : Nat) {z : Int × Int} (h : small z) : m_gauss_Parts F (cz z) = some (z.1, z.2, true) := by
  obtain ⟨h1, h2, h3, h4⟩ := h
  exact parts_fl _ (by omega) (by omega) (by omega) (by omega)
theorem of_cz (F : Nat) {a b : Int} (h : small (a, b)) : m_gauss_Of F a b = some (cz (a, b), true) := by
  obtain ⟨h1, h2, h3, h4⟩ := h
  simp only at h1 h2 h3 h4
  exact of_fl _ (by omega) (by omega) (by omega) (by omega)
theorem turn_one (F : Nat) (hF : 2 ≤ F) {z : Int × Int} (h : small z) : m_gauss_Turn F (cz z) 1 = some (cz (-z.2, z.1)) := by
  have hs : small (-z.2, z.1) := by unfold small at h ⊢; simp only; omega
  unfold m_gauss_Turn
  rw [parts_cz F h]
  simp only [Option.bind_some, Bool.not_true, cond_false, jn]
  rw [gd_inI (by decide) (by decide)]
  obtain ⟨G, hG⟩ : ∃ G, F = G + 2 := ⟨F - 2, by omega⟩
  have := turn_l0 F G (fun v3 v4 => (m_gauss_Of F v3 v4).bind fun x6 => some x6.1) z.1 z.2 h.2.2.1 h.2.2.2
  rw [← hG] at this
  refine this.trans ?_
  rw [of_cz F hs, Option.bind_some]
noncomputable def lo (w : Int) : Int := IntKind.i64.wrap (IntKind.u16.wrap w)
theorem lo_bound (w : Int) : 0 ≤ lo w ∧ lo w < 65536 := by
  unfold lo
  rw [IntKind.wrap_u16, IntKind.wrap_i64]
  omega
noncomputable def spn (z : Int × Int) (w : Int) : Int × Int := (rst (-z.2 + (lo w - lo (ishr .u64 w 32))), rst (z.1 + (lo (ishr .u64 w 16) - lo (ishr .u64 w 48))))
theorem spn_small (z : Int × Int) (w : Int) : small (spn z w) := by
  have h1 := rst_bound (-z.2 + (lo w - lo (ishr .u64 w 32)))
  have h2 := rst_bound (z.1 + (lo (ishr .u64 w 16) - lo (ishr .u64 w 48)))
  unfold small spn
  simp only
  omega
theorem spin_loop (F : Nat) (hF : 2 ≤ F) (l : List Int) (k : Value → Option Value) (hl : l.length < 1000000) : ∀ (n v : Nat) (z : Int × Int), v ≤ l.length → l.length - v < n → small z → m_gauss_Spin_l0 F l k n (cz z) v = k (cz ((l.drop v).foldl spn z)) := by
  intro n
  induction n with
  | zero => intro v z h1 h2; omega
  | succ n ih =>
    intro v z h1 h2 hz
    unfold m_gauss_Spin_l0
    by_cases hv : v < l.length
    · have e1 : decide ((v : Int) < ((l.length : Nat) : Int)) = true := by simpa using hv
      have b1 := lo_bound (nth l v)
      have b2 := lo_bound (ishr .u64 (nth l v) 32)
      have b3 := lo_bound (ishr .u64 (nth l v) 16)
      have b4 := lo_bound (ishr .u64 (nth l v) 48)
      have hz' := hz
      obtain ⟨z1, z2, z3, z4⟩ := hz
      simp only [← lo.eq_1]
      rw [e1, cond_true, gd_ix (by omega) (by omega), turn_one F hF hz']
      simp only [Option.bind_some]
      rw [parts_cz F (show small (-z.2, z.1) by unfold small; simp only; omega)]
      simp only [Option.bind_some]
      rw [gd_inI (by omega) (by omega), gd_inI (by omega) (by omega), gd_inI (by omega) (by omega), gd_inI (by omega) (by omega)]
      simp only [rest_rst, Option.bind_some]
      have c1 := rst_bound (-z.2 + (lo (nth l v) - lo (ishr .u64 (nth l v) 32)))
      have c2 := rst_bound (z.1 + (lo (ishr .u64 (nth l v) 16) - lo (ishr .u64 (nth l v) 48)))
      have hsm : small (rst (-z.2 + (lo (nth l v) - lo (ishr .u64 (nth l v) 32))), rst (z.1 + (lo (ishr .u64 (nth l v) 16) - lo (ishr .u64 (nth l v) 48)))) := by unfold small; simp only; omega
      obtain ⟨c, hc⟩ : ∃ c, c = cz (rst (-z.2 + (lo (nth l v) - lo (ishr .u64 (nth l v) 32))), rst (z.1 + (lo (ishr .u64 (nth l v) 16) - lo (ishr .u64 (nth l v) 48)))) := ⟨_, rfl⟩
      rw [of_cz F hsm, ← hc, Option.bind_some]
      rw [gd_inI (by omega) (by omega), hc]
      have h3 := ih (v + 1) (spn z (nth l v)) (by omega) (by omega) (spn_small _ _)
      have hs : (rst (-z.2 + (lo (nth l v) - lo (ishr .u64 (nth l v) 32))), rst (z.1 + (lo (ishr .u64 (nth l v) 16) - lo (ishr .u64 (nth l v) 48)))) = spn z (nth l v) := rfl
      rw [hs]
      rw [show ((v : Int) + 1) = ((v + 1 : Nat) : Int) by omega]
      rw [h3]
      rw [List.drop_eq_getElem_cons hv, List.foldl_cons, nth_nat l hv]
    · have e1 : decide ((v : Int) < ((l.length : Nat) : Int)) = false := by simpa using hv
      rw [e1, cond_false, List.drop_of_length_le (by omega)]
      rfl
theorem spin_eq (F : Nat) (l : List Int) (hF : l.length + 2 ≤ F) (hl : l.length < 1000000) : m_gauss_Spin F l = some (cz (l.foldl spn (0, 0))) := by
  unfold m_gauss_Spin
  simp only [jn]
  have : (.complex .f64 0 0 : Value) = cz (0, 0) := by unfold cz; simp only [fl_zero]
  rw [this]
  exact (spin_loop F (by omega) l _ hl F 0 (0, 0) (by omega) (by omega) (by unfold small; decide))
theorem foldl_small (l : List Int) (z : Int × Int) (hz : small z ∧ 0 ≤ z.1 ∧ 0 ≤ z.2) : small (l.foldl spn z) ∧ 0 ≤ (l.foldl spn z).1 ∧ 0 ≤ (l.foldl spn z).2 := by
  induction l generalizing z with
  | nil => exact hz
  | cons w l ih => exact ih _ ⟨spn_small _ _, (rst_bound _).1, (rst_bound _).1⟩
noncomputable def word2 (z : Int × Int) : Int := ior .u64 (ishl .u64 (IntKind.u64.wrap z.2) 32) (IntKind.u64.wrap z.1)
theorem word_eq (F : Nat) {z : Int × Int} (h : small z) (h1 : 0 ≤ z.1) (h2 : 0 ≤ z.2) : m_gauss_Word F (cz z) = some (word2 z, true) := by
  obtain ⟨z1, z2, z3, z4⟩ := h
  unfold m_gauss_Word
  rw [parts_cz F ⟨z1, z2, z3, z4⟩]
  simp only [Option.bind_some, Bool.not_true, Bool.false_or]
  have e1 : decide (z.1 < 0) = false := by simp; omega
  have e2 : decide ((4294967295 : Int) < z.1) = false := by simp; omega
  have e3 : decide (z.2 < 0) = false := by simp; omega
  have e4 : decide ((4294967295 : Int) < z.2) = false := by simp; omega
  rw [e1, e2, e3, e4]
  rfl
def sup7 (s : S_super_Super) : List Int := [8243106252149764145, IntKind.u64.wrap s.xGeo.xThreads, IntKind.u64.wrap s.xGeo.xSlots, IntKind.u64.wrap s.xGeo.xThings, s.xBoot, 0, 0]
noncomputable def sup (s : S_super_Super) : List Int := sup7 s ++ [word2 ((sup7 s).foldl spn (0, 0))]
theorem sup_length (s : S_super_Super) : (sup s).length = 8 := rfl
theorem super_Put (F : Nat) (hF : 9 ≤ F) (s : S_super_Super) (hg : m_geo_Good F s.xGeo = some true) : m_super_Put F s = some (sup s) := by
  unfold m_super_Put
  rw [hg]
  simp only [Option.bind_some, Bool.not_true, cond_false]
  have h7 : (sup7 s).length = 7 := rfl
  have h0 := foldl_small (sup7 s) (0, 0) ⟨by unfold small; decide, by decide, by decide⟩
  have e1 := spin_eq F (sup7 s) (by rw [h7]; exact hF) (by rw [h7]; decide)
  unfold sup7 at e1 h0
  rw [e1]
  simp only [Option.bind_some]
  rw [word_eq F h0.1 h0.2.1 h0.2.2]
  simp only [Option.bind_some]
  rw [gd_pos (by simp)]
  rfl
end Go.V.P
