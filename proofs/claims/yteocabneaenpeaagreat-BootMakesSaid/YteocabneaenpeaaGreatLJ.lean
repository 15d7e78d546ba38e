/- Plain laws, part J: places; alike to itself; a memory's words. No premises. -/
import Derived.Test.YteocabneaenpeaaGreatLI
set_option linter.unusedVariables false
set_option linter.unusedSimpArgs false
namespace Go.V.P
open Go.V Go.Proofs
variable {g : S_geo_Geo} {size : Int}

theorem bne_self (n : Nat) : (((n : Nat) : Int) != ((n : Nat) : Int)) = false := by simp
theorem eq_words (F : Nat) (l : List Int) (hF : l.length < F) (hl : l.length < 1000000) : m_slices_Equal_uint64 F l l = some true := by
  unfold m_slices_Equal_uint64
  rw [bne_self, cf, jn_]
  refine loop_all (fun n v => m_slices_Equal_uint64_l0 F l l (fun _ => some true) n v) l.length _ (fun n v hv => ?_) (fun n => ?_) F 0 (by omega) (by omega)
  · conv => lhs; unfold m_slices_Equal_uint64_l0
    rw [dlt hv, ct, gd_ix (by omega) (by omega), gd_ix (by omega) (by omega), show (nth l (v : Int) != nth l (v : Int)) = false by simp, cf, gd_inI (by omega) (by omega), cs]
  · conv => lhs; unfold m_slices_Equal_uint64_l0
    rw [dge, cf]
theorem eq_slots (F : Nat) (l : List S_state_Slot) (hF : l.length < F) (hl : l.length < 1000000) : m_slices_Equal_state_Slot F l l = some true := by
  unfold m_slices_Equal_state_Slot
  rw [bne_self, cf, jn_]
  refine loop_all (fun n v => m_slices_Equal_state_Slot_l0 F l l (fun _ => some true) n v) l.length _ (fun n v hv => ?_) (fun n => ?_) F 0 (by omega) (by omega)
  · conv => lhs; unfold m_slices_Equal_state_Slot_l0
    rw [dlt hv, ct, gd_ix (by omega) (by omega), gd_ix (by omega) (by omega), cs]
    simp only [beq_self_eq_true, Bool.and_self, Bool.not_true]
    rw [cf, gd_inI (by omega) (by omega)]
  · conv => lhs; unfold m_slices_Equal_state_Slot_l0
    rw [dge, cf]
theorem eq_things (F : Nat) (l : List S_thing_Thing) (hF : l.length < F) (hl : l.length < 1000000) : m_slices_Equal_thing_Thing F l l = some true := by
  unfold m_slices_Equal_thing_Thing
  rw [bne_self, cf, jn_]
  refine loop_all (fun n v => m_slices_Equal_thing_Thing_l0 F l l (fun _ => some true) n v) l.length _ (fun n v hv => ?_) (fun n => ?_) F 0 (by omega) (by omega)
  · conv => lhs; unfold m_slices_Equal_thing_Thing_l0
    rw [dlt hv, ct, gd_ix (by omega) (by omega), gd_ix (by omega) (by omega), cs]
    simp only [beq_self_eq_true, Bool.and_self, Bool.not_true]
    rw [cf, gd_inI (by omega) (by omega)]
  · conv => lhs; unfold m_slices_Equal_thing_Thing_l0
    rw [dge, cf]
theorem same_self (F : Nat) (s : S_state_State) (h1 : s.xSlots.length < F) (h2 : s.xThings.length < F) (h3 : F < 1000000) : m_state_Same F s s = some true := by
  unfold m_state_Same
  simp only [beq_self_eq_true, Bool.and_self]
  rw [lzt, eq_slots F _ h1 (by omega), ob, show (true && true) = true from rfl, ttt, lzt, eq_things F _ h2 (by omega), ob]
  rfl
theorem tg1 (G : Nat) (n : Nat) (h1 : 1 ≤ n) (h : n ≤ 4096) : m_thing_Get (G + 10) (roomW (n : Int)) = some (tRoom (n : Int), true) := by
  unfold m_thing_Get
  rw [show ((((roomW (n : Int)).length : Nat) : Int) != 8) = false from rfl, cf, gd_ix (by decide) (by show (0 : Int) < 8; decide), byt, ob, show nth (roomW (n : Int)) 0 = 1 from rfl, byt_get, ob, gd_ix (by decide) (by show (1 : Int) < 8; decide), pairs_eq, ob, show nth (roomW (n : Int)) 1 = (n : Int) from rfl, prs_get _ n h, ob]
  rw [gd_ix (by decide) (by decide), gd_ix (by decide) (by decide), gd_ix (by decide) (by decide), gd_ix (by decide) (by decide), gd_ix (by decide) (by decide), gd_ix (by decide) (by show (0 : Int) < 3; decide), gd_ix (by decide) (by show (1 : Int) < 3; decide), gd_ix (by decide) (by show (2 : Int) < 3; decide), gd_ix (by decide) (by show (2 : Int) < 8; decide), gd_pos (by show (0 : Int) ≤ 3 ∧ (3 : Int) ≤ 8 ∧ (8 : Int) ≤ 8; decide), gd_pos (by show 4 ≤ 5; decide)]
  have e : (⟨IntKind.i64.wrap (nth [1, 0, 0, 0, 0] 0), IntKind.i64.wrap (nth [1, 0, 0, 0, 0] 1), IntKind.i64.wrap (nth [1, 0, 0, 0, 0] 2), IntKind.i64.wrap (nth [(n : Int), 0, 0] 0), IntKind.i64.wrap (nth [(n : Int), 0, 0] 1), IntKind.i64.wrap (nth [1, 0, 0, 0, 0] 4), IntKind.i64.wrap (nth [(n : Int), 0, 0] 2), nth [1, 0, 0, 0, 0] 3 == (1 : Int), nth (roomW (n : Int)) 2, ⟨nth (cut (roomW (n : Int)) 3 (((roomW (n : Int)).length : Nat) : Int)) 0, nth (cut (roomW (n : Int)) 3 (((roomW (n : Int)).length : Nat) : Int)) 1, nth (cut (roomW (n : Int)) 3 (((roomW (n : Int)).length : Nat) : Int)) 2, nth (cut (roomW (n : Int)) 3 (((roomW (n : Int)).length : Nat) : Int)) 3⟩⟩ : S_thing_Thing) = tRoom (n : Int) := by
    have : IntKind.i64.wrap (nth [(n : Int), 0, 0] 0) = (n : Int) := wrapi_nat h
    rw [this]
    rfl
  rw [e, tp1 _ n h1 h, ob, eq_words _ _ (by show 8 < G + 10; omega) (by show 8 < 1000000; omega), ob]
  rfl

/-! ### Places -/
def A1 (g : S_geo_Geo) : Nat := 16 + 1208 * g.xThreads.toNat
def B1 (g : S_geo_Geo) : Nat := A1 g + 2 * g.xSlots.toNat
def C1 (g : S_geo_Geo) : Nat := B1 g + 8 * g.xThings.toNat
theorem C8 (hg : GG g) : C1 g % 8 = 0 ∧ 16 ≤ C1 g ∧ C1 g ≤ 5424 ∧ A1 g % 8 = 0 := by
  have t1 := hg.t1; have t2 := hg.t2; have s2 := hg.s2; have s1 := hg.s1; have h1 := hg.h1; have h2 := hg.h2; have s8 := hg.s8
  unfold C1 B1 A1
  omega
theorem slotsAt (F : Nat) (hg : GG g) : m_geo_slotsAt F g = some (A1 g : Int) := by
  have t1 := hg.t1; have t2 := hg.t2
  unfold m_geo_slotsAt A1
  rw [gd_inI (by omega) (by omega), gd_inI (by omega) (by omega)]
  congr 1
  omega
theorem thingsAt (F : Nat) (hg : GG g) : m_geo_thingsAt F g = some (B1 g : Int) := by
  have t1 := hg.t1; have t2 := hg.t2; have s2 := hg.s2; have s1 := hg.s1; have c8 := C8 hg
  unfold m_geo_thingsAt
  rw [slotsAt F hg, ob, gd_inI (by omega) (by omega), gd_inI (by unfold C1 B1 at c8; omega) (by unfold C1 B1 at c8; omega)]
  unfold B1
  congr 1
  omega
theorem geo_Copy (F : Nat) (hg : GG g) : m_geo_Copy F g = some (C1 g : Int) := by
  have h1 := hg.h1; have h2 := hg.h2; have t1 := hg.t1; have c8 := C8 hg
  unfold m_geo_Copy
  rw [geo_Good F hg, ob, Bool.not_true, cf, thingsAt F hg, ob, gd_inI (by omega) (by omega), gd_inI (by unfold C1 at c8; omega) (by unfold C1 at c8; omega)]
  unfold C1
  congr 1
  omega
theorem wrap_small {n : Int} (h0 : 0 ≤ n) (h1 : n < 1000000000) : IntKind.i64.wrap n = n := by rw [IntKind.wrap_i64]; omega
theorem wrapu_small {n : Int} (h0 : 0 ≤ n) (h1 : n < 1000000000) : IntKind.u64.wrap n = n := by rw [IntKind.wrap_u64]; omega
theorem tdiv8 {a : Int} (h0 : 0 ≤ a) : Int.tdiv a 8 = a / 8 := Int.tdiv_eq_ediv_of_nonneg h0
theorem geo_Rows (F : Nat) (hg : GG g) : m_geo_Rows F g = some ((C1 g / 8 + 1 : Nat) : Int) := by
  have c8 := C8 hg
  unfold m_geo_Rows
  rw [geo_Good F hg, ob, Bool.not_true, cf, geo_Copy F hg, ob, tdiv8 (by omega), wrap_small (by omega) (by omega), gd_inI (by omega) (by omega)]
  congr 1
theorem geo_Lock (F : Nat) (hg : GG g) : m_geo_Lock F g = some 8 := by
  unfold m_geo_Lock
  rw [geo_Good F hg, ob, Bool.not_true, cf]
theorem in_true (F : Nat) {n a b : Int} (h1 : a ≤ n) (h2 : n ≤ b) : m_geo_in F n a b = some true := by
  unfold m_geo_in
  rw [decide_eq_true h1, decide_eq_true h2]
  rfl
theorem geo_Desc (F : Nat) (hg : GG g) {v : Nat} (h : v < g.xThreads.toNat) : m_geo_Desc F g v = some (((16 + 1208 * v : Nat) : Int), 1208) := by
  have t1 := hg.t1; have t2 := hg.t2
  unfold m_geo_Desc
  rw [geo_Good F hg, ob, gd_pos (fun _ => ⟨by omega, by omega⟩), Bool.not_true, fff, lzt, in_true F (by omega) (by omega), ob, show (false || !true) = false from rfl, cf, gd_inI (by omega) (by omega), gd_inI (by omega) (by omega)]
  congr 2
  omega
theorem geo_Slot (F : Nat) (hg : GG g) {v : Nat} (h : v < g.xSlots.toNat) : m_geo_Slot F g v = some ((A1 g + 2 * v : Nat) : Int) := by
  have t1 := hg.t1; have s2 := hg.s2; have s1 := hg.s1; have c8 := C8 hg
  unfold m_geo_Slot
  rw [geo_Good F hg, ob, gd_pos (fun _ => ⟨by omega, by omega⟩), Bool.not_true, fff, lzt, in_true F (by omega) (by omega), ob, show (false || !true) = false from rfl, cf, slotsAt F hg, ob, gd_inI (by omega) (by omega), gd_inI (by unfold C1 B1 at c8; omega) (by unfold C1 B1 at c8; omega)]
  congr 1
theorem geo_Thing (F : Nat) (hg : GG g) {v : Nat} (h : v < g.xThings.toNat) : m_geo_Thing F g v = some ((B1 g + 8 * v : Nat) : Int) := by
  have t1 := hg.t1; have h1 := hg.h1; have h2 := hg.h2; have c8 := C8 hg
  unfold m_geo_Thing
  rw [geo_Good F hg, ob, gd_pos (fun _ => ⟨by omega, by omega⟩), Bool.not_true, fff, lzt, in_true F (by omega) (by omega), ob, show (false || !true) = false from rfl, cf, thingsAt F hg, ob, gd_inI (by omega) (by omega), gd_inI (by unfold C1 at c8; omega) (by unfold C1 at c8; omega)]
  congr 1

/-! ### The words -/
def capW (c : S_cap_Cap) : Int := if c.xType = 1 then 1793 else if c.xType = 3 then 4294969091 else 0
def thW (t : S_thing_Thing) : List Int := [if t.xType = 2 then 770 + 65536 * t.xBase else t.xType, t.xSize, 0, 0, 0, 0, 0, 0]
noncomputable def wf (g : S_geo_Geo) (size : Int) (b : Int) (i : Nat) : Int :=
  if i < 8 then (sup ⟨g, b⟩).getD i 0
  else if i < A1 g then 0
  else if i < B1 g then (if (i - A1 g) % 2 = 0 then capW (sf g.xThreads.toNat ((i - A1 g) / 2)).xCap else (sf g.xThreads.toNat ((i - A1 g) / 2)).xUp + 1)
  else if i < C1 g then (thW (tf g.xThreads.toNat size ((i - B1 g) / 8))).getD ((i - B1 g) % 8) 0
  else (sup ⟨g, b⟩).getD (i - C1 g) 0
theorem cpy_tab {n a m : Nat} {f : Nat → Int} {l2 : List Int} (h1 : a + l2.length ≤ n) (h2 : l2.length ≤ m) : cpy (tab n f) a m l2 = tab n (fun i => if a ≤ i ∧ i < a + l2.length then l2.getD (i - a) 0 else f i) := by
  have hmin : min l2.length m = l2.length := Nat.min_eq_left h2
  rw [cpy_eq _ _ _ _ (by rw [hmin, tab_length]; exact h1), hmin, List.take_length]
  apply List.ext_getElem?
  intro i
  have hl : ((tab n f).take a).length = a := by rw [List.length_take, tab_length]; omega
  by_cases c0 : i < a
  · rw [List.append_assoc, List.getElem?_append_left (by omega), List.getElem?_take_of_lt c0, tab_get (by omega), tab_get (by omega), if_neg (by omega)]
  · rw [List.append_assoc, List.getElem?_append_right (by omega), hl]
    by_cases c1 : i < a + l2.length
    · rw [List.getElem?_append_left (by omega), tab_get (by omega), if_pos ⟨by omega, c1⟩]
      simp [List.getD_eq_getElem?_getD, show i - a < l2.length by omega]
    · rw [List.getElem?_append_right (by omega), List.getElem?_drop]
      have e : a + l2.length + (i - a - l2.length) = i := by omega
      rw [e]
      by_cases c2 : i < n
      · rw [tab_get c2, tab_get c2, if_neg (by omega)]
      · rw [List.getElem?_eq_none (by rw [tab_length]; omega), List.getElem?_eq_none (by rw [tab_length]; omega)]
end Go.V.P
