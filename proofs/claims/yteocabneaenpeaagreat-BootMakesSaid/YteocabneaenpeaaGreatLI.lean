/- Plain laws, part I: capabilities and things, in words. No premises. -/
import Derived.Test.YteocabneaenpeaaGreatLH
set_option linter.unusedVariables false
set_option linter.unusedSimpArgs false
set_option maxRecDepth 20000
namespace Go.V.P
open Go.V Go.Proofs
def roomW (n : Int) : List Int := [1, n, 0, 0, 0, 0, 0, 0]
theorem all2 {p : Nat → Bool} (h : ((List.range 64).all fun a => (List.range 65).all fun b => p (64 * a + b)) = true) (n : Nat) (hn : n ≤ 4096) : p n = true := by
  by_cases e : n = 4096
  · subst e
    exact List.all_eq_true.1 (List.all_eq_true.1 h 63 (List.mem_range.2 (by omega))) 64 (List.mem_range.2 (by omega))
  have h1 := List.all_eq_true.1 h (n / 64) (List.mem_range.2 (by omega))
  have h2 := List.all_eq_true.1 h1 (n % 64) (List.mem_range.2 (by omega))
  have : 64 * (n / 64) + n % 64 = n := by omega
  rwa [this] at h2
noncomputable def primB (n : Nat) : Bool := decide (iand .u64 (n : Int) 65535 = n) && decide (iand .u64 (n : Int) 4294901760 = 0) && decide (iand .u64 (n : Int) 281470681743360 = 0) && decide (ior .u64 0 (n : Int) = n) && decide (ior .u64 (n : Int) 0 = n) && decide (ishr .u64 (n : Int) 0 = n) && decide (ishl .u64 (n : Int) 0 = n)
theorem prim_all : ((List.range 64).all fun a => (List.range 65).all fun b => primB (64 * a + b)) = true := by kernel_rfl
theorem prim (n : Nat) (hn : n ≤ 4096) : iand .u64 (n : Int) 65535 = n ∧ iand .u64 (n : Int) 4294901760 = 0 ∧ iand .u64 (n : Int) 281470681743360 = 0 ∧ ior .u64 0 (n : Int) = n ∧ ior .u64 (n : Int) 0 = n ∧ ishr .u64 (n : Int) 0 = n ∧ ishl .u64 (n : Int) 0 = n := by
  have := all2 (p := primB) prim_all n hn
  unfold primB at this
  simp only [Bool.and_eq_true, decide_eq_true_eq] at this
  obtain ⟨⟨⟨⟨⟨⟨a1, a2⟩, a3⟩, a4⟩, a5⟩, a6⟩, a7⟩ := this
  exact ⟨a1, a2, a3, a4, a5, a6, a7⟩
theorem cw1 (G : Nat) : m_cap_Word (G + 5) cRoom = some (1793, true) := by kernel_rfl
theorem cw2 (G : Nat) : m_cap_Word (G + 5) cMail = some (4294969091, true) := by kernel_rfl
theorem cw3 (G : Nat) : m_cap_Word (G + 5) cNone = some (0, true) := by kernel_rfl
theorem cgt1 (G : Nat) : m_cap_Get (G + 5) 1793 = some (cRoom, true) := by kernel_rfl
theorem cgt2 (G : Nat) : m_cap_Get (G + 5) 4294969091 = some (cMail, true) := by kernel_rfl
theorem cgt3 (G : Nat) : m_cap_Get (G + 5) 0 = some (cNone, true) := by kernel_rfl
theorem tp2 (G : Nat) : m_thing_Put (G + 6) tMail = some [3, 0, 0, 0, 0, 0, 0, 0] := by kernel_rfl
theorem tp4 (G : Nat) : m_thing_Put (G + 6) tNone = some [0, 0, 0, 0, 0, 0, 0, 0] := by kernel_rfl
theorem tp30 (G : Nat) : m_thing_Put (G + 6) (tNode 0) = some [770, 0, 0, 0, 0, 0, 0, 0] := by kernel_rfl
theorem tp31 (G : Nat) : m_thing_Put (G + 6) (tNode 8) = some [525058, 0, 0, 0, 0, 0, 0, 0] := by kernel_rfl
theorem tp32 (G : Nat) : m_thing_Put (G + 6) (tNode 16) = some [1049346, 0, 0, 0, 0, 0, 0, 0] := by kernel_rfl
theorem tp33 (G : Nat) : m_thing_Put (G + 6) (tNode 24) = some [1573634, 0, 0, 0, 0, 0, 0, 0] := by kernel_rfl
theorem tg2 (G : Nat) : m_thing_Get (G + 10) [3, 0, 0, 0, 0, 0, 0, 0] = some (tMail, true) := by kernel_rfl
theorem tg4 (G : Nat) : m_thing_Get (G + 10) [0, 0, 0, 0, 0, 0, 0, 0] = some (tNone, true) := by kernel_rfl
theorem tg30 (G : Nat) : m_thing_Get (G + 10) [770, 0, 0, 0, 0, 0, 0, 0] = some (tNode 0, true) := by kernel_rfl
theorem tg31 (G : Nat) : m_thing_Get (G + 10) [525058, 0, 0, 0, 0, 0, 0, 0] = some (tNode 8, true) := by kernel_rfl
theorem tg32 (G : Nat) : m_thing_Get (G + 10) [1049346, 0, 0, 0, 0, 0, 0, 0] = some (tNode 16, true) := by kernel_rfl
theorem tg33 (G : Nat) : m_thing_Get (G + 10) [1573634, 0, 0, 0, 0, 0, 0, 0] = some (tNode 24, true) := by kernel_rfl
/-- The fields of a thing's second word. -/
def prs : List S_tag_Field := [⟨0, 16⟩, ⟨16, 16⟩, ⟨32, 16⟩]
theorem prs_good (G : Nat) : m_tag_Good (G + 6) prs = some true := by kernel_rfl
theorem msk0 (F : Nat) : m_tag_Field_mask F ⟨0, 16⟩ = some 65535 := by kernel_rfl
theorem msk1 (F : Nat) : m_tag_Field_mask F ⟨16, 16⟩ = some 4294901760 := by kernel_rfl
theorem msk2 (F : Nat) : m_tag_Field_mask F ⟨32, 16⟩ = some 281470681743360 := by kernel_rfl
theorem wrap_nat {n : Nat} (h : n ≤ 4096) : IntKind.u64.wrap (n : Int) = n := by rw [IntKind.wrap_u64]; omega
theorem wrapi_nat {n : Nat} (h : n ≤ 4096) : IntKind.i64.wrap (n : Int) = n := by rw [IntKind.wrap_i64]; omega
theorem prs_put (G : Nat) (n : Nat) (h : n ≤ 4096) : m_tag_Put (G + 6) prs [(n : Int), 0, 0] = some ((n : Int), true) := by
  obtain ⟨a1, a2, a3, a4, a5, a6, a7⟩ := prim n h
  unfold m_tag_Put
  rw [prs_good, ob, show ((((prs.length : Nat) : Int)) != ((([(n : Int), 0, 0] : List Int).length : Nat) : Int)) = false from rfl, show (!true || false) = false from rfl, cf, jn_]
  unfold m_tag_Put_l0
  rw [show decide ((0 : Int) < ((prs.length : Nat) : Int)) = true from rfl, ct, gd_ix (by decide) (by decide), gd_ix (by decide) (by show (0 : Int) < 3; decide), show nth prs 0 = ⟨0, 16⟩ from rfl, msk0, ob, gd_pos (by decide), show nth [(n : Int), 0, 0] 0 = (n : Int) from rfl, show ishr .u64 65535 (⟨0, 16⟩ : S_tag_Field).xFrom = 65535 by kernel_rfl, decide_eq_false (show ¬ ((65535 : Int) < (n : Int)) by omega), cf, gd_ix (by decide) (by show (0 : Int) < 3; decide), gd_pos (by decide), gd_inI (by decide) (by decide), show (⟨0, 16⟩ : S_tag_Field).xFrom = 0 from rfl, a7, a4]
  unfold m_tag_Put_l0
  rw [show decide ((0 : Int) + 1 < ((prs.length : Nat) : Int)) = true from rfl, ct, gd_ix (by decide) (by decide), gd_ix (by decide) (by show (0 : Int) + 1 < 3; decide), show nth prs (0 + 1) = ⟨16, 16⟩ from rfl, msk1, ob, gd_pos (by decide), show nth [(n : Int), 0, 0] (0 + 1) = 0 from rfl, show ishr .u64 4294901760 (⟨16, 16⟩ : S_tag_Field).xFrom = 65535 by kernel_rfl, show decide ((65535 : Int) < 0) = false from rfl, cf, gd_ix (by decide) (by show (0 : Int) + 1 < 3; decide), gd_pos (by decide), gd_inI (by decide) (by decide), show ishl .u64 0 (⟨16, 16⟩ : S_tag_Field).xFrom = 0 by kernel_rfl, a5]
  unfold m_tag_Put_l0
  rw [show decide ((0 : Int) + 1 + 1 < ((prs.length : Nat) : Int)) = true from rfl, ct, gd_ix (by decide) (by decide), gd_ix (by decide) (by show (0 : Int) + 1 + 1 < 3; decide), show nth prs (0 + 1 + 1) = ⟨32, 16⟩ from rfl, msk2, ob, gd_pos (by decide), show nth [(n : Int), 0, 0] (0 + 1 + 1) = 0 from rfl, show ishr .u64 281470681743360 (⟨32, 16⟩ : S_tag_Field).xFrom = 65535 by kernel_rfl, show decide ((65535 : Int) < 0) = false from rfl, cf, gd_ix (by decide) (by show (0 : Int) + 1 + 1 < 3; decide), gd_pos (by decide), gd_inI (by decide) (by decide), show ishl .u64 0 (⟨32, 16⟩ : S_tag_Field).xFrom = 0 by kernel_rfl, a5]
  unfold m_tag_Put_l0
  rw [show decide ((0 : Int) + 1 + 1 + 1 < ((prs.length : Nat) : Int)) = false from rfl, cf]
theorem prs_get (G : Nat) (n : Nat) (h : n ≤ 4096) : m_tag_Get (G + 6) (n : Int) prs = some [(n : Int), 0, 0] := by
  obtain ⟨a1, a2, a3, a4, a5, a6, a7⟩ := prim n h
  unfold m_tag_Get
  rw [prs_good, ob, Bool.not_true, cf, gd_pos (by decide), jn_, show List.replicate (0 : Int).toNat (0 : Int) = [] from rfl]
  unfold m_tag_Get_l0
  rw [show decide ((0 : Int) < ((prs.length : Nat) : Int)) = true from rfl, ct, gd_ix (by decide) (by decide), show nth prs 0 = ⟨0, 16⟩ from rfl, msk0, ob, gd_pos (by decide), gd_pos (by simp), gd_inI (by decide) (by decide), a1, show (⟨0, 16⟩ : S_tag_Field).xFrom = 0 from rfl, a6]
  unfold m_tag_Get_l0
  rw [show decide ((0 : Int) + 1 < ((prs.length : Nat) : Int)) = true from rfl, ct, gd_ix (by decide) (by decide), show nth prs (0 + 1) = ⟨16, 16⟩ from rfl, msk1, ob, gd_pos (by decide), gd_pos (by simp), gd_inI (by decide) (by decide), a2, show ishr .u64 0 (⟨16, 16⟩ : S_tag_Field).xFrom = 0 by kernel_rfl]
  unfold m_tag_Get_l0
  rw [show decide ((0 : Int) + 1 + 1 < ((prs.length : Nat) : Int)) = true from rfl, ct, gd_ix (by decide) (by decide), show nth prs (0 + 1 + 1) = ⟨32, 16⟩ from rfl, msk2, ob, gd_pos (by decide), gd_pos (by simp), gd_inI (by decide) (by decide), a3, show ishr .u64 0 (⟨32, 16⟩ : S_tag_Field).xFrom = 0 by kernel_rfl]
  unfold m_tag_Get_l0
  rw [show decide ((0 : Int) + 1 + 1 + 1 < ((prs.length : Nat) : Int)) = false from rfl, cf]
  rfl
theorem byt (G : Nat) : m_thing_bytes (G + 6) = some [⟨0, 8⟩, ⟨8, 8⟩, ⟨16, 8⟩, ⟨24, 8⟩, ⟨32, 8⟩] := by kernel_rfl
theorem byt_room (G : Nat) : m_tag_Put (G + 6) [⟨0, 8⟩, ⟨8, 8⟩, ⟨16, 8⟩, ⟨24, 8⟩, ⟨32, 8⟩] [1, 0, 0, 0, 0] = some (1, true) := by kernel_rfl
theorem pairs_eq (F : Nat) : m_thing_pairs F = some prs := by kernel_rfl
theorem byt_get (G : Nat) : m_tag_Get (G + 6) 1 [⟨0, 8⟩, ⟨8, 8⟩, ⟨16, 8⟩, ⟨24, 8⟩, ⟨32, 8⟩] = some [1, 0, 0, 0, 0] := by kernel_rfl
theorem tp1 (G : Nat) (n : Nat) (h1 : 1 ≤ n) (h : n ≤ 4096) : m_thing_Put (G + 6) (tRoom (n : Int)) = some (roomW (n : Int)) := by
  unfold m_thing_Put
  rw [good_room, decide_eq_true (show (1 : Int) ≤ (n : Int) by omega), decide_eq_true (show (n : Int) ≤ 4096 by omega), ob, show (!(true && true)) = false from rfl, cf, jn_]
  rw [show (tRoom (n : Int)).xFull = false from rfl, cf]
  dsimp only
  rw [jn_, byt, ob, show ([IntKind.u64.wrap (tRoom (n : Int)).xType, IntKind.u64.wrap (tRoom (n : Int)).xBits, IntKind.u64.wrap (tRoom (n : Int)).xBase, (0 : Int), IntKind.u64.wrap (tRoom (n : Int)).xFrom] : List Int) = [1, 0, 0, 0, 0] from rfl, byt_room, ob]
  dsimp only
  rw [jn_, pairs_eq, ob]
  rw [show ([IntKind.u64.wrap (tRoom (n : Int)).xSize, IntKind.u64.wrap (tRoom (n : Int)).xUsed, IntKind.u64.wrap (tRoom (n : Int)).xBadge] : List Int) = [IntKind.u64.wrap (n : Int), 0, 0] from rfl, wrap_nat h, prs_put G n h, ob]
  dsimp only
  rw [jn_, gd_pos (by simp), gd_pos (by simp)]
  rfl
end Go.V.P
