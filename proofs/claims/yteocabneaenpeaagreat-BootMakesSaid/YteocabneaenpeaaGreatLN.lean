/- Plain laws, part N: memories as words. No premises. -/
import Derived.Test.YteocabneaenpeaaGreatLM
set_option linter.unusedVariables false
set_option linter.unusedSimpArgs false
namespace Go.V.P
open Go.V Go.Proofs

def v8 (h : Nat → Int) : V8 Int := ⟨h 0, h 1, h 2, h 3, h 4, h 5, h 6, h 7⟩
theorem v8_put (h : Nat → Int) {j : Nat} (hj : j < 8) (x : Int) : (v8 h).put j x = v8 (fun i => if i = j then x else h i) := by
  rcases j with _ | _ | _ | _ | _ | _ | _ | _ | j <;> first | rfl | omega
theorem v8_get (h : Nat → Int) {j : Nat} (hj : j < 8) : (v8 h).get j = h j := by
  rcases j with _ | _ | _ | _ | _ | _ | _ | _ | j <;> first | rfl | omega
theorem v8_congr {h h' : Nat → Int} (e : ∀ j, j < 8 → h j = h' j) : v8 h = v8 h' := by
  unfold v8
  rw [e 0 (by omega), e 1 (by omega), e 2 (by omega), e 3 (by omega), e 4 (by omega), e 5 (by omega), e 6 (by omega), e 7 (by omega)]
theorem get_put {v : V8 Int} {j k : Nat} (hj : j < 8) (hk : k < 8) (x : Int) : (v.put j x).get k = if k = j then x else v.get k := by
  rcases j with _ | _ | _ | _ | _ | _ | _ | _ | j <;> first | omega | (rcases k with _ | _ | _ | _ | _ | _ | _ | _ | k <;> first | rfl | omega)

/-! ### Made of words -/
def rowV (f : Nat → Int) (v r : Nat) : S_row_Row := ⟨v8 (fun j => if 8 * r + j < v then f (8 * r + j) else 0), v8 (fun j => if 8 * r + j < v then f (8 * r + j) else 0), false, false⟩
theorem nvm_New (F : Nat) {n : Nat} (h1 : 1 ≤ n) (h2 : n ≤ 4096) : m_nvm_New F (n : Int) = some (some ⟨List.replicate n ⟨⟨0, 0, 0, 0, 0, 0, 0, 0⟩, ⟨0, 0, 0, 0, 0, 0, 0, 0⟩, false, false⟩, false, 0, 0, []⟩, 0) := by
  unfold m_nvm_New
  rw [decide_eq_false (show ¬ ((n : Int) < 1) by omega), decide_eq_false (show ¬ ((4096 : Int) < (n : Int)) by omega), show (false || false) = false from rfl, cf, gd_pos (by omega), Int.toNat_natCast]
/-- A memory of words, as it is made. -/
def mem0 (R : Nat) (f : Nat → Int) : S_nvm_Mem := ⟨tab R (rowV f (8 * R)), false, 0, 0, []⟩
theorem nvm_From (F : Nat) {R : Nat} (f : Nat → Int) (h1 : 1 ≤ R) (h2 : R ≤ 4096) (hF : 8 * R < F) : m_nvm_From F (tab (8 * R) f) = some (some (mem0 R f), 0) := by
  unfold m_nvm_From
  rw [tab_length, tdiv8 (by omega), tmod8 (by omega), show ((8 * R : Nat) : Int) / 8 = (R : Int) by omega, show ((8 * R : Nat) : Int) % 8 = 0 by omega, wrap_small (by omega) (by omega), nvm_New F h1 h2, ob]
  unfold optc
  dsimp only
  rw [show (((0 : Int) != 0) || ((0 : Int) != 0)) = false from rfl, cf, jn_]
  have e0 : List.replicate R (⟨⟨0, 0, 0, 0, 0, 0, 0, 0⟩, ⟨0, 0, 0, 0, 0, 0, 0, 0⟩, false, false⟩ : S_row_Row) = tab R (rowV f 0) := by
    rw [replicate_tab]; exact tab_congr fun j hj => by simp [rowV, v8]
  rw [e0]
  refine loop_st (fun n v l => m_nvm_From_l1 F (tab (8 * R) f) _ n v l) (8 * R) (fun v => tab R (rowV f v)) _ (fun n v hv => ?_) (fun n => ?_) F 0 (by omega) (by omega)
  · conv => lhs; unfold m_nvm_From_l1
    rw [tab_length, dlt hv, ct, gd_ix (by omega) (by rw [tab_length]; omega), tdiv8 (by omega), tmod8 (by omega), wrap_small (by omega) (by omega), gd_ix (by omega) (by rw [tab_length]; omega), gd_pos (by omega), gd_pos (by omega), gd_inI (by omega) (by omega), cs, nth_tab' hv, show ((v : Int) / 8) = ((v / 8 : Nat) : Int) by omega, nth_tab' (by omega), show ((v : Int) % 8).toNat = v % 8 by omega]
    rw [setn_tab, Int.toNat_natCast]
    congr 1
    refine tab_congr fun r hr => ?_
    by_cases c : r = v / 8
    · subst c
      rw [if_pos rfl]
      unfold rowV
      dsimp only
      rw [v8_put _ (by omega)]
      have : v8 (fun i => if i = v % 8 then f v else if 8 * (v / 8) + i < v then f (8 * (v / 8) + i) else 0) = v8 (fun j => if 8 * (v / 8) + j < v + 1 then f (8 * (v / 8) + j) else 0) := v8_congr fun j hj => by
        by_cases c1 : j = v % 8
        · rw [if_pos c1, if_pos (by omega)]; congr 1; omega
        · rw [if_neg c1]
          by_cases c2 : 8 * (v / 8) + j < v
          · rw [if_pos c2, if_pos (by omega)]
          · rw [if_neg c2, if_neg (by omega)]
      rw [this]
    · rw [if_neg c]
      unfold rowV
      have : v8 (fun j => if 8 * r + j < v then f (8 * r + j) else 0) = v8 (fun j => if 8 * r + j < v + 1 then f (8 * r + j) else 0) := v8_congr fun j hj => by
        by_cases c2 : 8 * r + j < v
        · rw [if_pos c2, if_pos (by omega)]
        · rw [if_neg c2, if_neg (by omega)]
      rw [this]
  · conv => lhs; unfold m_nvm_From_l1
    rw [tab_length, dge, cf]
    rfl
theorem out0 (F : Nat) {R : Nat} (f : Nat → Int) (hR : R < F) (hR2 : R < 100000) : m_nvm_Mem_Out F (mem0 R f) = some [] := by
  unfold m_nvm_Mem_Out
  rw [jn_]
  have hl : (mem0 R f).xl.length = R := tab_length _ _
  refine loop_st (fun n v l => m_nvm_Mem_Out_l0 F (mem0 R f) _ n v l) R (fun v => []) _ (fun n v hv => ?_) (fun n => ?_) F 0 (by omega) (by omega)
  · conv => lhs; unfold m_nvm_Mem_Out_l0
    rw [hl, dlt hv, ct, jn_, gd_ix (by omega) (by rw [hl]; omega), show nth (mem0 R f).xl (v : Int) = rowV f (8 * R) v from nth_tab' hv, show (rowV f (8 * R) v).xOut = false from rfl, cf]
    dsimp only
    rw [gd_inI (by omega) (by omega), cs]
  · conv => lhs; unfold m_nvm_Mem_Out_l0
    rw [hl, dge, cf]

/-! ### Seen as words -/
def wd (M : S_nvm_Mem) (i : Nat) : Int := (nth M.xl ((i / 8 : Nat) : Int)).xNew.get (i % 8)
structure Mem (M : S_nvm_Mem) (R : Nat) (w : Nat → Int) (c : Nat) : Prop where
  len : M.xl.length = R
  wds : ∀ i, i < 8 * R → wd M i = w i
  off : M.xoff = false
  fuse : M.xfuse = 0
  cnt0 : 0 ≤ M.xcount
  cnt : M.xcount ≤ c
theorem mem0_Mem {R : Nat} (f : Nat → Int) : Mem (mem0 R f) R f 0 := by
  refine ⟨tab_length _ _, fun i hi => ?_, rfl, rfl, by show (0 : Int) ≤ 0; decide, by show (0 : Int) ≤ 0; decide⟩
  unfold wd mem0
  dsimp only
  rw [nth_tab' (by omega)]
  unfold rowV
  dsimp only
  rw [v8_get _ (by omega), if_pos (by omega)]
  congr 1
  omega
theorem v8_list (v : V8 Int) : [v.c0, v.c1, v.c2, v.c3, v.c4, v.c5, v.c6, v.c7] = tab 8 (fun j => v.get j) := rfl
theorem tab_add {α : Type} (n m : Nat) (f : Nat → α) : tab (n + m) f = tab n f ++ tab m (fun i => f (n + i)) := by
  apply List.ext_getElem?
  intro i
  by_cases c : i < n
  · rw [List.getElem?_append_left (by rw [tab_length]; exact c), tab_get (by omega), tab_get c]
  · rw [List.getElem?_append_right (by rw [tab_length]; omega), tab_length]
    by_cases c2 : i < n + m
    · rw [tab_get c2, tab_get (by omega)]; congr 2; omega
    · rw [List.getElem?_eq_none (by rw [tab_length]; omega), List.getElem?_eq_none (by rw [tab_length]; omega)]
theorem words_ok (F : Nat) {M : S_nvm_Mem} {R c : Nat} {w : Nat → Int} (h : Mem M R w c) (hF : R < F) (hR : R ≤ 4096) : m_nvm_Mem_Words F M = some (tab (8 * R) w) := by
  have hl := h.len
  unfold m_nvm_Mem_Words
  rw [hl, gd_inI (by omega) (by omega), gd_pos (by omega), jn_, show List.replicate (0 : Int).toNat (0 : Int) = [] from rfl]
  have e : tab (8 * R) w = tab (8 * R) (wd M) := tab_congr fun i hi => (h.wds i hi).symm
  rw [e]
  refine loop_st (fun n v l => m_nvm_Mem_Words_l0 F M _ n v l) R (fun v => tab (8 * v) (wd M)) _ (fun n v hv => ?_) (fun n => ?_) F 0 (by omega) (by omega)
  · conv => lhs; unfold m_nvm_Mem_Words_l0
    rw [hl, dlt hv, ct, gd_ix (by omega) (by rw [hl]; omega), gd_pos (by rw [tab_length]; simp only [List.length_cons, List.length_nil]; omega), gd_inI (by omega) (by omega), cs, show 8 * (v + 1) = 8 * v + 8 by omega, tab_add, v8_list]
    congr 2
    refine tab_congr fun j hj => ?_
    unfold wd
    rw [show (8 * v + j) / 8 = v by omega, show (8 * v + j) % 8 = j by omega]
  · conv => lhs; unfold m_nvm_Mem_Words_l0
    rw [hl, dge, cf]
theorem may_ok (F : Nat) {M : S_nvm_Mem} {a b : Int} (h : M.xoff = false) (h0 : 0 ≤ a) (h1 : a < b) : m_nvm_Mem_may F M a b = some 0 := by
  unfold m_nvm_Mem_may
  rw [h, cf, decide_eq_false (show ¬ (a < 0) by omega), decide_eq_false (show ¬ (b ≤ a) by omega)]
  rfl
theorem burn_ok (F : Nat) {M : S_nvm_Mem} (h : M.xfuse = 0) (h0 : 0 ≤ M.xcount) (h1 : M.xcount ≤ 1000000000) : m_nvm_Mem_burn F M = some (⟨M.xl, M.xoff, M.xcount + 1, 0, M.xkeep⟩, true) := by
  unfold m_nvm_Mem_burn
  rw [jn_, h, show decide ((0 : Int) < 0) = false from rfl, cf]
  dsimp only
  rw [gd_inI (by omega) (by omega)]
theorem nth_setn' {α : Type} [Inhabited α] {l : List α} {i j : Int} {x : α} (hi : ix l i) (hj : 0 ≤ j) : nth (setn l i x) j = if j = i then x else nth l j := by
  by_cases c : j = i
  · subst c; rw [if_pos rfl, nth_setn hi]
  · rw [if_neg c]
    have : i.toNat ≠ j.toNat := by unfold ix at hi; omega
    simp [nth, setn, List.getD_eq_getElem?_getD, List.getElem?_set_ne this]
theorem store_ok (F : Nat) {M : S_nvm_Mem} {R c : Nat} {w : Nat → Int} (h : Mem M R w c) (hR : R ≤ 4096) (hc : c ≤ 1000000000) {a : Nat} (ha : a < 8 * R) (v : Int) :
    ∃ M', m_nvm_Mem_Store F M (a : Int) v = some (M', 0) ∧ Mem M' R (fun i => if i = a then v else w i) (c + 1) := by
  have hl := h.len; have hf := h.fuse; have h0 := h.cnt0; have h1 := h.cnt; have hoff := h.off
  have hix : ix M.xl ((a / 8 : Nat) : Int) := ⟨by omega, by rw [hl]; omega⟩
  refine ⟨⟨setn M.xl ((a / 8 : Nat) : Int) ⟨(nth M.xl ((a / 8 : Nat) : Int)).xLasts, (nth M.xl ((a / 8 : Nat) : Int)).xNew.put (a % 8) v, true, false⟩, M.xoff, M.xcount + 1, 0, M.xkeep⟩, ?_, ?_⟩
  · unfold m_nvm_Mem_Store
    rw [hl, gd_inI (by omega) (by omega), may_ok F hoff (by omega) (by omega), ob, show ((0 : Int) != 0) = false from rfl, cf, burn_ok F hf h0 (by omega), ob, Bool.not_true, cf, tdiv8 (by omega), tmod8 (by omega), wrap_small (by omega) (by omega), show ((a : Int) / 8) = ((a / 8 : Nat) : Int) by omega, gd_pos hix]
    unfold m_row_Row_Store m_row_in
    rw [gd_pos hix, ob, decide_eq_true (show (0 : Int) ≤ (a : Int) % 8 by omega), decide_eq_true (show (a : Int) % 8 < 8 by omega), show (!(true && true)) = false from rfl, cf, gd_pos (by omega), ob, show ((a : Int) % 8).toNat = a % 8 by omega]
  · refine ⟨by dsimp only; rw [setn_length]; exact hl, fun i hi => ?_, hoff, rfl, by dsimp only; omega, by dsimp only; omega⟩
    unfold wd
    dsimp only
    rw [nth_setn' hix (by omega)]
    by_cases c1 : ((i / 8 : Nat) : Int) = ((a / 8 : Nat) : Int)
    · rw [if_pos c1]
      dsimp only
      rw [get_put (by omega) (by omega)]
      by_cases c2 : i = a
      · subst c2; rw [if_pos rfl, if_pos rfl]
      · rw [if_neg (by omega), if_neg c2, ← h.wds i hi]
        unfold wd
        rw [c1]
    · rw [if_neg c1, if_neg (fun e => c1 (by rw [e])), ← h.wds i hi]
      rfl
theorem flush_ok (F : Nat) {M : S_nvm_Mem} {R c : Nat} {w : Nat → Int} (h : Mem M R w c) (hR : R ≤ 4096) (hc : c ≤ 1000000000) {r : Int} (h0r : 0 ≤ r) (hr : r < R) :
    ∃ M', m_nvm_Mem_Flush F M r = some (M', 0) ∧ Mem M' R w (c + 1) := by
  have hl := h.len; have hf := h.fuse; have h0 := h.cnt0; have h1 := h.cnt; have hoff := h.off
  have hix : ix M.xl r := ⟨h0r, by rw [hl]; omega⟩
  refine ⟨⟨setn M.xl r ⟨(nth M.xl r).xLasts, (nth M.xl r).xNew, (nth M.xl r).xOut, ((nth M.xl r).xSent || (nth M.xl r).xOut)⟩, M.xoff, M.xcount + 1, 0, M.xkeep⟩, ?_, ?_⟩
  · unfold m_nvm_Mem_Flush
    rw [hl, may_ok F hoff (by omega) (by omega), ob, show ((0 : Int) != 0) = false from rfl, cf, burn_ok F hf h0 (by omega), ob, Bool.not_true, cf, gd_pos hix]
    unfold m_row_Row_Flush
    rw [gd_pos hix, ob]
  · refine ⟨by dsimp only; rw [setn_length]; exact hl, fun i hi => ?_, hoff, rfl, by dsimp only; omega, by dsimp only; omega⟩
    rw [← h.wds i hi]
    unfold wd
    dsimp only
    rw [nth_setn' hix (by omega)]
    by_cases c1 : ((i / 8 : Nat) : Int) = r
    · rw [if_pos c1, c1]
    · rw [if_neg c1]
theorem rfence_ok (F : Nat) {M : S_nvm_Mem} {R c : Nat} {w : Nat → Int} (h : Mem M R w c) {r : Nat} (hr : r < R) : ∃ M' b, m_row_Row_Fence F M (r : Int) = some (M', b) ∧ Mem M' R w c := by
  have hl := h.len
  have hix : ix M.xl (r : Int) := ⟨by omega, by rw [hl]; omega⟩
  unfold m_row_Row_Fence
  rw [gd_pos hix]
  cases hs : (nth M.xl (r : Int)).xSent
  · exact ⟨M, false, by rw [cf], h⟩
  · rw [ct]
    unfold m_row_Row_Evict
    rw [gd_pos hix]
    cases ho : (nth M.xl (r : Int)).xOut
    · exact ⟨M, false, by rw [Bool.not_false, ct, ob], h⟩
    · rw [Bool.not_true, cf, ob]
      refine ⟨_, true, rfl, by dsimp only; rw [setn_length]; exact hl, fun i hi => ?_, h.off, h.fuse, h.cnt0, h.cnt⟩
      rw [← h.wds i hi]
      unfold wd
      dsimp only
      rw [nth_setn' hix (by omega)]
      by_cases c1 : ((i / 8 : Nat) : Int) = (r : Int)
      · rw [if_pos c1, c1]
      · rw [if_neg c1]
theorem fence_l0 (F : Nat) (x : S_nvm_Mem × Bool) {R : Nat} (hx : x.1.xl.length = R) (hR : R ≤ 4096) (w : Nat → Int) (c : Nat) (k : List S_row_Row → Bool → Int → Int → List Int → Option (S_nvm_Mem × Int)) (hk : ∀ M', Mem M' R w c → ∃ M'', k M'.xl M'.xoff M'.xcount M'.xfuse M'.xkeep = some (M'', 0) ∧ Mem M'' R w c) :
    ∀ (n v : Nat) (M : S_nvm_Mem), v ≤ R → R - v < n → Mem M R w c → ∃ M'', m_nvm_Mem_Fence_l0 F x k n (v : Int) M.xl M.xoff M.xcount M.xfuse M.xkeep = some (M'', 0) ∧ Mem M'' R w c := by
  intro n
  induction n with
  | zero => intro v M h1 h2; omega
  | succ n ih =>
    intro v M h1 h2 h
    unfold m_nvm_Mem_Fence_l0
    rw [hx]
    by_cases hv : v < R
    · obtain ⟨M', b, e, h'⟩ := rfence_ok F h hv
      rw [dlt hv, ct, gd_ix (by omega) (by rw [h.len]; omega), show (⟨M.xl, M.xoff, M.xcount, M.xfuse, M.xkeep⟩ : S_nvm_Mem) = M from rfl, e, ob, gd_inI (by omega) (by omega), cs]
      exact ih (v + 1) M' (by omega) (by omega) h'
    · rw [decide_eq_false (show ¬ ((v : Int) < ((R : Nat) : Int)) by omega), cf]
      exact hk M h
theorem fence_ok (F : Nat) {M : S_nvm_Mem} {R c : Nat} {w : Nat → Int} (h : Mem M R w c) (hR : R ≤ 4096) (hF : R < F) (hc : c ≤ 1000000000) : ∃ M', m_nvm_Mem_Fence F M = some (M', 0) ∧ Mem M' R w (c + 1) := by
  have hl := h.len; have hf := h.fuse; have h0 := h.cnt0; have h1 := h.cnt; have hoff := h.off
  unfold m_nvm_Mem_Fence
  rw [may_ok F hoff (by omega) (by omega), ob, show ((0 : Int) != 0) = false from rfl, cf, burn_ok F hf h0 (by omega), ob, Bool.not_true, cf, jn_]
  have h' : Mem (⟨M.xl, M.xoff, M.xcount + 1, 0, M.xkeep⟩ : S_nvm_Mem) R w (c + 1) := ⟨hl, h.wds, hoff, rfl, by dsimp only; omega, by dsimp only; omega⟩
  exact fence_l0 F _ hl hR w (c + 1) _ (fun M' hM' => ⟨M', rfl, hM'⟩) F 0 _ (by omega) (by omega) h'
end Go.V.P
