/- Plain laws, part O: writes that are made to last. No premises. -/
import Derived.Test.YteocabneaenpeaaGreatLN
set_option linter.unusedVariables false
set_option linter.unusedSimpArgs false
namespace Go.V.P
open Go.V Go.Proofs

theorem mem_compI {x : Int} {l : List Int} (h : x ∈ compI l) : x ∈ l := by
  unfold compI Go.Lib.compact Go.Lib.compactUpTo at h
  obtain ⟨j, hj, rfl⟩ := List.mem_map.1 h
  have hj2 := List.mem_range.1 (List.mem_filter.1 hj).1
  simp [hj2]
theorem compI_length (l : List Int) : (compI l).length ≤ l.length := by
  unfold compI Go.Lib.compact Go.Lib.compactUpTo
  rw [List.length_map]
  exact Nat.le_trans (List.length_filter_le _ _) (by simp)
theorem mem_sortI {x : Int} {l : List Int} (h : x ∈ sortI l) : x ∈ l := by
  unfold sortI at h
  exact List.mem_mergeSort.1 h
/-- Writes, into words. -/
def app (ws : List S_wset_Write) (w : Nat → Int) : Nat → Int := match ws with
  | [] => w
  | x :: ws => app ws (fun i => if i = x.xAt.toNat then x.xV else w i)
theorem app_append (a b : List S_wset_Write) (w : Nat → Int) : app (a ++ b) w = app b (app a w) := by
  induction a generalizing w with
  | nil => rfl
  | cons x a ih => exact ih _
/-- Writes that may be. -/
def fitW (R : Nat) (ws : List S_wset_Write) : Prop := ∀ x ∈ ws, 0 ≤ x.xAt ∧ x.xAt < 8 * R
theorem rows_ok (F : Nat) {R : Nat} {ws : List S_wset_Write} (hR : R ≤ 4096) (h : fitW R ws) (hl : ws.length ≤ 10000) (hF : ws.length < F) : ∃ l, m_wset_Rows F ws = some l ∧ l.length ≤ ws.length ∧ ∀ x ∈ l, 0 ≤ x ∧ x < R := by
  have key : m_wset_Rows F ws = some (compI (sortI (tab ws.length (fun i => (nth ws (i : Int)).xAt / 8)))) := by
    unfold m_wset_Rows
    rw [jn_]
    refine loop_st (fun n v l => m_wset_Rows_l0 F ws _ n v l) ws.length (fun v => tab v (fun i => (nth ws (i : Int)).xAt / 8)) _ (fun n v hv => ?_) (fun n => ?_) F 0 (by omega) (by omega)
    · have hm : nth ws (v : Int) ∈ ws := by
        rw [nth_nat ws hv]; exact List.getElem_mem hv
      obtain ⟨a1, a2⟩ := h _ hm
      conv => lhs; unfold m_wset_Rows_l0
      rw [dlt hv, ct, jn_, gd_ix (by omega) (by omega), decide_eq_true a1, ct, tdiv8 a1, wrap_small (by omega) (by omega), gd_pos (by rw [tab_length]; simp only [List.length_cons, List.length_nil]; omega)]
      dsimp only
      rw [gd_inI (by omega) (by omega), cs, tab_succ]
    · conv => lhs; unfold m_wset_Rows_l0
      rw [dge, cf, gd_pos (by rw [tab_length]; omega), gd_pos (by rw [sortI_length, tab_length]; omega)]
  refine ⟨_, key, ?_, fun x hx => ?_⟩
  · refine Nat.le_trans (compI_length _) ?_
    rw [sortI_length, tab_length]
    exact Nat.le_refl _
  · have := mem_sortI (mem_compI hx)
    unfold tab at this
    obtain ⟨i, hi, rfl⟩ := List.mem_map.1 this
    have hi := List.mem_range.1 hi
    have hm : nth ws (i : Int) ∈ ws := by rw [nth_nat ws hi]; exact List.getElem_mem hi
    obtain ⟨a1, a2⟩ := h _ hm
    omega
theorem last_l1 (F : Nat) {R : Nat} {ws : List S_wset_Write} (hR : R ≤ 4096) (hfit : fitW R ws) (hl : ws.length ≤ 10000) (Q : S_nvm_Mem → Prop) (k : List S_row_Row → Bool → Int → Int → List Int → Option (S_nvm_Mem × Int)) (w0 : Nat → Int) (c0 : Nat)
    (hk : ∀ M, Mem M R (app ws w0) (c0 + ws.length) → ∃ M', k M.xl M.xoff M.xcount M.xfuse M.xkeep = some (M', 0) ∧ Q M') (hc : c0 ≤ 100000000) :
    ∀ (n v : Nat) (M : S_nvm_Mem), v ≤ ws.length → ws.length - v < n → Mem M R (app (ws.take v) w0) (c0 + v) → ∃ M', m_boot_last_l1 F ws k n (v : Int) M.xl M.xoff M.xcount M.xfuse M.xkeep = some (M', 0) ∧ Q M' := by
  intro n
  induction n with
  | zero => intro v M h1 h2; omega
  | succ n ih =>
    intro v M h1 h2 h
    unfold m_boot_last_l1
    by_cases hv : v < ws.length
    · have hm : nth ws (v : Int) ∈ ws := by rw [nth_nat ws hv]; exact List.getElem_mem hv
      obtain ⟨a1, a2⟩ := hfit _ hm
      obtain ⟨M', e, h'⟩ := store_ok F h hR (by omega) (a := (nth ws (v : Int)).xAt.toNat) (by omega) (nth ws (v : Int)).xV
      rw [show (((nth ws (v : Int)).xAt.toNat : Nat) : Int) = (nth ws (v : Int)).xAt by omega] at e
      rw [dlt hv, ct, gd_ix (by omega) (by omega), show (⟨M.xl, M.xoff, M.xcount, M.xfuse, M.xkeep⟩ : S_nvm_Mem) = M from rfl, e, ob, show ((0 : Int) != 0) = false from rfl, cf, gd_inI (by omega) (by omega), cs]
      refine ih (v + 1) M' (by omega) (by omega) ?_
      have e2 : app (ws.take (v + 1)) w0 = fun i => if i = (nth ws (v : Int)).xAt.toNat then (nth ws (v : Int)).xV else app (ws.take v) w0 i := by
        rw [List.take_succ_eq_append_getElem hv, app_append, nth_nat ws hv]
        rfl
      rw [e2, show c0 + (v + 1) = c0 + v + 1 by omega]
      exact h'
    · have : v = ws.length := by omega
      subst this
      rw [dge, cf]
      rw [List.take_length] at h
      exact hk M h
theorem last_l0 (F : Nat) {R : Nat} (hR : R ≤ 4096) {rows : List Int} (hr : ∀ x ∈ rows, 0 ≤ x ∧ x < R) (hl : rows.length ≤ 10000) (Q : S_nvm_Mem → Prop) (k : List S_row_Row → Bool → Int → Int → List Int → Option (S_nvm_Mem × Int)) (w : Nat → Int) (c0 : Nat)
    (hk : ∀ M, Mem M R w (c0 + rows.length) → ∃ M', k M.xl M.xoff M.xcount M.xfuse M.xkeep = some (M', 0) ∧ Q M') (hc : c0 ≤ 100000000) :
    ∀ (n v : Nat) (M : S_nvm_Mem), v ≤ rows.length → rows.length - v < n → Mem M R w (c0 + v) → ∃ M', m_boot_last_l0 F k rows n (v : Int) M.xl M.xoff M.xcount M.xfuse M.xkeep = some (M', 0) ∧ Q M' := by
  intro n
  induction n with
  | zero => intro v M h1 h2; omega
  | succ n ih =>
    intro v M h1 h2 h
    unfold m_boot_last_l0
    by_cases hv : v < rows.length
    · have hm : nth rows (v : Int) ∈ rows := by rw [nth_nat rows hv]; exact List.getElem_mem hv
      obtain ⟨a1, a2⟩ := hr _ hm
      obtain ⟨M', e, h'⟩ := flush_ok F h hR (by omega) a1 a2
      rw [dlt hv, ct, gd_ix (by omega) (by omega), show (⟨M.xl, M.xoff, M.xcount, M.xfuse, M.xkeep⟩ : S_nvm_Mem) = M from rfl, e, ob, show ((0 : Int) != 0) = false from rfl, cf, gd_inI (by omega) (by omega), cs]
      exact ih (v + 1) M' (by omega) (by omega) h'
    · have : v = rows.length := by omega
      subst this
      rw [dge, cf]
      exact hk M h
theorem last_ok (F : Nat) {M : S_nvm_Mem} {R c : Nat} {w : Nat → Int} (h : Mem M R w c) (hR : R ≤ 4096) {ws : List S_wset_Write} (hfit : fitW R ws) (hl : ws.length ≤ 10000) (hF : ws.length < F) (hF2 : R < F) (hc : c ≤ 10000000) :
    ∃ M', m_boot_last F M ws = some (M', 0) ∧ Mem M' R (app ws w) (c + 2 * ws.length + 1) := by
  obtain ⟨rows, e, hlr, hr⟩ := rows_ok F hR hfit hl hF
  unfold m_boot_last
  rw [jn_]
  refine last_l1 F hR hfit hl (fun M' => Mem M' R (app ws w) (c + 2 * ws.length + 1)) _ w c (fun M1 hM1 => ?_) (by omega) F 0 M (by omega) (by omega) (by simpa [app] using h)
  rw [jn_, e, ob]
  refine last_l0 F hR hr (by omega) (fun M' => Mem M' R (app ws w) (c + 2 * ws.length + 1)) _ (app ws w) (c + ws.length) (fun M2 hM2 => ?_) (by omega) F 0 M1 (by omega) (by omega) (by simpa using hM1)
  obtain ⟨M3, e3, h3⟩ := fence_ok F hM2 hR hF2 (by omega)
  refine ⟨M3, ?_, ⟨h3.len, h3.wds, h3.off, h3.fuse, h3.cnt0, by have := h3.cnt; omega⟩⟩
  rw [show (⟨M2.xl, M2.xoff, M2.xcount, M2.xfuse, M2.xkeep⟩ : S_nvm_Mem) = M2 from rfl, e3, ob]
end Go.V.P
