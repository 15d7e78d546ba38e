/- Plain laws, part NA: what lasts: rows that are out, sent, calm. No premises. -/
import Derived.Test.YtopidcbmhdeclaaGreatG12
set_option linter.unusedVariables false
set_option linter.unusedSimpArgs false
namespace Go.V.P
open Go.V Go.Proofs
def rw_ (M : aC) (r : Nat) : bV := nth M.xl (r : Int)
def yS (D E : Nat → Prop) (M : aC) : Prop := ∀ r : Nat, r < M.xl.length → ((rw_ M r).rZ = false → (rw_ M r).jl = (rw_ M r).xNew) ∧ (¬ D r → (rw_ M r).rZ = false) ∧ (E r → (rw_ M r).rZ = true → (rw_ M r).pO = true)
def Calm (M : aC) : Prop := yS (fun _ => False) (fun _ => False) M
theorem Xf {R : Nat} (f : Nat → Int) : Calm (Rq R f) := by
 intro r hr
 have hr' : r < R := by
  have : (Rq R f).xl.length = R := aP _ _
  omega
 have e : rw_ (Rq R f) r = Ro f (8 * R) r := dU hr'
 rw [e]
 exact ⟨fun _ => rfl, fun _ => rfl, fun h => h.elim⟩
theorem RQ (F : Nat) {M : aC} {R c : Nat} {w : Nat → Int} (h : Mem M R w c) (hR : R ≤ 4096) (hc : c ≤ 1000000000) {a : Nat} (ha : a < 8 * R) (v : Int) :
  jh F M (a : Int) v = some (⟨dZ M.xl ((a / 8 : Nat) : Int) ⟨(nth M.xl ((a / 8 : Nat) : Int)).jl, (nth M.xl ((a / 8 : Nat) : Int)).xNew.put (a % 8) v, true, false⟩, M.dD, M.bC + 1, 0, M.bQ⟩, 0) := by
 have hl := h.len; have hf := h.fuse; have h0 := h.Ap; have h1 := h.cnt; have hoff := h.off
 have hix : ix M.xl ((a / 8 : Nat) : Int) := ⟨by omega, by rw [hl]; omega⟩
 unfold jh
 rw [hl, cZ (by omega) (by omega), E5 F hoff (by omega) (by omega), ob, show ((0 : Int) != 0) = false from rfl, cf, D8 F hf h0 (by omega), ob, Bool.not_true, cf, EH (by omega), I7 (by omega), wrap_small (by omega) (by omega), show ((a : Int) / 8) = ((a / 8 : Nat) : Int) by omega, bY hix]
 unfold qK xO
 rw [bY hix, ob, decide_eq_true (show (0 : Int) ≤ (a : Int) % 8 by omega), decide_eq_true (show (a : Int) % 8 < 8 by omega), show (!(true && true)) = false from rfl, cf, bY (by omega), ob, show ((a : Int) % 8).toNat = a % 8 by omega]
theorem RS (F : Nat) {M : aC} {R c : Nat} {w : Nat → Int} (h : Mem M R w c) (hR : R ≤ 4096) (hc : c ≤ 1000000000) {r : Int} (h0r : 0 ≤ r) (hr : r < R) :
  jU F M r = some (⟨dZ M.xl r ⟨(nth M.xl r).jl, (nth M.xl r).xNew, (nth M.xl r).rZ, ((nth M.xl r).pO || (nth M.xl r).rZ)⟩, M.dD, M.bC + 1, 0, M.bQ⟩, 0) := by
 have hl := h.len; have hf := h.fuse; have h0 := h.Ap; have h1 := h.cnt; have hoff := h.off
 have hix : ix M.xl r := ⟨h0r, by rw [hl]; omega⟩
 unfold jU
 rw [hl, E5 F hoff (by omega) (by omega), ob, show ((0 : Int) != 0) = false from rfl, cf, D8 F hf h0 (by omega), ob, Bool.not_true, cf, bY hix]
 unfold qL
 rw [bY hix, ob]
theorem Aw {M : aC} {a : Nat} {x : bV} {o : Bool} {c f : Int} {k : List Int} (ha : a < M.xl.length) (r : Nat) : rw_ ⟨dZ M.xl (a : Int) x, o, c, f, k⟩ r = if r = a then x else rw_ M r := by
 unfold rw_
 dsimp only
 rw [zN ⟨by omega, by omega⟩ (by omega)]
 by_cases h : r = a
 ·rw [if_pos (by rw [h]), if_pos h]
 ·rw [if_neg (by omega), if_neg h]
theorem UA (F : Nat) {M M' : aC} {R c : Nat} {w : Nat → Int} (h : Mem M R w c) (hR : R ≤ 4096) (hc : c ≤ 1000000000) {a : Nat} (ha : a < 8 * R) {v : Int} {e : Int} (he : jh F M (a : Int) v = some (M', e)) {D : Nat → Prop} (hD : yS D (fun _ => False) M) :
  yS (fun r => D r ∨ r = a / 8) (fun _ => False) M' := by
 rw [RQ F h hR hc ha v] at he
 injection he with he; injection he with he _
 subst he
 have hl := h.len
 intro r hr
 dsimp only at hr
 rw [aj] at hr
 rw [Aw (by omega)]
 by_cases hra : r = a / 8
 ·rw [if_pos hra]
  exact ⟨fun h => (by cases h), fun h => absurd (.inr hra) h, fun h => h.elim⟩
 ·rw [if_neg hra]
  obtain ⟨h1, h2, h3⟩ := hD r hr
  exact ⟨h1, fun h => h2 fun hd => h (.inl hd), fun h => h.elim⟩
theorem UC (F : Nat) {M M' : aC} {R c : Nat} {w : Nat → Int} (h : Mem M R w c) (hR : R ≤ 4096) (hc : c ≤ 1000000000) {q : Nat} (hq : q < R) {e : Int} (he : jU F M (q : Int) = some (M', e)) {D E : Nat → Prop} (hD : yS D E M) :
  yS D (fun r => E r ∨ r = q) M' := by
 rw [RS F h hR hc (by omega) (by omega)] at he
 injection he with he; injection he with he _
 subst he
 have hl := h.len
 intro r hr
 dsimp only at hr
 rw [aj] at hr
 rw [Aw (by omega)]
 obtain ⟨h1, h2, h3⟩ := hD r hr
 by_cases hra : r = q
 ·subst hra
  rw [if_pos rfl]
  exact ⟨h1, h2, fun _ h => by show ((rw_ M r).pO || (rw_ M r).rZ) = true; rw [show (rw_ M r).rZ = true from h, Bool.or_true]⟩
 ·rw [if_neg hra]
  exact ⟨h1, h2, fun h => h3 (h.resolve_right hra)⟩
theorem RU (F : Nat) {M M' : aC} {R c : Nat} {w : Nat → Int} (h : Mem M R w c) {q : Nat} (hq : q < R) {b : Bool} (he : mQ F M (q : Int) = some (M', b)) {D E : Nat → Prop} (hDE : ∀ r, D r → E r) (hD : yS D E M) :
  yS (fun r => D r ∧ r ≠ q) E M' := by
 have hl := h.len
 have hix : ix M.xl (q : Int) := ⟨by omega, by omega⟩
 obtain ⟨q1, q2, q3⟩ := hD q (by omega)
 have same : (rw_ M q).rZ = false → yS (fun r => D r ∧ r ≠ q) E M := fun ho r hr => by
  obtain ⟨h1, h2, h3⟩ := hD r hr
  refine ⟨h1, fun h => ?_, h3⟩
  by_cases hrq : r = q
  ·rw [hrq]; exact ho
  ·exact h2 fun hd => h ⟨hd, hrq⟩
 unfold mQ at he
 rw [bY hix] at he
 cases hs : (nth M.xl (q : Int)).pO
 ·rw [hs, cf] at he
  injection he with he; injection he with he _
  subst he
  refine same ?_
  cases ho : (rw_ M q).rZ with
  | false => rfl
  | true =>
   have hd : D q := by
    refine Classical.byContradiction fun hn => ?_
    rw [q2 hn] at ho; cases ho
   have := q3 (hDE q hd) ho
   rw [show (rw_ M q).pO = false from hs] at this; cases this
 ·rw [hs, ct] at he
  unfold mV at he
  rw [bY hix] at he
  cases ho : (nth M.xl (q : Int)).rZ
  ·rw [ho, Bool.not_false, ct, ob] at he
   injection he with he; injection he with he _
   subst he
   exact same ho
  ·rw [ho, Bool.not_true, cf, ob] at he
   injection he with he; injection he with he _
   subst he
   intro r hr
   dsimp only at hr
   rw [aj] at hr
   rw [Aw (by omega)]
   obtain ⟨h1, h2, h3⟩ := hD r hr
   by_cases hrq : r = q
   ·rw [if_pos hrq]
    exact ⟨fun _ => rfl, fun _ => rfl, fun _ h => (by cases h)⟩
   ·rw [if_neg hrq]
    exact ⟨h1, fun h => h2 fun hd => h ⟨hd, hrq⟩, h3⟩
theorem Xg (F : Nat) (x : aC × Bool) {R : Nat} (hx : x.1.xl.length = R) (hR : R ≤ 4096) (w : Nat → Int) (c : Nat) {D E : Nat → Prop} (hDE : ∀ r, D r → E r) :
  ∀ (n v : Nat) (M M' : aC) (e : Int), v ≤ R → Mem M R w c → yS (fun r => D r ∧ v ≤ r) E M → jR F x (fun v5 v6 v7 v8 v9 => some ((⟨v5, v6, v7, v8, v9⟩ : aC), (0 : Int))) n (v : Int) M.xl M.dD M.bC M.bP M.bQ = some (M', e) → Calm M' := by
 intro n
 induction n with
 | zero => intro v M M' e _ _ _ h; cases h
 | succ n ih =>
  intro v M M' e hvR h hD he
  unfold jR at he
  rw [hx] at he
  by_cases hv : v < R
  ·obtain ⟨M1, b, e1, h1⟩ := OG F h hv
   rw [dlt hv, ct, eU (by omega) (by rw [h.len]; omega), show (⟨M.xl, M.dD, M.bC, M.bP, M.bQ⟩ : aC) = M from rfl, e1, ob, cZ (by omega) (by omega), cs] at he
   refine ih (v + 1) M1 M' e (by omega) h1 ?_ he
   have := RU F h hv e1 (fun r hr => hDE r hr.1) hD
   intro r hr
   obtain ⟨a1, a2, a3⟩ := this r hr
   exact ⟨a1, fun hn => a2 fun hd => hn ⟨hd.1.1, by have := hd.1.2; have := hd.2; omega⟩, a3⟩
  ·rw [decide_eq_false (show ¬ ((v : Int) < ((R : Nat) : Int)) by omega), cf] at he
   injection he with he; injection he with he _
   subst he
   intro r hr
   have hr : r < M.xl.length := hr
   obtain ⟨a1, a2, a3⟩ := hD r hr
   exact ⟨a1, fun _ => a2 fun hd => by have := h.len; have := hd.2; omega, fun h => h.elim⟩
theorem UD (F : Nat) {M M' : aC} {R c : Nat} {w : Nat → Int} (h : Mem M R w c) (hR : R ≤ 4096) (hc : c ≤ 1000000000) {e : Int} (he : lI F M = some (M', e)) {D E : Nat → Prop} (hDE : ∀ r, D r → E r) (hD : yS D E M) : Calm M' := by
 have hl := h.len; have hf := h.fuse; have h0 := h.Ap; have h1 := h.cnt; have hoff := h.off
 unfold lI at he
 rw [E5 F hoff (by omega) (by omega), ob, show ((0 : Int) != 0) = false from rfl, cf, D8 F hf h0 (by omega), ob, Bool.not_true, cf, jn_] at he
 have h' : Mem (⟨M.xl, M.dD, M.bC + 1, 0, M.bQ⟩ : aC) R w (c + 1) := ⟨hl, h.wds, hoff, rfl, by dsimp only; omega, by dsimp only; omega⟩
 refine Xg F _ hl hR w (c + 1) hDE F 0 _ M' e (by omega) h' (fun r hr => ?_) he
 obtain ⟨a1, a2, a3⟩ := hD r hr
 exact ⟨a1, fun hn => a2 fun hd => hn ⟨hd, by omega⟩, a3⟩
end Go.V.P
set_option linter.unusedVariables false
set_option linter.unusedSimpArgs false
namespace Go.V.P
open Go.V Go.Proofs
theorem Xh {x : Int} {l : List Int} (h : x ∈ l) : x ∈ rD l := by
 obtain ⟨i, hi, rfl⟩ := List.getElem_of_mem h
 clear h
 have key : ∀ i (hi : i < l.length), l[i] ∈ rD l := by
  intro i
  induction i with
  | zero =>
   intro hi
   unfold rD Go.Lib.compact Go.Lib.compactUpTo
   exact List.mem_map.2 ⟨0, List.mem_filter.2 ⟨List.mem_range.2 hi, by simp [Go.Lib.keeps]⟩, by simp [hi]⟩
  | succ i ih =>
   intro hi
   by_cases hq : l[i + 1] = l[i]
   ·rw [hq]; exact ih (by omega)
   ·unfold rD Go.Lib.compact Go.Lib.compactUpTo
    refine List.mem_map.2 ⟨i + 1, List.mem_filter.2 ⟨List.mem_range.2 hi, ?_⟩, by simp [hi]⟩
    have h1 : i < l.length := by omega
    simp [Go.Lib.keeps, hi, h1, hq]
 exact key i hi
theorem Xi {x : Int} {l : List Int} (h : x ∈ l) : x ∈ qj l := by
 unfold qj
 exact List.mem_mergeSort.2 h
theorem YR (F : Nat) {R : Nat} {ws : List aB} (hR : R ≤ 4096) (h : JI R ws) (hl : ws.length ≤ 10000) (hF : ws.length < F) : ∃ l, oJ F ws = some l ∧ l.length ≤ ws.length ∧ (∀ x ∈ l, 0 ≤ x ∧ x < R) ∧ ∀ i : Nat, i < ws.length → (((nth ws (i : Int)).xAt.toNat / 8 : Nat) : Int) ∈ l := by
 have key : oJ F ws = some (rD (qj (tab ws.length (fun i => (nth ws (i : Int)).xAt / 8)))) := by
  unfold oJ
  rw [jn_]
  refine qw (fun n v l => kN F ws _ n v l) ws.length (fun v => tab v (fun i => (nth ws (i : Int)).xAt / 8)) _ (fun n v hv => ?_) (fun n => ?_) F 0 (by omega) (by omega)
  ·have hm : nth ws (v : Int) ∈ ws := by
    rw [jW ws hv]; exact List.getElem_mem hv
   obtain ⟨a1, a2⟩ := h _ hm
   conv => lhs; unfold kN
   rw [dlt hv, ct, jn_, eU (by omega) (by omega), decide_eq_true a1, ct, EH a1, wrap_small (by omega) (by omega), bY (by rw [aP]; simp only [List.length_cons, List.length_nil]; omega)]
   dsimp only
   rw [cZ (by omega) (by omega), cs, oG]
  ·conv => lhs; unfold kN
   rw [dge, cf, bY (by rw [aP]; omega), bY (by rw [ah, aP]; omega)]
 refine ⟨_, key, ?_, fun x hx => ?_, fun i hi => Xh (Xi ?_)⟩
 ·refine Nat.le_trans (Gn _) ?_
  rw [ah, aP]
  exact Nat.le_refl _
 ·have := OI (OH hx)
  unfold tab at this
  obtain ⟨i, hi, rfl⟩ := List.mem_map.1 this
  have hi := List.mem_range.1 hi
  have hm : nth ws (i : Int) ∈ ws := by rw [jW ws hi]; exact List.getElem_mem hi
  obtain ⟨a1, a2⟩ := h _ hm
  omega
 ·have hm : nth ws (i : Int) ∈ ws := by rw [jW ws hi]; exact List.getElem_mem hi
  obtain ⟨a1, a2⟩ := h _ hm
  unfold tab
  exact List.mem_map.2 ⟨i, List.mem_range.2 hi, by omega⟩
theorem YS (F : Nat) {R : Nat} {ws : List aB} (hR : R ≤ 4096) (hfit : JI R ws) (hl : ws.length ≤ 10000) (k : List bV → Bool → Int → Int → List Int → Option (aC × Int)) (c0 : Nat) (M' : aC) (e : Int)
  (hk : ∀ M w, Mem M R w (c0 + ws.length) → yS (fun r => ∃ i, i < ws.length ∧ r = (nth ws ((i : Nat) : Int)).xAt.toNat / 8) (fun _ => False) M → k M.xl M.dD M.bC M.bP M.bQ = some (M', e) → Calm M') (hc : c0 ≤ 100000000) :
  ∀ (n v : Nat) (M : aC) (w : Nat → Int), v ≤ ws.length → Mem M R w (c0 + v) → yS (fun r => ∃ i, i < v ∧ r = (nth ws ((i : Nat) : Int)).xAt.toNat / 8) (fun _ => False) M → lV F ws k n (v : Int) M.xl M.dD M.bC M.bP M.bQ = some (M', e) → Calm M' := by
 intro n
 induction n with
 | zero => intro v M w _ _ _ h; cases h
 | succ n ih =>
  intro v M w hv0 h hD he
  unfold lV at he
  by_cases hv : v < ws.length
  ·have hm : nth ws (v : Int) ∈ ws := by rw [jW ws hv]; exact List.getElem_mem hv
   obtain ⟨a1, a2⟩ := hfit _ hm
   obtain ⟨M1, e1, h1⟩ := Rt F h hR (by omega) (a := (nth ws (v : Int)).xAt.toNat) (by omega) (nth ws (v : Int)).xV
   have hc1 := UA F h hR (by omega) (by omega) e1 hD
   rw [show (((nth ws (v : Int)).xAt.toNat : Nat) : Int) = (nth ws (v : Int)).xAt by omega] at e1
   rw [dlt hv, ct, eU (by omega) (by omega), show (⟨M.xl, M.dD, M.bC, M.bP, M.bQ⟩ : aC) = M from rfl, e1, ob, show ((0 : Int) != 0) = false from rfl, cf, cZ (by omega) (by omega), cs] at he
   refine ih (v + 1) M1 _ (by omega) (by rw [show c0 + (v + 1) = c0 + v + 1 by omega]; exact h1) (fun r hr => ?_) he
   obtain ⟨b1, b2, b3⟩ := hc1 r hr
   refine ⟨b1, fun hn => b2 fun hd => hn ?_, b3⟩
   rcases hd with ⟨i, hi, rfl⟩ | rfl
   ·exact ⟨i, by omega, rfl⟩
   ·exact ⟨v, by omega, rfl⟩
  ·have : v = ws.length := by omega
   subst this
   rw [dge, cf] at he
   exact hk M w h hD he
theorem YT (F : Nat) {R : Nat} (hR : R ≤ 4096) {rows : List Int} (hr : ∀ x ∈ rows, 0 ≤ x ∧ x < R) (hl : rows.length ≤ 10000) (k : List bV → Bool → Int → Int → List Int → Option (aC × Int)) (c0 : Nat) (D : Nat → Prop) (M' : aC) (e : Int)
  (hk : ∀ M w, Mem M R w (c0 + rows.length) → yS D (fun r => (r : Int) ∈ rows) M → k M.xl M.dD M.bC M.bP M.bQ = some (M', e) → Calm M') (hc : c0 ≤ 100000000) :
  ∀ (n v : Nat) (M : aC) (w : Nat → Int), v ≤ rows.length → Mem M R w (c0 + v) → yS D (fun r => (r : Int) ∈ rows.take v) M → lW F k rows n (v : Int) M.xl M.dD M.bC M.bP M.bQ = some (M', e) → Calm M' := by
 intro n
 induction n with
 | zero => intro v M w _ _ _ h; cases h
 | succ n ih =>
  intro v M w hv0 h hD he
  unfold lW at he
  by_cases hv : v < rows.length
  ·have hm : nth rows (v : Int) ∈ rows := by rw [jW rows hv]; exact List.getElem_mem hv
   obtain ⟨a1, a2⟩ := hr _ hm
   obtain ⟨M1, e1, h1⟩ := Ru F h hR (by omega) a1 a2
   have e1' := e1
   rw [show nth rows (v : Int) = (((nth rows (v : Int)).toNat : Nat) : Int) by omega] at e1'
   have hc1 := UC F h hR (by omega) (by omega) e1' hD
   rw [dlt hv, ct, eU (by omega) (by omega), show (⟨M.xl, M.dD, M.bC, M.bP, M.bQ⟩ : aC) = M from rfl, e1, ob, show ((0 : Int) != 0) = false from rfl, cf, cZ (by omega) (by omega), cs] at he
   refine ih (v + 1) M1 w (by omega) (by rw [show c0 + (v + 1) = c0 + v + 1 by omega]; exact h1) (fun r hr => ?_) he
   obtain ⟨b1, b2, b3⟩ := hc1 r hr
   refine ⟨b1, b2, fun hm2 => b3 ?_⟩
   rw [List.take_succ_eq_append_getElem hv] at hm2
   rcases List.mem_append.1 hm2 with h2 | h2
   ·exact .inl h2
   ·rw [List.mem_singleton, ← jW rows hv] at h2
    exact .inr (by omega)
  ·have : v = rows.length := by omega
   subst this
   rw [dge, cf] at he
   rw [List.take_length] at hD
   exact hk M w h hD he
theorem Xj (F : Nat) {M M' : aC} {R c : Nat} {w : Nat → Int} (h : Mem M R w c) (hR : R ≤ 4096) {ws : List aB} (hfit : JI R ws) (hl : ws.length ≤ 10000) (hF : ws.length < F) (hF2 : R < F) (hc : c ≤ 10000000) {e : Int} (hM : Calm M) (he : rE F M ws = some (M', e)) : Calm M' := by
 obtain ⟨rows, e0, hlr, hr, hall⟩ := YR F hR hfit hl hF
 unfold rE at he
 rw [jn_] at he
 refine YS F hR hfit hl _ c M' e (fun M1 w1 hM1 hD1 he1 => ?_) (by omega) F 0 M w (by omega) h (fun r hr => ?_) he
 ·rw [jn_, e0, ob] at he1
  refine YT F hR hr (by omega) _ (c + ws.length) (fun r => ∃ i, i < ws.length ∧ r = (nth ws ((i : Nat) : Int)).xAt.toNat / 8) M' e (fun M2 w2 hM2 hD2 he2 => ?_) (by omega) F 0 M1 w1 (by omega) hM1 (fun r hr => ?_) he1
  ·obtain ⟨M3, e3, h3⟩ := Rw F hM2 hR hF2 (by omega)
   rw [show (⟨M2.xl, M2.dD, M2.bC, M2.bP, M2.bQ⟩ : aC) = M2 from rfl, e3, ob] at he2
   injection he2 with he2; injection he2 with he2 _
   rw [← he2]
   exact UD F hM2 hR (by omega) e3 (fun r ⟨i, hi, hri⟩ => by rw [hri]; exact hall i hi) hD2
  ·obtain ⟨b1, b2, b3⟩ := hD1 r hr
   exact ⟨b1, b2, fun h => by simp at h⟩
 ·obtain ⟨b1, b2, b3⟩ := hM r hr
  exact ⟨b1, fun _ => b2 fun h => h, b3⟩
theorem YU (F : Nat) {R : Nat} {l : List (List aB)} (hR : R ≤ 4096) (hF : R < F) (hF2 : 1000 ≤ F) (hfit : ∀ ws ∈ l, JI R ws ∧ ws.length ≤ 900) (hl : l.length ≤ 100) (k : List bV → Bool → Int → Int → List Int → Option (aC × Option aW × Int)) (c0 : Nat) (M' : aC) (o : Option aW × Int)
  (hk : ∀ M, Calm M → k M.xl M.dD M.bC M.bP M.bQ = some (M', o) → Calm M') (hc : c0 ≤ 1000000) :
  ∀ (n v : Nat) (M : aC) (w : Nat → Int), v ≤ l.length → Mem M R w (c0 + 2000 * v) → Calm M → lX F k l n (v : Int) M.xl M.dD M.bC M.bP M.bQ = some (M', o) → Calm M' := by
 intro n
 induction n with
 | zero => intro v M w _ _ _ h; cases h
 | succ n ih =>
  intro v M w hv0 h hM he
  unfold lX at he
  by_cases hv : v < l.length
  ·have hm : nth l (v : Int) ∈ l := by rw [jW l hv]; exact List.getElem_mem hv
   obtain ⟨a1, a2⟩ := hfit _ hm
   obtain ⟨M1, e, h'⟩ := VP F h hR a1 (by omega) (by omega) hF (by omega)
   have hcm := Xj F h hR a1 (by omega) (by omega) hF (by omega) hM e
   rw [dlt hv, ct, eU (by omega) (by omega), show (⟨M.xl, M.dD, M.bC, M.bP, M.bQ⟩ : aC) = M from rfl, e, ob, show ((0 : Int) != 0) = false from rfl, cf, cZ (by omega) (by omega), cs] at he
   exact ih (v + 1) M1 _ (by omega) ⟨h'.len, h'.wds, h'.off, h'.fuse, h'.Ap, by have := h'.cnt; omega⟩ hcm he
  ·have : v = l.length := by omega
   subst this
   rw [dge, cf] at he
   exact hk M hM he
theorem Xk (F : Nat) (hF : 10000 ≤ F) {g : aJ} {w : Nat → Int} {p : gQ} {D : Nat → aV} (hu : ∀ i, i < N1 g → u64 (w i)) (h : Il F w (N1 g) p g D) (hr : nD F (tab (N1 g) w) = some (p, true)) {M M' : aC} {G : Option aW} {e : Int} {c : Nat} (hc : c ≤ 1000000) (hM : Mem M (N1 g / 8) w c) (hC : Calm M) (he : lY F M = some (M', G, e)) : Calm M' := by
 have hg := h.gg
 have t1 := hg.t1; have t2 := hg.t2; have c8 := C8 hg
 obtain ⟨hAB, hBC, hN⟩ := AC g
 have hA : A1 g = 16 + 1208 * g.ak.toNat := rfl
 have wL : ∀ i, i < g.ak.toNat → DG g (D i) ∧ ∀ y ∈ (D i).xW, u64 y.xV := fun i hi => pR.facts (by omega) hg (fun j hj => hu _ (by have := N8 g hi; omega)) (h.desc i hi)
 have tY : gK F M = some (tab (N1 g) w) := by
  rw [wo F hM (by omega) (by omega), show 8 * (N1 g / 8) = N1 g by omega]
 unfold lY jC at he
 rw [hM.off, ob, cf, tY, ob, hr, ob, Bool.not_true, cf, jn_, YN F (by omega) hg h.geo h.was (fun v hv => (wL v hv).1), ob] at he
 obtain ⟨hfit, hsl⟩ := V3 (F := F) (by omega) hu h
 refine YU F (R := N1 g / 8) (by omega) (by omega) (by omega) hfit (by omega) _ c M' (G, e) (fun M1 hM1 he1 => ?_) hc F 0 M w (by omega) (by simpa using hM) hC (by rw [hM.off]; exact he)
 rw [show (⟨M1.xl, M1.dD, M1.bC, M1.bP, M1.bQ⟩ : aC) = M1 from rfl] at he1
 obtain ⟨x, hx, he1⟩ := aG he1
 obtain ⟨x1, x2⟩ := x
 cases x1 with
 | none =>
  unfold Eo at he1
  injection he1 with he1; injection he1 with he1 _
  rw [← he1]; exact hM1
 | some o =>
  rw [oc_] at he1
  injection he1 with he1; injection he1 with he1 _
  rw [← he1]; exact hM1
end Go.V.P
set_option linter.unusedVariables false
set_option linter.unusedSimpArgs false
namespace Go.V.P
open Go.V Go.Proofs
theorem V5 (F : Nat) {M : aC} {R c : Nat} {w : Nat → Int} (h : Mem M R w c) (hR : R ≤ 4096) {a : Nat} (ha : a < 8 * R) : lH F M (a : Int) = some (wd M a, 0) := by
 have hl := h.len
 have hix : ix M.xl ((a / 8 : Nat) : Int) := ⟨by omega, by rw [hl]; omega⟩
 unfold lH
 rw [hl, cZ (by omega) (by omega), E5 F h.off (by omega) (by omega), ob, show ((0 : Int) != 0) = false from rfl, cf, EH (by omega), I7 (by omega), wrap_small (by omega) (by omega), show ((a : Int) / 8) = ((a / 8 : Nat) : Int) by omega, bY hix]
 unfold uM xO
 rw [bY hix, ob, decide_eq_true (show (0 : Int) ≤ (a : Int) % 8 by omega), decide_eq_true (show (a : Int) % 8 < 8 by omega), show (!(true && true)) = false from rfl, cf, bY (by omega), ob, show ((a : Int) % 8).toNat = a % 8 by omega]
 rfl
structure Mid (M0 M : aC) (R c : Nat) : Prop where
 len : M.xl.length = R
 off : M.dD = false
 fuse : M.bP = 0
 Ap : 0 ≤ M.bC
 cnt : M.bC ≤ c
 other : ∀ r : Nat, r < R → r ≠ 2 → rw_ M r = rw_ M0 r
 lasts : (rw_ M 2).jl = (rw_ M0 2).xNew
 still : (rw_ M 2).rZ = false → (rw_ M 2).xNew = (rw_ M0 2).xNew
theorem Mid.mem {M0 M : aC} {R c : Nat} (h : Mid M0 M R c) : Mem M R (wd M) c := ⟨h.len, fun _ _ => rfl, h.off, h.fuse, h.Ap, h.cnt⟩
theorem Mid.store (F : Nat) {M0 M : aC} {R c : Nat} (h : Mid M0 M R c) (hR : R ≤ 4096) (hR3 : 3 ≤ R) (hc : c ≤ 1000000) {a : Nat} (ha : 16 ≤ a) (ha2 : a ≤ 23) (v : Int) : ∃ M', jh F M (a : Int) v = some (M', 0) ∧ Mid M0 M' R (c + 1) := by
 have hl := h.len; have h0 := h.Ap; have h1 := h.cnt
 refine ⟨_, RQ F h.mem hR (by omega) (by omega) v, by dsimp only; rw [aj]; exact hl, h.off, rfl, by dsimp only; omega, by dsimp only; omega, fun r hr h2 => ?_, ?_, ?_⟩
 ·rw [Aw (by omega), if_neg (by omega)]; exact h.other r hr h2
 ·rw [Aw (by omega), if_pos (by omega), show a / 8 = 2 by omega]; exact h.lasts
 ·rw [Aw (by omega), if_pos (by omega)]; intro h; cases h
theorem Mid.flush (F : Nat) {M0 M : aC} {R c : Nat} (h : Mid M0 M R c) (hR : R ≤ 4096) (hR3 : 3 ≤ R) (hc : c ≤ 1000000) : ∃ M', jU F M 2 = some (M', 0) ∧ Mid M0 M' R (c + 1) := by
 have hl := h.len; have h0 := h.Ap; have h1 := h.cnt
 refine ⟨_, RS F h.mem hR (by omega) (by omega) (by omega), by dsimp only; rw [aj]; exact hl, h.off, rfl, by dsimp only; omega, by dsimp only; omega, fun r hr h2 => ?_, ?_, ?_⟩
 ·rw [show (2 : Int) = ((2 : Nat) : Int) from rfl, Aw (by omega), if_neg h2]; exact h.other r hr h2
 ·rw [show (2 : Int) = ((2 : Nat) : Int) from rfl, Aw (by omega), if_pos rfl]; exact h.lasts
 ·rw [show (2 : Int) = ((2 : Nat) : Int) from rfl, Aw (by omega), if_pos rfl]; exact h.still
theorem Mid.refl {M : aC} {R c : Nat} {w : Nat → Int} (h : Mem M R w c) (hR3 : 3 ≤ R) (hC : Calm M) : Mid M M R c := by
 obtain ⟨h1, h2, h3⟩ := hC 2 (by rw [h.len]; omega)
 exact ⟨h.len, h.off, h.fuse, h.Ap, h.cnt, fun _ _ _ => rfl, h1 (h2 fun h => h), fun _ => rfl⟩
def abx (x : bI) : Prop := (x.OL = 0 ∧ 16 ≤ x.xat ∧ x.xat ≤ 23) ∨ (x.OL = 1 ∧ x.xat = 2)
theorem aby (F : Nat) {M0 : aC} {G : aW} {R c : Nat} (h : Mid M0 G.xm R c) (hR : R ≤ 4096) (hR3 : 3 ≤ R) (hc : c ≤ 1000000) {x : bI} (hx : abx x) (ho : G.cu.length ≤ c) (thread : Int) :
  Tot (rG F G thread x) fun r => r.2 = 0 ∧ Mid M0 r.1.xm R (c + 1) ∧ r.1.dB = G.dB ∧ r.1.xw = G.xw ∧ r.1.fP = G.fP ∧ r.1.cu.length ≤ c + 1 := by
 unfold rG
 rcases hx with ⟨hk, h1, h2⟩ | ⟨hk, h1⟩
 ·rw [hk]
  refine gJ (fun h => by cases h) fun _ => gJ (fun h => by cases h) fun _ => ?_
  obtain ⟨M', e, hM'⟩ := h.store F hR hR3 hc (a := x.xat.toNat) (by omega) (by omega) x.xv
  rw [show ((x.xat.toNat : Nat) : Int) = x.xat by omega] at e
  refine iQ e (lC (iR (P7 F G.dB thread) fun x8 _ => gJ (fun _ => dF (by simp only [List.length_cons, List.length_nil]; omega) (bZ ⟨rfl, hM', rfl, rfl, rfl, ?_⟩)) fun _ => bZ ⟨rfl, hM', rfl, rfl, rfl, by dsimp only; omega⟩))
  dsimp only
  rw [List.length_append]; simp only [List.length_cons, List.length_nil]; omega
 ·rw [hk]
  refine gJ (fun _ => ?_) fun h => by cases h
  obtain ⟨M', e, hM'⟩ := h.flush F hR hR3 hc
  rw [h1]
  exact iQ e (bZ ⟨rfl, hM', rfl, rfl, rfl, by dsimp only; omega⟩)
structure YV (M0 : aC) (R c0 : Nat) (d : aV) (ops : List bI) (v : Nat) (G : aW) : Prop where
 mem : Mid M0 G.xm R (c0 + v)
 geo : G.dB = iP
 w : G.xw = [⟨1, d, ops.drop v⟩, sN]
 dead : G.fP = false
 order : G.cu.length ≤ c0 + v
theorem YW (F : Nat) (hF : 100 ≤ F) {M0 : aC} {R c0 v : Nat} {d : aV} {ops : List bI} {G : aW} (h : YV M0 R c0 d ops v G) (hR : R ≤ 4096) (hR3 : 3 ≤ R) (hc : c0 ≤ 100000) (hv : v ≤ 100) (hvl : v < ops.length) (hx : abx (nth ops (v : Int))) :
  Tot (pU F G 0) fun r => YV M0 R c0 d ops (v + 1) r.1 := by
 obtain ⟨⟨xl, dD, bC, bP, bQ⟩, dB, xw, cu, fP⟩ := G
 obtain ⟨hm, hg, hw, hd, ho⟩ := h
 dsimp only at hm hg hw hd ho
 subst hg; subst hw; subst hd
 have hoff : dD = false := hm.off
 have hmay : jy F ⟨⟨xl, dD, bC, bP, bQ⟩, iP, [⟨1, d, ops.drop v⟩, sN], cu, false⟩ 0 = some 0 := by
  unfold jy jC
  rw [hoff]; rfl
 have hlen : 0 < (ops.drop v).length := by rw [List.length_drop]; omega
 have hn0 : nth (ops.drop v) 0 = nth ops (v : Int) := by
  rw [jW ops hvl, show (0 : Int) = ((0 : Nat) : Int) from rfl, jW _ hlen]
  simp
 have hcut : cut (ops.drop v) 1 (((ops.drop v).length : Nat) : Int) = ops.drop (v + 1) := by
  unfold cut
  rw [show (1 : Int).toNat = 1 from rfl, Int.toNat_natCast, List.drop_drop]
  exact List.take_of_length_le (by simp; omega)
 have n0 : nth ([⟨1, d, ops.drop v⟩, sN] : List aY) 0 = ⟨1, d, ops.drop v⟩ := rfl
 have s0 : ∀ x : aY, dZ ([⟨1, d, ops.drop v⟩, sN] : List aY) 0 x = [x, sN] := fun x => rfl
 have hix2 : ix ([⟨1, d, ops.drop v⟩, sN] : List aY) 0 := ⟨by decide, by show (0 : Int) < ((2 : Nat) : Int); decide⟩
 have acS : ix ([⟨1, d, ops.drop (v + 1)⟩, sN] : List aY) 0 := ⟨by decide, by show (0 : Int) < ((2 : Nat) : Int); decide⟩
 have hstep : Tot (pV F ⟨⟨xl, dD, bC, bP, bQ⟩, iP, [⟨1, d, ops.drop v⟩, sN], cu, false⟩ 0) fun r => r.2 = 0 ∧ YV M0 R c0 d ops (v + 1) r.1 := by
  obtain ⟨n, rfl⟩ : ∃ n, F = n + 1 := ⟨F - 1, by omega⟩
  unfold pV
  refine dF hix2 ?_
  unfold jE
  rw [n0]
  dsimp only
  refine dF hix2 ?_
  rw [decide_eq_true (by omega : (0 : Int) < (((ops.drop v).length : Nat) : Int)), ct, hn0, hcut, s0]
  refine dF ⟨by omega, by omega⟩ (dF ⟨by omega, by omega, by omega⟩ ?_)
  refine iR (aby (n + 1) (M0 := M0) (G := ⟨⟨xl, dD, bC, bP, bQ⟩, iP, [⟨1, d, ops.drop (v + 1)⟩, sN], cu, false⟩) hm hR hR3 (by omega) hx ho 0) fun r hr => ?_
  obtain ⟨r1, r2, r3, r4, r5, r6⟩ := hr
  exact bZ ⟨r1, by rw [show c0 + v + 1 = c0 + (v + 1) by omega] at r2; exact r2, r3, r4, r5, by rw [show c0 + v + 1 = c0 + (v + 1) by omega] at r6; exact r6⟩
 unfold pU
 rw [n0]
 refine iQ hmay (gJ (fun h => by cases h) fun _ => dF hix2 (gJ (fun h => by cases h) fun _ => lC ?_))
 refine iQ (CG F wu) (iQ (V5 F (a := 8) hm.mem hR (by omega)) (lC (dF hix2 (gJ (fun h => by cases h) fun _ => ?_))))
 refine iR hstep fun x9 hx9 => ?_
 obtain ⟨e9, h9⟩ := hx9
 rw [e9, h9.w]
 refine gJ (fun h => by cases h) fun _ => dF acS (gJ (fun _ => bZ h9) fun h => by cases h)
theorem YX (F : Nat) {M0 M : aC} {R c : Nat} (h : Mid M0 M R c) (hF : R < F) (hR : R ≤ 4096) (hC : Calm M0) (hl0 : M0.xl.length = R) : Tot (oC F M []) fun r => r.dD = true ∧ r.bP = 0 ∧ 0 ≤ r.bC ∧ r.bC ≤ c ∧ r.xl.length = R ∧ ∀ q : Nat, q < R → (rw_ r q).xNew = (rw_ M0 q).xNew := by
 have hl := h.len
 unfold oC
 rw [h.off, cf]
 refine lC ?_
 refine lu (σ := List bV × Bool × Int × Int × List Int) (fun n v s => jr F M [] _ n v s.1 s.2.1 s.2.2.1 s.2.2.2.1 s.2.2.2.2) R
  (fun v s => s.1.length = R ∧ s.2.2.1 = M.bC ∧ (∀ q : Nat, q < v → (nth s.1 (q : Int)).xNew = (rw_ M0 q).xNew) ∧ ∀ q : Nat, v ≤ q → q < R → nth s.1 (q : Int) = rw_ M q) (fun n v s hv hI hk => ?_) (fun n s hI => ?_) F 0 (M.xl, false, M.bC, M.bP, M.bQ) (by omega) (by omega) ⟨hl, rfl, fun q hq => by omega, fun q _ _ => rfl⟩
 ·obtain ⟨rl, o, ct', f, kp⟩ := s
  show Tot (jr F M [] _ (n + 1) v rl o ct' f kp) _
  obtain ⟨i1, i2, i3, i4⟩ := hI
  dsimp only at i1 i2 i3 i4
  have hix : ix rl (v : Int) := ⟨by omega, by rw [i1]; omega⟩
  have hcont : nZ F [] (v : Int) = some false := by
   obtain ⟨m, rfl⟩ : ∃ m, F = m + 1 := ⟨F - 1, by omega⟩
   rfl
  unfold jr
  rw [hl, dlt hv, ct]
  refine dF hix (iQ hcont ?_)
  have hrow : nth rl (v : Int) = rw_ M v := i4 v (Nat.le_refl _) hv
  have key : ∃ x' : aC × Bool, rH F ⟨rl, o, ct', f, kp⟩ (v : Int) false = some x' ∧ x'.1.bC = ct' ∧ x'.1.xl.length = R ∧ (nth x'.1.xl (v : Int)).xNew = (rw_ M0 v).xNew ∧ ∀ q : Nat, q ≠ v → nth x'.1.xl (q : Int) = nth rl (q : Int) := by
   unfold rH
   rw [bY hix]
   cases hout : (nth rl (v : Int)).rZ
   ·rw [show (false || !false) = true from rfl, ct]
    unfold mV
    rw [bY hix, hout, Bool.not_false, ct, ob]
    refine ⟨_, rfl, rfl, i1, ?_, fun q _ => rfl⟩
    show (nth rl (v : Int)).xNew = _
    by_cases h2 : v = 2
    ·subst h2
     rw [hrow] at hout ⊢
     exact h.still hout
    ·rw [hrow, h.other v hv h2]
   ·rw [show (false || !true) = false from rfl, cf]
    refine ⟨_, rfl, rfl, by dsimp only; rw [aj]; exact i1, ?_, fun q hq => ?_⟩
    ·dsimp only
     rw [Gm hix]
     show (nth rl (v : Int)).jl = _
     by_cases h2 : v = 2
     ·subst h2
      rw [hrow]; exact h.lasts
     ·rw [hrow, h.other v hv h2]
      obtain ⟨c1, c2, _⟩ := hC v (by omega)
      exact c1 (c2 fun h => h)
    ·dsimp only
     rw [zN hix (by omega), if_neg (by omega)]
  obtain ⟨x', e', k1, k2, k3, k4⟩ := key
  refine iQ e' (dF ⟨by omega, by omega⟩ ?_)
  rw [cs]
  refine hk (x'.1.xl, x'.1.dD, x'.1.bC, x'.1.bP, x'.1.bQ) ⟨k2, by dsimp only; rw [k1, i2], fun q hq => ?_, fun q hq1 hq2 => ?_⟩
  ·by_cases hqv : q = v
   ·subst hqv; exact k3
   ·show (nth x'.1.xl (q : Int)).xNew = _
    rw [k4 q hqv]; exact i3 q (by omega)
  ·show nth x'.1.xl (q : Int) = _
   rw [k4 q (by omega)]; exact i4 q (by omega) hq2
 ·obtain ⟨rl, o, ct', f, kp⟩ := s
  show Tot (jr F M [] _ (n + 1) _ rl o ct' f kp) _
  obtain ⟨i1, i2, i3, i4⟩ := hI
  dsimp only at i1 i2 i3 i4
  unfold jr
  rw [hl, dge, cf]
  have := h.Ap; have := h.cnt
  exact bZ ⟨rfl, rfl, by dsimp only; omega, by dsimp only; omega, i1, fun q hq => i3 q hq⟩
end Go.V.P
set_option linter.unusedVariables false
set_option linter.unusedSimpArgs false
namespace Go.V.P
open Go.V Go.Proofs
theorem aaV : rD (qj [2]) = [2] := by
 unfold qj
 rw [List.mergeSort_singleton]
 rfl
theorem UE (F : Nat) (hF : 10 ≤ F) : Tot (nO F [16]) fun r => r = [⟨1, 2, 0⟩, ⟨2, 0, 0⟩] := by
 unfold nO
 refine lC ?_
 refine lu (fun n v l => jJ F [16] _ n v l) 1 (fun v l => l = if v = 0 then [16] else [2]) (fun n v l hv hI hk => ?_) (fun n l hI => ?_) F 0 [16] (by omega) (by omega) rfl
 ·obtain rfl : v = 0 := by omega
  obtain rfl : l = [16] := hI
  show Tot (jJ F [16] _ (n + 1) ((0 : Nat) : Int) [16]) _
  unfold jJ
  refine gJ (fun _ => dF (by decide) (dF (by decide) (dF (by decide) ?_))) fun h => by cases h
  rw [cs]
  exact hk _ rfl
 ·obtain rfl : l = [2] := hI
  show Tot (jJ F [16] _ (n + 1) ((1 : Nat) : Int) [2]) _
  unfold jJ
  refine gJ (fun h => by cases h) fun _ => dF (by decide) (lC (dF (by rw [ah]; decide) ?_))
  refine lu (fun n v l => jK F [2] _ n v l) 1 (fun v l => l = if v = 0 then [] else [⟨1, 2, 0⟩]) (fun n v l hv hI hk => ?_) (fun n l hI => ?_) F 0 [] (by omega) (by omega) rfl
  ·obtain rfl : v = 0 := by omega
   obtain rfl : l = [] := hI
   show Tot (jK F [2] _ (n + 1) ((0 : Nat) : Int) []) _
   unfold jK
   rw [aaV]
   refine gJ (fun _ => dF (by decide) (dF (by decide) (dF (by decide) ?_))) fun h => by cases h
   rw [cs]
   exact hk _ rfl
  ·obtain rfl : l = [⟨1, 2, 0⟩] := hI
   show Tot (jK F [2] _ (n + 1) ((1 : Nat) : Int) [⟨1, 2, 0⟩]) _
   unfold jK
   rw [aaV]
   refine gJ (fun h => by cases h) fun _ => dF (by decide) (bZ rfl)
theorem OM (F : Nat) {M : aC} (h : M.dD = false) : jy F ⟨M, iP, [sN, sN], [], false⟩ 0 = some 0 := by
 unfold jy jC
 dsimp only
 rw [h]; rfl
def CP (l : V4 Int) (f : Int) : List bI := [⟨0, 17, l.c0⟩, ⟨0, 18, l.c1⟩, ⟨0, 19, l.c2⟩, ⟨0, 20, l.c3⟩, ⟨0, 16, f⟩, ⟨1, 2, 0⟩, ⟨2, 0, 0⟩]
theorem Xl (l : V4 Int) (f : Int) (v : Nat) (hv : v < 6) : abx (nth (CP l f) (v : Int)) := by
 have : v = 0 ∨ v = 1 ∨ v = 2 ∨ v = 3 ∨ v = 4 ∨ v = 5 := by omega
 rcases this with rfl | rfl | rfl | rfl | rfl | rfl
 ·exact .inl ⟨rfl, by show (16 : Int) ≤ 17; decide, by show (17 : Int) ≤ 23; decide⟩
 ·exact .inl ⟨rfl, by show (16 : Int) ≤ 18; decide, by show (18 : Int) ≤ 23; decide⟩
 ·exact .inl ⟨rfl, by show (16 : Int) ≤ 19; decide, by show (19 : Int) ≤ 23; decide⟩
 ·exact .inl ⟨rfl, by show (16 : Int) ≤ 20; decide, by show (20 : Int) ≤ 23; decide⟩
 ·exact .inl ⟨rfl, by show (16 : Int) ≤ 16; decide, by show (16 : Int) ≤ 23; decide⟩
 ·exact .inr ⟨rfl, rfl⟩
theorem aan (F : Nat) (hF : 100 ≤ F) {M : aC} {R c : Nat} {w : Nat → Int} (h : Mem M R w c) (hR : R ≤ 4096) (hR3 : 3 ≤ R) (hC : Calm M) (hw : w 16 = 0) (l : V4 Int) :
  Tot (qN F ⟨M, iP, [sN, sN], [], false⟩ 0 1 [l.c0, l.c1, l.c2, l.c3]) fun r => r.2 = 0 ∧ ∃ d f, YV M R c d (CP l f) 0 r.1 := by
 unfold qN
 have hix : ix ([sN, sN] : List aY) 0 := ⟨by decide, by decide⟩
 have hd := pK F wu (v := 0) (by decide)
 rw [show ((0 : Nat) : Int) = 0 from rfl, show (16 + 1208 * 0 : Nat) = 16 from rfl] at hd
 refine iQ (OM F h.off) (gJ (fun h => by cases h) fun _ => iQ hd (iQ (V5 F h hR (a := 16) (by omega)) (gJ (fun h => by cases h) fun _ => dF hix (gJ (fun h => by cases h) fun _ => ?_))))
 dsimp only
 rw [h.wds 16 (by omega), hw]
 refine gJ (fun h => by cases h) fun _ => dF (by show 4 ≤ 4; omega) (lC ?_)
 refine lu (fun n v s => jv F [l.c0, l.c1, l.c2, l.c3] (((16 : Nat) : Int), 1208) _ n v s) 4 (fun v s => s = (CP l 0).take v) (fun n v s hv hI hk => ?_) (fun n s hI => ?_) F 0 [] (by omega) (by omega) rfl
 ·subst hI
  show Tot (jv F [l.c0, l.c1, l.c2, l.c3] (((16 : Nat) : Int), 1208) _ (n + 1) (v : Int) _) _
  unfold jv
  have hl : ((CP l 0).take v).length = v := by rw [List.length_take]; exact Nat.min_eq_left (by show v ≤ 7; omega)
  have aaW : ([l.c0, l.c1, l.c2, l.c3] : List Int).length = 4 := rfl
  rw [aaW, decide_eq_true (by omega : (v : Int) < ((4 : Nat) : Int)), ct]
  refine dF ⟨by omega, by rw [aaW]; omega⟩ (dF (by decide) (dF ⟨by dsimp only; omega, by dsimp only; omega⟩ (dF (by rw [hl]; simp only [List.length_cons, List.length_nil]; omega) (dF ⟨by omega, by omega⟩ ?_))))
  rw [cs]
  refine hk _ ?_
  have : v = 0 ∨ v = 1 ∨ v = 2 ∨ v = 3 := by omega
  rcases this with rfl | rfl | rfl | rfl <;> rfl
 ·obtain rfl : s = (CP l 0).take 4 := hI
  show Tot (jv F [l.c0, l.c1, l.c2, l.c3] (((16 : Nat) : Int), 1208) _ (n + 1) ((4 : Nat) : Int) _) _
  unfold jv
  refine gJ (fun h => by cases h) fun _ => iR (RP F (by omega) _) fun x12 _ => dF (by simp [CP]) (lC ?_)
  refine iR (UE F (by omega)) fun x17 h17 => ?_
  subst h17
  refine dF (by simp [CP]) (dF hix (bZ ⟨rfl, (⟨1, 1, l, ⟨0, 0, 0⟩, []⟩ : aV), x12, ⟨?_, rfl, ?_, rfl, by show (0 : Nat) ≤ _; omega⟩⟩))
  ·have := Mid.refl h hR3 hC
   simpa using this
  ·rfl
theorem abz (t : Nat) (size : Int) (i : Nat) : thU (tf t size i) := by
 have z : ∀ x : aH, x.lD = 0 → x.dn = ⟨0, 0, 0, 0⟩ → thU x := fun x h1 h2 => by
  unfold thU; rw [h1, h2]; exact ⟨u0, u0, u0, u0, u0⟩
 unfold tf
 split
 ·exact z _ rfl rfl
 ·split
  ·exact z _ rfl rfl
  ·split
   ·exact z _ rfl rfl
   ·exact z _ rfl rfl
theorem adR (b : Int) (hb : u64 b) : ∀ i, i < N1 iP → u64 (wf iP 64 b i) := by
 intro i hi
 obtain ⟨r, h1, h2, h3⟩ := N9 1000 (by decide) hb (s := st0 iP 64) (fun i hi => by
  have hl : (st0 iP 64).aA.length = iP.aA.toNat := aP _ _
  rw [hl] at hi
  show thU (nth (tab iP.aA.toNat (tf iP.ak.toNat 64)) (i : Int))
  rw [dU hi]
  exact abz _ _ _)
 rw [OE 1000 (by decide) wu (by decide) (by decide)] at h1
 injection h1 with h1
 have := h3.nth i
 rw [← h1] at this
 unfold P1 at this
 rwa [dU hi] at this
theorem aao (F : Nat) (hF : 5000 ≤ F) {b : Int} {M : aC} {c : Nat} {w : Nat → Int} (h : Mem M 329 w c) (hw : tab (N1 iP) w = P1 iP 64 b) : pW F ⟨M, iP, [sN, sN], [], false⟩ 0 = some (D0, 0) := by
 have hN : N1 iP = 2632 := by decide
 have tY : gK F M = some (P1 iP 64 b) := by
  rw [wo F h (by omega) (by omega), show 8 * 329 = N1 iP by rw [hN], hw]
 have hl : (P1 iP 64 b).length = 2632 := (aP _ _).trans hN
 have hd := pK F wu (v := 0) (by decide)
 have hcut := Gl (g := iP) wu 64 b (v := 0) (by decide)
 rw [show ((0 : Nat) : Int) = 0 from rfl] at hd
 unfold pW
 rw [OM F h.off, ob, show ((0 : Int) != 0) = false from rfl, cf, tY, ob]
 unfold nI
 dsimp only
 rw [hd, ob, cZ (by decide) (by decide), hl, bY (by decide), hcut, Ku F wu, ob, ob]
 rfl
theorem YZ (F : Nat) (hF : 5 ≤ F) : ∃ x, kF F D0 = some x ∧ nP F x x = some true := by
 obtain ⟨n, rfl⟩ : ∃ n, F = n + 1 := ⟨F - 1, by omega⟩
 exact ⟨_, rfl, rfl⟩
theorem Oa (F : Nat) (hF : 40000 ≤ F) (hF2 : F < 1000000) (l : V4 Int) (n : Int) : lq F l n = some true := by
 have hg := wu
 have hN : N1 iP = 2632 := by decide
 have hR : N1 iP / 8 = 329 := by decide
 have hs : (st0 iP 64).ay.length = 32 := aP _ _
 have ht : (st0 iP 64).aA.length = 16 := aP _ _
 have hu := adR 0 ⟨by decide, by decide⟩
 obtain ⟨M1, c1, w1, e1, hM1, hw1⟩ := PG F (by omega) hg (size := 64) (by decide) (by decide) (b := 0) (by decide) (by decide) (c := 0) (by decide) (KG (wf iP 64 0))
 obtain ⟨⟨p, bb⟩, hr, hok⟩ := YL F (by omega) (N := N1 iP) (w := wf iP 64 0) (by omega) (by omega) (by omega) hu
 have hr2 := PE F (by omega) hg (size := 64) (by decide) (by decide) (b := 0) (by decide) (by decide)
 unfold P1 at hr2
 have hbb : bb = true := congrArg Prod.snd (Option.some.inj (hr.symm.trans hr2))
 subst hbb
 obtain ⟨g', D, hro⟩ := hok rfl
 have hNg := hro.n
 have hu' : ∀ i, i < N1 g' → u64 (wf iP 64 0 i) := fun i hi => hu i (by omega)
 rw [hNg] at hro hr
 have hR' : N1 g' / 8 = 329 := by omega
 have hm0 : Mem (Rq (N1 iP / 8) (wf iP 64 0)) (N1 g' / 8) (wf iP 64 0) 0 := by rw [hR', ← hR]; exact KG _
 obtain ⟨M1', G', e1', acT, _⟩ := YQ F (by omega) hu' hro hr (c := 0) (by omega) hm0
 have hcalm := Xk F (by omega) hu' hro hr (c := 0) (by omega) hm0 (Xf _) e1
 have em : M1 = M1' := congrArg Prod.fst (Option.some.inj (e1.symm.trans e1'))
 subst em
 rw [hR'] at acT
 rw [hR] at hM1
 have hM : Mem M1 329 w1 16000 := ⟨hM1.len, hM1.wds, hM1.off, hM1.fuse, hM1.Ap, by have := acT.cnt; omega⟩
 have hwi : ∀ i, i < 2632 → w1 i = wf iP 64 1 i := fun i hi => by
  have := congrArg (fun l => nth l (i : Int)) hw1
  unfold P1 at this
  rwa [dU (by omega), dU (by omega)] at this
 have h16 : w1 16 = 0 := by
  rw [hwi 16 (by omega)]
  unfold wf
  rw [if_neg (by decide), if_pos (by decide)]
 have : Tot (lq F l n) fun b => b = true := by
  unfold lq
  refine iQ (Yy F (by omega) hF2) (gJ (fun h => by cases h) fun _ => gJ (fun _ => bZ rfl) fun hn => ?_)
  simp only [Bool.or_eq_false_iff, decide_eq_false_iff_not] at hn
  rw [show ql F = some iP from rfl, ob, VR F (by omega) hg (by decide) (by decide), ob, oc_, show ((0 : Int) != 0 || false) = false from rfl, cf, e1, ob, oc_, show ((0 : Int) != 0 || false) = false from rfl, cf]
  refine iR (aan F (by omega) hM (by omega) (by omega) hcalm h16 l) fun x15 h15 => ?_
  obtain ⟨e15, d, f, hmid⟩ := h15
  rw [e15, show ((0 : Int) != 0) = false from rfl, cf]
  refine lC ?_
  refine lu (σ := Int × Int × Int × Bool × List Int × List aY × Bool × Int × Int × List Int × List bV) (fun k v s => gu F n _ k v s.1 s.2.1 s.2.2.1 s.2.2.2.1 s.2.2.2.2.1 s.2.2.2.2.2.1 s.2.2.2.2.2.2.1 s.2.2.2.2.2.2.2.1 s.2.2.2.2.2.2.2.2.1 s.2.2.2.2.2.2.2.2.2.1 s.2.2.2.2.2.2.2.2.2.2) n.toNat
   (fun v s => YV M1 329 16000 d (CP l f) v ⟨⟨s.2.2.2.2.2.2.2.2.2.2, s.2.2.2.2.2.2.1, s.2.2.2.2.2.2.2.1, s.2.2.2.2.2.2.2.2.1, s.2.2.2.2.2.2.2.2.2.1⟩, ⟨s.1, s.2.1, s.2.2.1⟩, s.2.2.2.2.2.1, s.2.2.2.2.1, s.2.2.2.1⟩) (fun k v s hv hI hk => ?_) (fun k s hI => ?_) F 0
   (x15.1.dB.ak, x15.1.dB.ay, x15.1.dB.aA, x15.1.fP, x15.1.cu, x15.1.xw, x15.1.xm.dD, x15.1.xm.bC, x15.1.xm.bP, x15.1.xm.bQ, x15.1.xm.xl) (by omega) (by omega) hmid
  ·obtain ⟨s1, s2, s3, s4, s5, s6, s7, s8, s9, s10, s11⟩ := s
   show Tot (gu F n _ (k + 1) v s1 s2 s3 s4 s5 s6 s7 s8 s9 s10 s11) _
   unfold gu
   rw [decide_eq_true (by omega : (v : Int) < n), ct]
   refine iR (YW F (by omega) hI (by omega) (by omega) (by omega) (by omega) (by show v < 7; omega) (Xl l f v (by omega))) fun x73 h73 => dF ⟨by omega, by omega⟩ ?_
   rw [cs]
   exact hk (x73.1.dB.ak, x73.1.dB.ay, x73.1.dB.aA, x73.1.fP, x73.1.cu, x73.1.xw, x73.1.xm.dD, x73.1.xm.bC, x73.1.xm.bP, x73.1.xm.bQ, x73.1.xm.xl) h73
  ·obtain ⟨s1, s2, s3, s4, s5, s6, s7, s8, s9, s10, s11⟩ := s
   show Tot (gu F n _ (k + 1) ((n.toNat : Nat) : Int) s1 s2 s3 s4 s5 s6 s7 s8 s9 s10 s11) _
   unfold gu
   rw [decide_eq_false (by omega : ¬ ((n.toNat : Nat) : Int) < n), cf]
   refine iR (YX F hI.mem (by omega) (by omega) hcalm hM.len) fun x23 h23 => ?_
   obtain ⟨k1, k2, k3, k4, k5, k6⟩ := h23
   have hon : xq F x23 = some ⟨x23.xl, false, x23.bC, x23.bP, x23.bQ⟩ := rfl
   have hM2 : Mem ⟨x23.xl, false, x23.bC, x23.bP, x23.bQ⟩ (N1 iP / 8) (wf iP 64 1) 20000 := by
    rw [hR]
    refine ⟨k5, fun i hi => ?_, rfl, k2, k3, by dsimp only; omega⟩
    rw [← hwi i (by omega), ← hM.wds i hi]
    unfold wd
    have := k6 (i / 8) (by omega)
    unfold rw_ at this
    show (nth x23.xl ((i / 8 : Nat) : Int)).xNew.get (i % 8) = _
    rw [this]
   obtain ⟨M3, c3, w3, e3, hM3, hw3⟩ := PG F (by omega) hg (size := 64) (by decide) (by decide) (b := 1) (by decide) (by decide) (c := 20000) (by decide) hM2
   rw [hon, ob, e3, ob, oc_, show ((0 : Int) != 0 || false) = false from rfl, cf]
   have hst := Ry F (by omega) hg (by decide) (by decide) hM3 hw3
   rw [hR] at hM3
   have htold := aao F (by omega) hM3 hw3
   obtain ⟨x, hx1, hx2⟩ := YZ F (by omega)
   refine iQ htold (iQ hst ?_)
   rw [ob, Ig F (by omega) hg (by decide) (by decide), ob]
   dsimp only
   rw [show (((0 : Int) != 0 || (0 : Int) != 0) == false) = true from rfl, lzt, OD F _ (by rw [hs]; omega) (by rw [ht]; omega) hF2, ob, show ((0 : Int) != 0 || (0 : Int) != 0 || !true) = false from rfl, cf]
   refine iQ hx1 (iQ hx1 (iQ hx2 ?_))
   rw [show (true == false) = false from rfl, lzf, ob, lzf, ob, lzf, ob]
   exact bZ rfl
 obtain ⟨r, h1, h2⟩ := this
 rw [h1, h2]
end Go.V.P
