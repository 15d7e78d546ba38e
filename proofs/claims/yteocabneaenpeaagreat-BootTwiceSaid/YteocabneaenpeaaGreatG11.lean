/- Plain laws, part MO: the words that a memory is laid with. No premises. -/
import Derived.Test.YteocabneaenpeaaGreatG10
set_option linter.unusedVariables false
set_option linter.unusedSimpArgs false
namespace Go.V.P
open Go.V Go.Proofs
def mP (l : List Int) : Prop := ∀ x ∈ l, u64 x
theorem u0 : u64 0 := ⟨by omega, by omega⟩
theorem mP.app {a b : List Int} (h1 : mP a) (h2 : mP b) : mP (a ++ b) := fun x hx => (List.mem_append.1 hx).elim (h1 x) (h2 x)
theorem mP.set {l : List Int} (h : mP l) {i x : Int} (hx : u64 x) : mP (jl l i x) := fun y hy => by
  unfold jl at hy
  rcases List.mem_or_eq_of_mem_set hy with h1 | h1
  · exact h y h1
  · rw [h1]; exact hx
theorem mP.cpy {l m : List Int} (h : mP l) (h2 : mP m) {a n : Nat} : mP (cpy l a n m) := by
  unfold Go.V.cpy
  exact mP.app (mP.app (fun x hx => h x (List.mem_of_mem_take hx)) fun x hx => h2 x (List.mem_of_mem_take hx)) fun x hx => h x (List.mem_of_mem_drop hx)
theorem mP.rep (n : Nat) : mP (List.replicate n 0) := fun x hx => by rw [List.eq_of_mem_replicate hx]; exact u0
theorem mP.nth {l : List Int} (h : mP l) (i : Nat) : u64 (Go.V.nth l (i : Int)) := by
  by_cases hi : i < l.length
  · rw [nH l hi]; exact h _ (List.getElem_mem hi)
  · have : Go.V.nth l (i : Int) = 0 := by simp [Go.V.nth, List.getD_eq_getElem?_getD, List.getElem?_eq_none (Nat.le_of_not_lt hi)]
    rw [this]; exact u0
theorem mP.cons {x : Int} {l : List Int} (h1 : u64 x) (h2 : mP l) : mP (x :: l) := fun y hy => by
  rcases List.mem_cons.1 hy with h | h
  · rw [h]; exact h1
  · exact h2 y h
theorem mP.nil : mP [] := fun y hy => by cases hy
theorem CV (F : Nat) {fs : List aU} (hg : fQ F fs = some true) (hf : Ho fs) (hF : fs.length < F) (hl : fs.length ≤ 100) (vs : List Int) : Tot (jK F fs vs) fun r => u64 r.1 := by
  unfold jK
  refine jr hg (iq (fun _ => dB u0) fun h => lC ?_)
  have hlen : vs.length = fs.length := by
    simp only [Bool.or_eq_false_iff, bne_eq_false_iff_eq] at h; omega
  refine lD (fun n v l => gY F fs vs _ n l v) fs.length (fun _ l => u64 l) (fun n v l hv hI hk => ?_) (fun n l hI => ?_) F 0 _ (by omega) (by omega) u0
  · show Tot (gY F fs vs _ (n + 1) l v) _
    unfold gY
    rw [dlt hv, ct]
    refine dG ⟨by omega, by omega⟩ (dG ⟨by omega, by omega⟩ (jr (Og F (hf v hv).2 (hf v hv).1) (dG (hf v hv).1 (iq (fun _ => dB u0) fun _ => dG ⟨by omega, by omega⟩ (dG (hf v hv).1 (dG ⟨by omega, by omega⟩ ?_))))))
    rw [cs]
    exact hk _ (vP _)
  · show Tot (gY F fs vs _ (n + 1) l _) _
    unfold gY
    rw [dge, cf]
    exact dB hI
theorem SA (F : Nat) (hF : 10 ≤ F) (c : eG) : Tot (qj F c) fun r => u64 r.1 := by
  unfold qj
  have hg : fQ F cF = some true := up6 (P := fun F => fQ F cF = some true) Us (by omega)
  exact jm (JF F c) fun b _ => iq (fun _ => dB u0) fun _ => lC (jr (Xp F) (jm (CV F hg Zi (by show 4 < F; omega) (by decide) _) fun x hx => dB hx))
def thU (t : aJ) : Prop := u64 t.lH ∧ u64 t.dH.c0 ∧ u64 t.dH.c1 ∧ u64 t.dH.c2 ∧ u64 t.dH.c3
theorem Qn (F : Nat) (hF : 10 ≤ F) {t : aJ} (ht : thU t) : Tot (jG F t) fun r => r.length ≤ 8 ∧ mP r := by
  unfold jG
  obtain ⟨d0, d1, d2, d3, d4⟩ := ht
  have hb : fQ F bF = some true := up6 (P := fun F => fQ F bF = some true) Oj (by omega)
  have hp : fQ F prs = some true := up6 (P := fun F => fQ F prs = some true) Ba (by omega)
  refine jm (DZ F t) fun b _ => iq (fun _ => dB ⟨by simp, mP.nil⟩) fun _ => lC ?_
  have rest : ∀ x : Int, Tot (jn (fun (v5 : Int) => (jn (fun (v7 : Int) => (jn (fun (_ : Unit) => some ((([v5, v7, t.lH] : List Int) ++ ([t.dH.c0, t.dH.c1, t.dH.c2, t.dH.c3] : List Int)) ++ ([(0 : Int)] : List Int))) fun k9 => gd ((([v5, v7, t.lH] : List Int).length + ([t.dH.c0, t.dH.c1, t.dH.c2, t.dH.c3] : List Int).length) * 8 ≤ 140737488355328) (gd (((([v5, v7, t.lH] : List Int) ++ ([t.dH.c0, t.dH.c1, t.dH.c2, t.dH.c3] : List Int)).length + ([(0 : Int)] : List Int).length) * 8 ≤ 140737488355328) (k9 ())))) fun k8 => (oP F ).bind fun x12 => (jK F x12 ([(IntKind.u64.wrap t.mQ), (IntKind.u64.wrap t.nT), (IntKind.u64.wrap t.gX)] : List Int)).bind fun x13 => k8 x13.1)) fun k6 => (l9 F ).bind fun x14 => (jK F x14 ([(IntKind.u64.wrap t.xType), (IntKind.u64.wrap t.jw), (IntKind.u64.wrap t.jJ), x, (IntKind.u64.wrap t.fE)] : List Int)).bind fun x15 => k6 x15.1) fun r => r.length ≤ 8 ∧ mP r := by
    intro x
    refine lC (jr (Xq (by omega)) (jm (CV F hb Xn (by show 5 < F; omega) (by decide) _) fun x15 h15 => lC (jr (Bc F) (jm (CV F hp Sm (by show 3 < F; omega) (by decide) _) fun x13 h13 => lC (dG (by simp only [List.length_append, List.length_cons, List.length_nil]; omega) (dG (by simp only [List.length_append, List.length_cons, List.length_nil]; omega) (dB ⟨by simp, ?_⟩)))))))
    exact ((mP.nil.cons d0).cons h13 |>.cons h15).app ((((mP.nil.cons d4).cons d3).cons d2).cons d1) |>.app (mP.nil.cons u0)
  exact iq (fun _ => rest 1) fun _ => rest 0
theorem abp (g : bg) {b : Int} (hb : u64 b) : mP (sup ⟨g, b⟩) := by
  rw [Jo]
  intro x hx
  unfold tab at hx
  obtain ⟨i, _, rfl⟩ := List.mem_map.1 hx
  exact Sv g hb i
theorem LX (F : Nat) (hF : 1000 ≤ F) {s : aK} (hs : ∀ i : Nat, i < s.ay.length → thU (nth s.ay (i : Int))) : Tot (pX F s 3) fun r => r.length ≤ 6000 ∧ mP r := by
  unfold pX
  refine jm (Bg F (by omega) s) fun b hb => iq (fun _ => dB ⟨by simp, mP.nil⟩) fun h => ?_
  obtain ⟨⟨hg, hsl, hth⟩, _, hup⟩ := hb (by simpa using h)
  have c8 := C8 hg
  obtain ⟨hAB, hBC, hN⟩ := AC s.bH
  have s2 := hg.s2; have h2 := hg.h2
  have hB : B1 s.bH = A1 s.bH + 2 * s.bH.au.toNat := rfl
  have hC : C1 s.bH = B1 s.bH + 8 * s.bH.ay.toNat := rfl
  have e8 : (((C1 s.bH / 8 + 1 : Nat) : Int) * 8) = ((N1 s.bH : Nat) : Int) := by omega
  refine jr (y8 F hg) ?_
  rw [e8, Int.toNat_natCast]
  have hl0 : (List.replicate (N1 s.bH) (0 : Int)).length = N1 s.bH := List.length_replicate
  rw [hl0]
  refine dG ⟨by omega, by omega⟩ (dG ⟨by omega, by omega, by omega, by omega⟩ (jr (y5 F (by omega) ⟨s.bH, 3⟩ (mD F hg)) (dG (by rw [kH]; omega) (jr (xC F hg) (dG ⟨by omega, by omega, by omega⟩ (dG (by rw [aP, hl0, kH]; omega) (lC ?_)))))))
  have hsup := abp s.bH (b := 3) ⟨by decide, by decide⟩
  refine lD (fun n v l => jD F s _ n v l) s.au.length (fun _ l => l.length = N1 s.bH ∧ mP l) (fun n v l hv hI hk => ?_) (fun n l hI => ?_) F 0 _ (by omega) (by omega) ⟨by rw [aP, aP, hl0], ((mP.rep _).cpy hsup).cpy hsup⟩
  · show Tot (jD F s _ (n + 1) v l) _
    obtain ⟨hl, hu⟩ := hI
    have hup := hup v hv
    unfold jD
    rw [dlt hv, ct]
    refine dG ⟨by omega, by omega⟩ (jr (y9 F hg (by omega)) (jm (SA F (by omega) _) fun x67 hx => dG ⟨by omega, by omega⟩ (dG ⟨by omega, by omega⟩ (dG ⟨by omega, by omega⟩ (dG ⟨by omega, by omega⟩ (dG ⟨by omega, by omega⟩ ?_))))))
    rw [cs]
    exact hk _ ⟨by rw [aG, aG, hl], (hu.set hx).set (vP _)⟩
  · show Tot (jD F s _ (n + 1) _ l) _
    obtain ⟨hl, hu⟩ := hI
    unfold jD
    rw [dge, cf]
    refine lC ?_
    refine lD (fun n v l => jE F s _ n v l) s.ay.length (fun _ l => l.length = N1 s.bH ∧ mP l) (fun n v l hv hI hk => ?_) (fun n l hI => ?_) F 0 _ (by omega) (by omega) ⟨hl, hu⟩
    · show Tot (jE F s _ (n + 1) v l) _
      obtain ⟨hl, hu⟩ := hI
      unfold jE
      rw [dlt hv, ct, hl]
      refine dG ⟨by omega, by omega⟩ (jr (zf F hg (by omega)) (dG ⟨by omega, by omega, by omega⟩ (jm (Qn F (by omega) (hs v hv)) fun x38 hx => dG (by rw [Int.toNat_natCast, Int.toNat_natCast]; omega) (dG ⟨by omega, by omega⟩ ?_))))
      rw [cs]
      exact hk _ ⟨by rw [aP, hl], hu.cpy hx.2⟩
    · show Tot (jE F s _ (n + 1) _ l) _
      obtain ⟨hl, hu⟩ := hI
      unfold jE
      rw [dge, cf]
      exact dB ⟨by omega, hu⟩
end Go.V.P
set_option linter.unusedVariables false
set_option linter.unusedSimpArgs false
namespace Go.V.P
open Go.V Go.Proofs
theorem Ov (F : Nat) (g : bg) (v : Int) : Tot (lG F g v) fun r => r = (0, 0) ∨ (GG g ∧ r.2 = 1208 ∧ 0 ≤ r.1 ∧ r.1 ≤ 10000) := by
  unfold lG
  by_cases hg : GG g
  · have t1 := hg.t1; have t2 := hg.t2
    refine jr (mD F hg) (dG (fun _ => ⟨by omega, by omega⟩) (sS (P := fun b => b = true → 0 ≤ v ∧ v ≤ g.ak - 1) (fun _ => T_eq (JI F ..) fun h => by simp only [Bool.and_eq_true, decide_eq_true_eq] at h; exact h) fun b hb => iq (fun _ => dB (.inl rfl)) fun h => ?_))
    have hv := hb rfl (by simpa using h)
    exact dG ⟨by omega, by omega⟩ (dG ⟨by omega, by omega⟩ (dB (.inr ⟨hg, rfl, by show 0 ≤ 16 + v * 1208; omega, by show 16 + v * 1208 ≤ 10000; omega⟩)))
  · refine jr (Jm F hg) (dG (fun h => by cases h) (sS (P := fun _ => True) (fun h => by cases h) fun b _ => iq (fun _ => dB (.inl rfl)) fun h => ?_))
    cases h
theorem Qo (F : Nat) (hF : 10 ≤ F) (d : bC) : Tot (lN F d) u64 := by
  unfold lN
  have hg : fQ F oF = some true := up6 (P := fun F => fQ F oF = some true) Oi (by omega)
  refine jr (Xo F) (jm (CV F hg Zh (by show 4 < F; omega) (by decide) _) fun x2 hx => dG (fun _ => by decide) (sS (P := fun _ => True) (fun _ => T_eq (max2 F (by omega) _ _) trivial) fun x4 _ => iq (fun _ => dB u0) fun _ => dB hx))
def dU (d : bC) : Prop := u64 d.xL.c0 ∧ u64 d.xL.c1 ∧ u64 d.xL.c2 ∧ u64 d.xL.c3 ∧ u64 d.dh.xW ∧ ∀ i : Nat, i < d.xW.length → u64 (nth d.xW (i : Int)).xV
theorem Ox (F : Nat) {g : bg} (hg : ¬ GG g) (ws : List aA) : mJ F g ws = some false := by
  unfold mJ
  rw [Jm F hg, ob]; rfl
theorem Qp (F : Nat) (hF : 1000 ≤ F) (g : bg) {d : bC} (hd : dU d) : Tot (zh F g d) fun r => r = [] ∨ (r.length = 1208 ∧ mP r) := by
  unfold zh
  by_cases hg : GG g
  · refine jm (wP F hF hg d) fun b hb => iq (fun _ => dB (.inl rfl)) fun h => ?_
    obtain ⟨hDG, _⟩ := hb (by simpa using h)
    have t1 := hg.t1
    have hlen := hDG.len
    refine jr (by have := qE F hg (v := 0) (by omega); simpa using this) (dG ⟨by decide, by decide, by decide, by decide⟩ (jm (Qo F (by omega) d) fun x5 h5 => ?_))
    have hr : (List.replicate (((16 : Int), (1208 : Int)).2).toNat (0 : Int)).length = 1208 := List.length_replicate
    have hru : mP (List.replicate (((16 : Int), (1208 : Int)).2).toNat (0 : Int)) := mP.rep _
    generalize List.replicate (((16 : Int), (1208 : Int)).2).toNat (0 : Int) = R at hr hru ⊢
    obtain ⟨e0, e1, e2, e3, e4, e5⟩ := hd
    rw [hr]
    refine dG ⟨by omega, by omega⟩ (dG ⟨by omega, by omega, by omega⟩ (dG ?_ (dG ?_ (dG ?_ (lC ?_)))))
    · rw [aG, hr]; simp only [List.length_cons, List.length_nil]; omega
    · exact ⟨⟨by omega, by rw [aP, aG, hr]; omega⟩, by omega⟩
    · exact ⟨⟨by omega, by rw [aG, aP, aG, hr]; omega⟩, by omega⟩
    · refine lD (fun n v l => nJ F d _ n v l) d.xW.length (fun _ l => l.length = 1208 ∧ mP l) (fun n v l hv hI hk => ?_) (fun n l hI => ?_) F 0 _ (by omega) (by omega) ⟨by rw [aG, aG, aP, aG, hr], ?_⟩
      · show Tot (nJ F d _ (n + 1) v l) _
        obtain ⟨hl, hu⟩ := hI
        unfold nJ
        rw [dlt hv, ct]
        refine dG ⟨by omega, by omega⟩ (dG ⟨by omega, by omega⟩ (dG ⟨by omega, by omega⟩ (dG ⟨by omega, by omega⟩ (dG ⟨by omega, by omega⟩ (dG ⟨by omega, by omega⟩ (dG ⟨by omega, by omega⟩ (dG ⟨by omega, by omega⟩ (dG ⟨by omega, by omega⟩ ?_))))))))
        rw [cs]
        exact hk _ ⟨by rw [aG, aG, hl], (hu.set (vP _)).set (e5 v hv)⟩
      · show Tot (nJ F d _ (n + 1) _ l) _
        unfold nJ
        rw [dge, cf]
        exact dB (.inr hI)
      · refine mP.set (mP.set (mP.cpy (mP.set hru h5) ?_) e4) (vP _)
        exact (((mP.nil.cons e3).cons e2).cons e1).cons e0
  · refine jr (x := false) ?_ (iq (fun _ => dB (.inl rfl)) fun h => by cases h)
    unfold mY
    rw [Ox F hg, ob]; rfl
theorem SB (F : Nat) (hF : 2000 ≤ F) {s : aK} {d : List bC} {l : List jg} (hs : ∀ i : Nat, i < s.ay.length → thU (nth s.ay (i : Int))) (hd : ∀ i : Nat, i < d.length → dU (nth d (i : Int))) (hl : ∀ i : Nat, i < l.length → u64 (nth l (i : Int)).xV) (hdl : d.length ≤ 5) (hll : l.length ≤ 20) :
    Tot (ny F s d l) fun r => r.length ≤ 6000 ∧ mP r := by
  unfold ny
  refine jm (LX F (by omega) hs) fun x1 h1 => dG (by simp only [List.length_nil]; omega) (lC ?_)
  refine lD (fun n v l => iG F s d _ n v l) d.length (fun _ r => r.length ≤ 6000 ∧ mP r) (fun n v r hv hI hk => ?_) (fun n r hI => ?_) F 0 _ (by omega) (by omega) (by simpa using h1)
  · show Tot (iG F s d _ (n + 1) v r) _
    obtain ⟨hr, hu⟩ := hI
    unfold iG
    rw [dlt hv, ct]
    have k : ∀ r' : List Int, (r'.length ≤ 6000 ∧ mP r') → Tot (gd (inI ((v : Int) + (1 : Int))) (iG F s d (fun (v3 : (List Int)) => (jn (fun (v5 : (List Int)) => some v5) fun k6 => gZ F l k6 F (0 : Int) v3)) n ((v : Int) + (1 : Int)) r')) fun r => r.length ≤ 6000 ∧ mP r := by
      intro r' h'
      refine dG ⟨by omega, by omega⟩ ?_
      rw [cs]
      exact hk _ h'
    refine lC (jm (Ov F s.bH v) fun vS acF => dG ⟨by omega, by omega⟩ (jm (Qp F (by omega) s.bH (hd v hv)) fun yO ZX => ?_))
    rcases acF with rfl | ⟨hg, e2, e3, e4⟩
    · refine dG (fun h => ?_) (iq (fun _ => k r ⟨hr, hu⟩) fun h => ?_)
      · simp at h
      · simp at h
    · rw [e2]
      refine dG (fun _ => ⟨by omega, by omega⟩) (iq (fun _ => k r ⟨hr, hu⟩) fun h => ?_)
      simp only [Bool.or_eq_false_iff, bne_eq_false_iff_eq, decide_eq_false_iff_not] at h
      have hlen : yO.length = 1208 := by omega
      obtain ⟨_, hu2⟩ : yO.length = 1208 ∧ mP yO := by
        rcases ZX with rfl | ZX
        · cases hlen
        · exact ZX
      refine lD (fun n v l => je F _ vS yO n v l) 1208 (fun _ l => l.length = r.length ∧ mP l) (fun n w l hw hI hk2 => ?_) (fun n l hI => ?_) F 0 _ (by omega) (by omega) ⟨rfl, hu⟩
      · show Tot (je F _ vS yO (n + 1) w l) _
        unfold je
        rw [e2, decide_eq_true (by omega : (w : Int) < 1208), ct]
        obtain ⟨hl1, hl2⟩ := hI
        refine dG ⟨by omega, by omega⟩ (dG ⟨by omega, by omega⟩ (dG ⟨by omega, by omega⟩ (dG ⟨by omega, by omega⟩ ?_)))
        rw [cs]
        exact hk2 _ ⟨by rw [aG, hl1], hl2.set (hu2.nth w)⟩
      · show Tot (je F _ vS yO (n + 1) ((1208 : Nat) : Int) l) _
        unfold je
        rw [e2, decide_eq_false (by omega : ¬ ((1208 : Nat) : Int) < 1208), cf]
        exact k l ⟨by omega, hI.2⟩
  · show Tot (iG F s d _ (n + 1) _ r) _
    unfold iG
    rw [dge, cf]
    refine lC ?_
    refine lD (fun n v r => gZ F l _ n v r) l.length (fun _ r => r.length ≤ 6000 ∧ mP r) (fun n v r hv hI hk => ?_) (fun n r hI => ?_) F 0 _ (by omega) (by omega) hI
    · show Tot (gZ F l _ (n + 1) v r) _
      unfold gZ
      rw [dlt hv, ct]
      have k : ∀ r' : List Int, (r'.length ≤ 6000 ∧ mP r') → Tot (gd (inI ((v : Int) + (1 : Int))) (gZ F l (fun (v5 : (List Int)) => some v5) n ((v : Int) + (1 : Int)) r')) fun r => r.length ≤ 6000 ∧ mP r := by
        intro r' h'
        refine dG ⟨by omega, by omega⟩ ?_
        rw [cs]
        exact hk _ h'
      refine lC (dG ⟨by omega, by omega⟩ (dG (fun _ => ⟨by omega, by omega⟩) (iq (fun h => dG ⟨by omega, by omega⟩ (dG ⟨by omega, by omega⟩ (dG ?_ (k _ ⟨by rw [aG]; exact hI.1, hI.2.set (hl v hv)⟩)))) fun _ => k r hI)))
      simpa [ix] using h
    · show Tot (gZ F l _ (n + 1) _ r) _
      unfold gZ
      rw [dge, cf]
      exact dB hI
end Go.V.P
set_option linter.unusedVariables false
set_option linter.unusedSimpArgs false
namespace Go.V.P
open Go.V Go.Proofs
theorem oc_ {α β : Type} (x : α) (y : Option β) (f : α → Option β) : Bd (some x) y f = f x := by unfold Bd; rfl
theorem Vk (F : Nat) (hF : 100 ≤ F) (s : aK) (d : List bC) (l : List jg) : Tot (nY F s d l) fun b => b = false → d.length ≤ 5 ∧ l.length ≤ 20 := by
  unfold nY
  refine iq (fun _ => dB fun h => by cases h) fun h => lC ?_
  simp only [Bool.or_eq_false_iff, decide_eq_false_iff_not] at h
  have hd : d.length ≤ 5 := by omega
  have hl : l.length ≤ 20 := by omega
  refine wo (fun n v => ji F d _ n v) d.length (fun _ => True) (fun n v hv _ hk => ?_) (fun n _ => ?_) F 0 (by omega) (by omega) trivial
  · show Tot (ji F d _ (n + 1) v) _
    unfold ji
    rw [dlt hv, ct]
    refine dG ⟨by omega, by omega⟩ (iq (fun _ => dB fun h => by cases h) fun _ => dG ⟨by omega, by omega⟩ ?_)
    rw [cs]
    exact hk trivial
  · show Tot (ji F d _ (n + 1) _) _
    unfold ji
    rw [dge, cf]
    exact dB fun _ => ⟨hd, hl⟩
theorem XA (F : Nat) (hF : 40000 ≤ F) {R : Nat} {f : Nat → Int} (hR : 1 ≤ R) (hR2 : R ≤ 4096) (hu : ∀ i, i < 8 * R → u64 (f i)) :
    ∃ M', kN F (N7 R f) = some (M', none, 2) ∨ ∃ G g w b, kN F (N7 R f) = some (M', some G, 0) ∧ 8 * R = N1 g ∧ Mem M' R w 16000 ∧ Ready F g w b := by
  have hM := P9 (R := R) f
  have rO : fM F (N7 R f) = some (tab (8 * R) f) := vH F hM (by omega) (by omega)
  obtain ⟨⟨p, b⟩, hr, hok⟩ := Xw F (by omega) (N := 8 * R) (w := f) (by omega) (by omega) (by omega) hu
  cases b with
  | false =>
    refine ⟨N7 R f, .inl ?_⟩
    unfold kN kT
    rw [hM.off, ob, cf, rO, ob, hr, ob]
    rfl
  | true =>
    obtain ⟨g, D, h⟩ := hok rfl
    have hn := h.n
    have c8 := C8 h.gg
    have hN : N1 g = C1 g + 8 := rfl
    have e : N1 g / 8 = R := by omega
    rw [hn] at h hr hu
    obtain ⟨M', G, h1, h2, h3⟩ := Qm F (by omega) hu h hr (c := 0) (by omega) (by rw [e]; exact hM)
    rw [e] at h2
    exact ⟨M', .inr ⟨G, g, _, _, h1, hn, h2, h3⟩⟩
theorem Oy (F : Nat) (hF : 40000 ≤ F) (hF2 : F < 1000000) {s : aK} {d : List bC} {l : List jg} (n : Int) (hs : ∀ i : Nat, i < s.ay.length → thU (nth s.ay (i : Int))) (hd : ∀ i : Nat, i < d.length → dU (nth d (i : Int))) (hl : ∀ i : Nat, i < l.length → u64 (nth l (i : Int)).xV) : lJ F s d l n = some true := by
  have : Tot (lJ F s d l n) fun b => b = true := by
    unfold lJ
    refine jr (Xg F (by omega) hF2) (iq (fun h => by cases h) fun _ => jm (Vk F (by omega) s d l) fun x3 h3 => iq (fun _ => dB rfl) fun h => ?_)
    simp only [Bool.or_eq_false_iff, decide_eq_false_iff_not] at h
    obtain ⟨hdl, hll⟩ := h3 h.1.1
    refine jm (SB F (by omega) hs hd hl hdl hll) fun x5 h5 => ?_
    rcases Xz F (L := x5.length) (fun i => x5.getD i 0) (by omega) (by omega) with h6 | ⟨R, hRL, hR1, hR2, h6⟩
    · rw [← ER] at h6
      exact jr h6 (dB rfl)
    rw [← ER] at h6
    refine jr h6 ?_
    unfold Bd
    dsimp only
    rw [show (((0 : Int) != 0) || false) = false from rfl, cf]
    have hu : ∀ i, i < 8 * R → u64 (x5.getD i 0) := fun i hi => by
      have := h5.2.nth i
      rwa [nth, Int.toNat_natCast] at this
    obtain ⟨M', hb⟩ := XA F hF hR1 hR2 hu
    rcases hb with hb | ⟨G, g, w, b, hb, hN, hM, uU⟩
    · exact jr hb (dB rfl)
    refine jr hb ?_
    dsimp only
    rw [show (((0 : Int) != 0) || false) = false from rfl, cf]
    have hg := uU.gg
    have t1 := hg.t1; have t2 := hg.t2; have c8 := C8 hg
    obtain ⟨hAB, hBC, hNC⟩ := AC g
    have hA : A1 g = 16 + 1208 * g.ak.toNat := rfl
    have hR : N1 g / 8 = R := by omega
    have rO : ∀ (M : aO) (w : Nat → Int) (c : Nat), Mem M R w c → fM F M = some (tab (N1 g) w) := fun M w c hM => by
      rw [vH F hM (by omega) (by omega), hN]
    have hlen : ∀ w : Nat → Int, (tab (N1 g) w).length = N1 g := fun w => aW _ _
    have n4 : ∀ w b, Ready F g w b → nth (tab (N1 g) w) 4 = b := fun w b h => by
      rw [show (4 : Int) = ((4 : Nat) : Int) from rfl, eX (by omega), h.s1 4 (by omega)]
      rfl
    refine jr (rO M' w _ hM) (iq (fun h => ?_) fun _ => dG ⟨by omega, by rw [hlen]; omega⟩ (iq (fun _ => dB rfl) fun h61 => lC ?_))
    · rw [hlen] at h; simp only [decide_eq_true_eq] at h; omega
    rw [n4 w b uU] at h61
    simp only [decide_eq_false_iff_not] at h61
    refine lD (σ := Bool × Int × Int × List Int × List bQ) (fun k v s => gK F n _ k v s.1 s.2.1 s.2.2.1 s.2.2.2.1 s.2.2.2.2) n.toNat
      (fun v s => ∃ w' c', c' ≤ 16000 + 16000 * v ∧ Mem ⟨s.2.2.2.2, s.1, s.2.1, s.2.2.1, s.2.2.2.1⟩ R w' c' ∧ Ready F g w' (b + v) ∧ ∀ i, 8 ≤ i → i < C1 g → w' i = w i) (fun k v s hv hI hk => ?_) (fun k s hI => ?_) F 0 (M'.gB, M'.dA, M'.dO, M'.dN, M'.xl) (by omega) (by omega) ⟨w, 16000, by omega, hM, by simpa using uU, fun i _ _ => rfl⟩
    · obtain ⟨o, c, f, kp, rl⟩ := s
      show Tot (gK F n _ (k + 1) v o c f kp rl) _
      obtain ⟨w', c', hc', hM', hr', hw'⟩ := hI
      unfold gK
      rw [decide_eq_true (by omega : (v : Int) < n), ct]
      obtain ⟨M2, G2, w2, e2, hM2, hr2, hw2⟩ := Vj F (by omega) hr' (by omega) (c := c') (by omega) (by rw [hR]; exact hM')
      rw [hR] at hM2
      rw [e2, ob, oc_, show ((M2, some G2, (0 : Int)).2.2 != 0) = false from rfl, cf]
      refine dG ⟨by omega, by omega⟩ ?_
      rw [cs]
      refine hk (M2.gB, M2.dA, M2.dO, M2.dN, M2.xl) ⟨w2, c' + 16000, by omega, hM2, ?_, fun i h1 h2 => by rw [hw2 i h1 h2, hw' i h1 h2]⟩
      rw [show b + ((v + 1 : Nat) : Int) = b + v + 1 by omega]; exact hr2
    · obtain ⟨o, c, f, kp, rl⟩ := s
      show Tot (gK F n _ (k + 1) ((n.toNat : Nat) : Int) o c f kp rl) _
      obtain ⟨w', c', hc', hM', hr', hw'⟩ := hI
      unfold gK
      rw [decide_eq_false (by omega : ¬ ((n.toNat : Nat) : Int) < n), cf]
      refine jr (rO _ w' _ hM') (dG (fun _ => ⟨by omega, by rw [hlen]; omega⟩) (dG (fun _ => ⟨by omega, by rw [hlen]; omega⟩) ?_))
      rw [n4 w b uU, n4 w' _ hr', hlen, hlen]
      have hbb := uU.bnd
      refine iq (fun h => ?_) fun _ => lC ?_
      · simp only [Bool.or_eq_true, bne_iff_ne, ne_eq, decide_eq_true_eq, IntKind.wrap_u64] at h
        rcases h with (h | h) | h
        · exact absurd trivial h
        · omega
        · omega
      · have key : Tot (gQ F (tab (N1 g) w) (tab (N1 g) w') (fun _ => some true) F ((8 : Nat) : Int)) fun b => b = true := by
          refine wo (fun k v => gQ F (tab (N1 g) w) (tab (N1 g) w') _ k v) (C1 g) (fun v => 8 ≤ v) (fun k v hv h8 hk => ?_) (fun k _ => ?_) F 8 (by omega) (by omega) (by omega)
          · show Tot (gQ F _ _ _ (k + 1) v) _
            unfold gQ
            rw [hlen]
            refine dG ⟨by omega, by omega⟩ ?_
            rw [decide_eq_true (by omega : (v : Int) < ((N1 g : Nat) : Int) - 8), ct]
            refine dG ⟨by omega, by rw [hlen]; omega⟩ (dG ⟨by omega, by rw [hlen]; omega⟩ ?_)
            rw [eX (by omega), eX (by omega), hw' v h8 hv]
            refine iq (fun h => by simp at h) fun _ => dG ⟨by omega, by omega⟩ ?_
            rw [cs]
            exact hk (by omega)
          · show Tot (gQ F _ _ _ (k + 1) _) _
            unfold gQ
            rw [hlen]
            refine dG ⟨by omega, by omega⟩ ?_
            rw [decide_eq_false (by omega : ¬ ((C1 g : Nat) : Int) < ((N1 g : Nat) : Int) - 8), cf]
            exact dB rfl
        rw [show (8 : Int) = ((8 : Nat) : Int) from rfl]
        exact key
  obtain ⟨r, h1, h2⟩ := this
  rw [h1, h2]
end Go.V.P
