/- The given statement of BootMakes is proved: for every input the law returns true and the input reads as it did. No premises. -/
import Derived.Test.YteocabneaenpeaaGreatP6
import Derived.Test.YteocabneaenpeaaGreatLQ
import Derived.Test.YteocabneaenpeaaGreatRows
import Derived.WalkKit
import Derived.ProofKit
import Derived.OpenShut
import Derived.Lib.SmallJoins
set_option linter.unusedVariables false
namespace Go.Proofs.YteocabneaenpeaaGreat.bootMakes
open Go.ChangeShapes Go.WideShapes Go.ChangeAt Go.RowKit Go.Joins

theorem own : ownKnob Tryz.prog.godebug = none := by kernel_rfl
theorem cells23 : Tryz.prog.cellsOf 23 = 3 := by kernel_rfl

theorem walk (a b c n : Int) (w : World) : Calls Tryz.prog 4 #[.agg #[.int .i64 a, .int .i64 b, .int .i64 c], .int .i64 n] w fun e w' => e = .returned (.bool true) ∧ Go.V.Kept (fun _ => False) w w' := by
  have h := Go.V.P.p_reevelaw26_BootMakes 10000 ⟨a, b, c⟩ n true (Go.V.P.BootMakes_ok 10000 (by decide) (by decide) _ _)
  refine (h w (fun _ => False) (fun _ => False) (fun b h => h.elim) (fun _ => none) (fun _ _ => rfl) (fun _ => none) #[.agg #[.int .i64 a, .int .i64 b, .int .i64 c], .int .i64 n] ⟨Go.V.Kept.refl _ _, fun r g h => (by cases h), fun r r' b h => (by cases h), fun r b h => (by cases h), fun r b h => (by cases h)⟩ rfl ?_).mono ?_
  · intro i x v h1 h2
    match i, h1, h2 with
    | 0, h1, h2 =>
      simp only [List.getElem?_cons_zero, Option.some.injEq] at h1
      simp at h2
      subst h1; subst h2
      refine .agg rfl fun j t u h3 h4 => ?_
      match j, h3, h4 with
      | 0, h3, h4 => simp at h3 h4; subst h3; subst h4; exact .v rfl
      | 1, h3, h4 => simp at h3 h4; subst h3; subst h4; exact .v rfl
      | 2, h3, h4 => simp at h3 h4; subst h3; subst h4; exact .v rfl
      | j + 3, h3, h4 => simp at h3
    | 1, h1, h2 =>
      simp at h1 h2
      subst h1; subst h2
      exact .one (.v rfl)
    | i + 2, h1, h2 => simp at h1
  · rintro e w' ⟨v, x, st', β', rfl, hok, hrel, rfl, rfl⟩
    refine ⟨?_, hok.kept⟩
    cases hrel with
    | one h => cases h; rfl
theorem kept_but {w w' : World} (h : Go.V.Kept (fun _ => False) w w') (may : MemPlace → Prop) : w.keptBut w' may := by
  refine ⟨h.os, h.output, fun i hi => ?_⟩
  rw [h.block i hi (fun h => h)]
  have := (World.keptBut_refl w may).2.2 i hi
  exact this

variable {H : Type} {enc : TypeId × Value → H} {P : Program}
theorem post_of_plain {f : Func} {s : ChangeSpec} {apart fresh handsOn again : Bool} {W W' : World} {args : Array Value} {v : Value} {ds gs : List (DataW H)}
    (hW : DataW.Whole enc P f.params.toList s.vars apart W args.toList ds gs [])
    (hres : ∀ (b : Nat) (sp : Nat → Bool) (hd : Bool), DataW.TrodAll enc P W' b sp hd f.resultTypes.toList (v.resultList f.resultTypes.size) (s.fn H (ds ++ gs)).results [])
    (hargs : ∀ sp : Nat → Bool, DataW.TrodAll enc P W' 0 sp true f.params.toList args.toList (s.fn H (ds ++ gs)).args [])
    (hvars : ∀ sp : Nat → Bool, DataW.TrodVars enc P W' sp s.vars (s.fn H (ds ++ gs)).vars [])
    (hk : ∀ may, W.keptBut W' may)
    (hok : ∀ (j : Nat) (t : TypeId) (r : Value), f.resultTypes[j]? = some t → (v.resultList f.resultTypes.size)[j]? = some r → Value.okWide P W' .any 0 t r) :
    s.post enc P f apart fresh handsOn again W args v W' := by
  refine ⟨ds, gs, [], [], [], [], hW, hres _ _ _, hargs _, hvars _, hk _, fun _ => ?_⟩
  obtain ⟨_, _, _, _, _, hz, hn⟩ := hW
  refine ⟨hok, _, _, ([] ++ []) ++ [], ⟨[] ++ [], [], trodAll_append (hargs _) (hres _ _ _), hvars _, rfl, ?_, ?_⟩, ?_⟩
  · intro b off hp
    simp at hp
  · intro ha
    simp
  · intro p hp _
    simp at hp

set_option maxRecDepth 100000 in
theorem lifted (os : Os) (started : os.Started) (H : Type) (enc : TypeId × Value → H) :
    ReturnsInHanded {} Tryz.checked os 4 .any (Rows.bootMakesSpec.pre6 enc Tryz.prog Tryz.f4 Rows.bootMakesRow.domain false) (Rows.bootMakesSpec.post enc Tryz.prog Tryz.f4 false true false false) := by
  refine returnsInHanded_of_change (C := Tryz.checked) own started (by kernel_rfl) Tryz.func4
    (ChangeSpec.witness6 (enc := enc) (C := Tryz.checked) false ⟨#[], #[.agg #[.int .i64 0, .int .i64 0, .int .i64 0], .int .i64 0], []⟩ 8 (by kernel_rfl) (by kernel_rfl) (by kernel_rfl) (by kernel_rfl)) ?_
  intro W base args ds gs before hval0 hW hcnd _
  have hval : ∀ (j : Nat) t v, Tryz.f4.params[j]? = some t → args[j]? = some v → Value.okWide Tryz.prog W .any base t v := hval0
  have hW' := hW
  obtain ⟨p, q, hA0, hV, rfl, hfz, hnd⟩ := hW
  have hA : DataW.TrodAll enc Tryz.prog W 0 (fun _ => true) true Tryz.f4.params.toList args.toList ds p := hA0
  rw [Tryz.params4] at hA hval
  obtain ⟨v0, vs0, d0, ds0, p0, q0, hargs, rfl, rfl, h0, r0⟩ := trodAll_cons hA
  obtain ⟨v1, vs1, d1, ds1, p1, q1, rfl, rfl, rfl, h1, r1⟩ := trodAll_cons r0
  obtain ⟨rfl, rfl, rfl⟩ := trodAll_nil r1
  obtain rfl : args = #[v0, v1] := by cases args; simp_all
  obtain ⟨rfl, rfl⟩ := trodVars_none hV
  obtain ⟨c0, c1, c2, y0, y1, y2, m, rfl, rfl, rfl, hy0, hy1, hy2⟩ := open_agg3 Tryz.underlying23 (by kernel_rfl) cells23 (hval 0 23 v0 rfl rfl) h0
  obtain ⟨x, e0, rfl, wx⟩ := DataW.trod_int Tryz.underlying3 hy0
  obtain ⟨y, e1, rfl, wy⟩ := DataW.trod_int Tryz.underlying3 hy1
  obtain ⟨z, e2, rfl, wz⟩ := DataW.trod_int Tryz.underlying3 hy2
  simp at e0 e1 e2
  subst e0 e1 e2
  obtain ⟨a1, rfl, rfl, rfl, w1⟩ := open_int Tryz.underlying3 (hval 1 3 v1 rfl rfl) h1
  clear hA0 hval0
  simp only [List.append_nil] at hW'
  have structReads : ∀ (W' : World) (sp : Nat → Bool), DataW.Trod enc Tryz.prog W' 0 sp true 23 (.agg #[.int .i64 x, .int .i64 y, .int .i64 z]) (.agg [.lit (.int .i64 x), .lit (.int .i64 y), .lit (.int .i64 z)]) [] := fun W' sp =>
    shut_agg3 (y0 := (.lit (.int .i64 x), [])) (y1 := (.lit (.int .i64 y), [])) (y2 := (.lit (.int .i64 z), [])) Tryz.underlying23 (by kernel_rfl) cells23 ⟨1, by simp [DataW.trod, Tryz.underlying3, wx]⟩ ⟨1, by simp [DataW.trod, Tryz.underlying3, wy]⟩ ⟨1, by simp [DataW.trod, Tryz.underlying3, wz]⟩
  refine (walk x y z a1 W).mono fun e W' ⟨he, hg⟩ => ?_
  subst he
  exact ⟨_, rfl, post_of_plain hW' (fun _ _ _ => (trodAll_cons_mk (shut_bool Tryz.underlying4 _) trodAll_mk0)) (fun sp => (trodAll_cons_mk (structReads _ sp) (trodAll_cons_mk (shut_int Tryz.underlying3 w1) trodAll_mk0))) (fun _ => rfl)
    (kept_but hg) (ok_one (by kernel_rfl) rfl (okWide_bool_mk Tryz.underlying4 _))⟩

theorem over : Rows.bootMakesRow.holds Tryz.pinned (OpenSpec.ofChange Rows.bootMakesSpec) :=
  OpenClaim.holds_of_wide 4 Tryz.f4 rfl rfl rfl rfl rfl rfl rfl ⟨rfl, rfl, rfl, rfl, rfl⟩ rfl rfl rfl rfl rfl (by kernel_rfl) Tryz.func4 (by kernel_rfl)
    (of_decide_eq_true (by kernel_rfl)) (by unfold Func.isWrapper; first | (rw [if_pos (by decide +kernel)]; kernel_rfl) | (rw [if_neg (by decide +kernel)]; exact ⟨rfl, rfl⟩))
    (fun os started H enc _ => lifted os started H enc)

/-- The statement. -/
theorem proved : Rows.BootMakesSaid :=
  over
#print axioms proved
end Go.Proofs.YteocabneaenpeaaGreat.bootMakes
