/- The given statement of BootUndone is proved: for every input the law returns true and the input reads as it did. No premises. -/
import Derived.Test.YtopidcbmhdeclaaGreatP8
import Derived.Test.YtopidcbmhdeclaaGreatG13
import Derived.Test.YtopidcbmhdeclaaGreatG1
import Derived.Test.YtopidcbmhdeclaaGreatRows
import Derived.WalkKit
import Derived.ProofKit
import Derived.OpenShut
import Derived.Carry
import Derived.Lib.SmallJoins
set_option linter.unusedVariables false
namespace Go.V.P
open Go.V Go.Proofs
theorem d22 : Dec Tryz.prog 22 1 (fun x : Int => [.v (.int .u64 x)]) u64 := (Dec.int Tryz.underlying22 (by kernel_rfl)).map id (fun _ => rfl) (fun a h => by
 simp only [Lit.wf, Bool.and_eq_true, decide_eq_true_eq] at h
 have e1 : IntKind.u64.min = 0 := by decide
 have e2 : IntKind.u64.max = 18446744073709551615 := by decide
 rw [e1, e2] at h
 exact ⟨h.1, by show a < _; omega⟩) fun _ => rfl
theorem d23 : Dec Tryz.prog 23 4 (fun v : V4 Int => [.v (.int .u64 v.c0), .v (.int .u64 v.c1), .v (.int .u64 v.c2), .v (.int .u64 v.c3)]) (fun v => u64 v.c0 ∧ u64 v.c1 ∧ u64 v.c2 ∧ u64 v.c3) :=
 (Dec.array Tryz.underlying23 (by kernel_rfl) d22.2.1 (JJ.cons d22 (JJ.cons d22 (JJ.cons d22 (JJ.cons d22 (JJ.nil _)))))).map (fun p => ⟨p.1, p.2.1, p.2.2.1, p.2.2.2.1⟩) (fun _ => rfl) (fun a h => ⟨h.1, h.2.1, h.2.2.1, h.2.2.2.1⟩) fun _ => rfl
end Go.V.P
namespace Go.Proofs.YtopidcbmhdeclaaGreat.bootUndone
open Go.ChangeShapes Go.WideShapes Go.ChangeAt Go.RowKit Go.Joins Go.V.P
theorem own : ownKnob Tryz.prog.godebug = none := by kernel_rfl
theorem P8 {P : Program} {w : World} {r : Reach} {base : Nat} {t e : TypeId} {n : Nat} {v : Value} (ht : P.underlying t = some (.array n e)) (h : Value.okWide P w r base t v) : ∃ cs, v = .agg cs ∧ cs.size = P.cellsOf t := by
 unfold Value.okWide at h
 simp only [ht] at h
 cases v <;> simp_all
theorem walk {l : V4 Int} {n : Int} {v0 : Value} (w : World)
  (h0 : Go.V.iy w [] (fun _ => none) (fun b => b < w.heap.size) (.agg [.v (.int .u64 l.c0), .v (.int .u64 l.c1), .v (.int .u64 l.c2), .v (.int .u64 l.c3)]) v0) :
  Calls Tryz.prog 7 #[v0, .int .i64 n] w fun e w' => e = .returned (.bool true) ∧ Go.V.Kept (fun _ => False) w w' := by
 have h := Go.V.P.zQ 40000 l n true (Go.V.P.Oa 40000 (by decide) (by decide) l n)
 refine (h w (fun _ => False) (fun b => b < w.heap.size) (fun b h => ⟨h, id⟩) (fun _ => none) (fun _ _ => rfl) (fun _ => none) #[v0, .int .i64 n] ⟨Go.V.Kept.refl _ _, fun r g h => (by cases h), fun r r' b h => (by cases h), fun r b h => (by cases h), fun r b h => (by cases h)⟩ rfl ?_).mono ?_
 ·intro i x v e1 e2
  match i, e1, e2 with
  | 0, e1, e2 =>
   simp only [List.getElem?_cons_zero, Option.some.injEq] at e1
   simp at e2
   subst e1; subst e2
   exact h0.pure (fun b hb => .inl hb) rfl
  | 1, e1, e2 =>
   simp only [List.getElem?_cons_zero, List.getElem?_cons_succ, Option.some.injEq] at e1
   simp at e2
   subst e1; subst e2
   exact .one (.v rfl)
  | i + 2, e1, e2 => simp at e1
 ·rintro e w' ⟨v, x, st', β', rfl, hok, hrel, rfl, rfl⟩
  refine ⟨?_, hok.kept⟩
  cases hrel with
  | one h => cases h; rfl
theorem Y0 {w w' : World} (h : Go.V.Kept (fun _ => False) w w') (may : MemPlace → Prop) : w.keptBut w' may := by
 refine ⟨h.os, h.output, fun i hi => ?_⟩
 rw [h.block i hi (fun h => h)]
 have := (World.keptBut_refl w may).2.2 i hi
 exact this
theorem UG {w w' : World} (h : Go.V.Kept (fun _ => False) w w') : Below w.heap.size w w' := ⟨h.os, h.tape, h.output, h.size, fun k hk => h.block k hk fun h => h⟩
set_option maxRecDepth 100000 in
theorem lifted (os : Os) (started : os.Started) (H : Type) (enc : TypeId × Value → H) :
  ReturnsInHanded {} Tryz.checked os 7 .any (Rows.bootUndoneSpec.pre6 enc Tryz.prog Tryz.f7 Rows.bootUndoneRow.domain false) (Rows.bootUndoneSpec.post enc Tryz.prog Tryz.f7 false true false false) := by
 refine returnsInHanded_of_change (C := Tryz.checked) own started (by kernel_rfl) Tryz.func7
  (ChangeSpec.witness6 (enc := enc) (C := Tryz.checked) false ⟨#[], #[.agg #[.int .u64 0, .int .u64 0, .int .u64 0, .int .u64 0], .int .i64 0], []⟩ 12 (by kernel_rfl) (by kernel_rfl) (by kernel_rfl) (by kernel_rfl)) ?_
 intro W base args ds gs before hval0 hW hcnd _
 have hval : ∀ (j : Nat) t v, Tryz.f7.params[j]? = some t → args[j]? = some v → Value.okWide Tryz.prog W .any base t v := hval0
 have hW' := hW
 obtain ⟨p, q, hA0, hV, rfl, hfz, hnd⟩ := hW
 have hA : DataW.TrodAll enc Tryz.prog W 0 (fun _ => true) true Tryz.f7.params.toList args.toList ds p := hA0
 have hlt := hA.lt
 rw [Tryz.params7] at hA hval
 obtain ⟨v0, vs0, d0, ds0, p0, q0, hargs, rfl, rfl, h0, r0⟩ := trodAll_cons hA
 obtain ⟨v1, vs1, d1, ds1, p1, q1, rfl, rfl, rfl, h1, r1⟩ := trodAll_cons r0
 obtain ⟨rfl, rfl, rfl⟩ := trodAll_nil r1
 obtain rfl : args = #[v0, v1] := by cases args; simp_all
 obtain ⟨rfl, rfl⟩ := trodVars_none hV
 obtain ⟨us, rfl, hus⟩ := P8 Tryz.underlying23 (hval 0 23 v0 rfl rfl)
 obtain ⟨n, rfl⟩ := okWide_int Tryz.underlying3 (hval 1 3 v1 rfl rfl)
 obtain ⟨l, _, g0⟩ := d23.adS (st := []) (β := fun _ => none) h0
 have lt0 : ∀ x ∈ p0, x.block < W.heap.size := fun x hx => hlt x (by simp [hx])
 have lt1 : ∀ x ∈ p1, x.block < W.heap.size := fun x hx => hlt x (by simp [hx])
 have laid : laidOutB Tryz.prog = true := by kernel_rfl
 clear hA0 hval0
 refine (walk (n := n) W g0).mono fun e W' ⟨he, hg⟩ => ?_
 subst he
 have hb := UG hg
 have hargs : DataW.TrodAll enc Tryz.prog W' 0 (fun b => decide (b < W.heap.size)) true Tryz.f7.params.toList (#[.agg us, .int .i64 n] : Array Value).toList [d0, d1] (p0 ++ (p1 ++ [])) :=
  trodAll_cons_mk (Below.trod laid (by kernel_rfl) (of_decide_eq_true (by kernel_rfl)) h0 hb lt0) (trodAll_cons_mk (Below.trod laid (by kernel_rfl) (of_decide_eq_true (by kernel_rfl)) h1 hb lt1) trodAll_mk0)
 refine ⟨_, rfl, [d0, d1], [], _, [], _, [], hW', ?_, hargs, rfl, Y0 hg _, fun h => by cases h⟩
 exact trodAll_cons_mk (shut_bool Tryz.underlying4 _) trodAll_mk0
theorem over : Rows.bootUndoneRow.holds Tryz.pinned (OpenSpec.ofChange Rows.bootUndoneSpec) :=
 OpenClaim.holds_of_wide 7 Tryz.f7 rfl rfl rfl rfl rfl rfl rfl ⟨rfl, rfl, rfl, rfl, rfl⟩ rfl rfl rfl rfl rfl (by kernel_rfl) Tryz.func7 (by kernel_rfl)
  (of_decide_eq_true (by kernel_rfl)) (by unfold Func.isWrapper; first | (rw [if_pos (by decide +kernel)]; kernel_rfl) | (rw [if_neg (by decide +kernel)]; exact ⟨rfl, rfl⟩))
  (fun os started H enc _ => lifted os started H enc)
theorem proved : Rows.BootUndoneSaid :=
 over
#print axioms proved
end Go.Proofs.YtopidcbmhdeclaaGreat.bootUndone
