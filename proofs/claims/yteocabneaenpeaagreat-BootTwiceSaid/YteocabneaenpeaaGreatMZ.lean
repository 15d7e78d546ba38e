/- The given statement of BootTwice is proved: for every input the law returns true and the input reads as it did. No premises. -/
import Derived.Test.YteocabneaenpeaaGreatP6
import Derived.Test.YteocabneaenpeaaGreatG11
import Derived.Test.YteocabneaenpeaaGreatG1
import Derived.Test.YteocabneaenpeaaGreatRows
import Derived.WalkKit
import Derived.ProofKit
import Derived.OpenShut
import Derived.Carry
import Derived.Lib.SmallJoins
set_option linter.unusedVariables false
namespace Go.V.P
open Go.V Go.Proofs
theorem d3 : Dec Tryz.prog 3 1 (fun x : Int => [.v (.int .i64 x)]) (fun _ => True) := (Dec.int Tryz.underlying3 (by kernel_rfl)).map id (fun _ => rfl) (fun _ _ => trivial) fun _ => rfl
theorem d33 : Dec Tryz.prog 33 1 (fun x : Int => [.v (.int .i64 x)]) (fun _ => True) := (Dec.int Tryz.underlying33 (by kernel_rfl)).map id (fun _ => rfl) (fun _ _ => trivial) fun _ => rfl
theorem d42 : Dec Tryz.prog 42 1 (fun x : Int => [.v (.int .u64 x)]) u64 := (Dec.int Tryz.underlying42 (by kernel_rfl)).map id (fun _ => rfl) (fun a h => by
  simp only [Lit.wf, Bool.and_eq_true, decide_eq_true_eq] at h
  have e1 : IntKind.u64.min = 0 := by decide
  have e2 : IntKind.u64.max = 18446744073709551615 := by decide
  rw [e1, e2] at h
  exact ⟨h.1, by show a < _; omega⟩) fun _ => rfl
theorem d4 : Dec Tryz.prog 4 1 (fun x : Bool => [.v (.bool x)]) (fun _ => True) := Dec.bool Tryz.underlying4 (by kernel_rfl)
theorem d23 : Dec Tryz.prog 23 3 (fun g : bg => [.v (.int .i64 g.ak), .v (.int .i64 g.au), .v (.int .i64 g.ay)]) (fun _ => True) :=
  (Dec.struct Tryz.underlying23 (by kernel_rfl) (lZ.cons d3 (lZ.cons d3 (lZ.cons d3 (lZ.nil _))))).map (fun p => ⟨p.1, p.2.1, p.2.2.1⟩) (fun _ => rfl) (fun _ _ => trivial) fun _ => rfl
theorem d52 : Dec Tryz.prog 52 4 (fun v : V4 Int => [.v (.int .u64 v.c0), .v (.int .u64 v.c1), .v (.int .u64 v.c2), .v (.int .u64 v.c3)]) (fun v => u64 v.c0 ∧ u64 v.c1 ∧ u64 v.c2 ∧ u64 v.c3) :=
  (Dec.array Tryz.underlying52 (by kernel_rfl) d42.2.1 (lZ.cons d42 (lZ.cons d42 (lZ.cons d42 (lZ.cons d42 (lZ.nil _)))))).map (fun p => ⟨p.1, p.2.1, p.2.2.1, p.2.2.2.1⟩) (fun _ => rfl) (fun a h => ⟨h.1, h.2.1, h.2.2.1, h.2.2.2.1⟩) fun _ => rfl
theorem d54 : Dec Tryz.prog 54 3 (fun r : jf => [.v (.int .i64 r.lW), .v (.int .u64 r.xW), .v (.int .i64 r.xN)]) (fun r => u64 r.xW) :=
  (Dec.struct Tryz.underlying54 (by kernel_rfl) (lZ.cons d33 (lZ.cons d42 (lZ.cons d3 (lZ.nil _))))).map (fun p => ⟨p.1, p.2.1, p.2.2.1⟩) (fun _ => rfl) (fun _ h => h.2.1) fun _ => rfl
set_option maxRecDepth 10000 in
theorem acG : Dec Tryz.prog 104 13 aS thU :=
  (Dec.struct Tryz.underlying104 (by kernel_rfl) (lZ.cons d3 (lZ.cons d3 (lZ.cons d3 (lZ.cons d3 (lZ.cons d3 (lZ.cons d3 (lZ.cons d3 (lZ.cons d4 (lZ.cons d42 (lZ.cons d52 (lZ.nil _)))))))))))).map (fun p => ⟨p.1, p.2.1, p.2.2.1, p.2.2.2.1, p.2.2.2.2.1, p.2.2.2.2.2.1, p.2.2.2.2.2.2.1, p.2.2.2.2.2.2.2.1, p.2.2.2.2.2.2.2.2.1, p.2.2.2.2.2.2.2.2.2.1⟩) (fun _ => rfl) (fun _ h => ⟨h.2.2.2.2.2.2.2.2.1, h.2.2.2.2.2.2.2.2.2.1⟩) fun _ => rfl
theorem acH : Dec Tryz.prog 109 4 (fun c : eG => [.v (.int .i64 c.xType), .v (.int .i64 c.iO), .v (.int .i64 c.kL), .v (.int .i64 c.gX)]) (fun _ => True) :=
  (Dec.struct Tryz.underlying109 (by kernel_rfl) (lZ.cons d3 (lZ.cons d3 (lZ.cons d3 (lZ.cons d3 (lZ.nil _)))))).map (fun p => ⟨p.1, p.2.1, p.2.2.1, p.2.2.2.1⟩) (fun _ => rfl) (fun _ _ => trivial) fun _ => rfl
theorem acI : Dec Tryz.prog 111 5 aQ (fun _ => True) :=
  (Dec.struct Tryz.underlying111 (by kernel_rfl) (lZ.cons acH (lZ.cons d3 (lZ.nil _)))).map (fun p => ⟨p.1, p.2.1⟩) (fun _ => rfl) (fun _ _ => trivial) fun _ => rfl
theorem acJ : Dec Tryz.prog 154 2 bZ (fun x => u64 x.xV) :=
  (Dec.struct Tryz.underlying154 (by kernel_rfl) (lZ.cons d3 (lZ.cons d42 (lZ.nil _)))).map (fun p => ⟨p.1, p.2.1⟩) (fun _ => rfl) (fun _ h => h.2.1) fun _ => rfl
theorem d95 : Dec Tryz.prog 95 2 iW (fun x => u64 x.xV) :=
  (Dec.struct Tryz.underlying95 (by kernel_rfl) (lZ.cons d3 (lZ.cons d42 (lZ.nil _)))).map (fun p => ⟨p.1, p.2.1⟩) (fun _ => rfl) (fun _ h => h.2.1) fun _ => rfl
theorem Oz {α : Type} [Inhabited α] {Q : α → Prop} {l : List α} (h : ∀ (i : Nat) (a : α), l[i]? = some a → Q a) (i : Nat) (hi : i < l.length) : Q (nth l (i : Int)) := by
  rw [nH l hi]; exact h i _ (List.getElem?_eq_getElem hi)
theorem d57 : Dec Tryz.prog 57 10 gI dU :=
  (Dec.struct Tryz.underlying57 (by kernel_rfl) (lZ.cons d3 (lZ.cons d42 (lZ.cons d52 (lZ.cons d54 (lZ.cons (Dec.slice (by decide) acJ Tryz.underlying55 (by kernel_rfl)) (lZ.nil _))))))).map (fun p => ⟨p.1, p.2.1, p.2.2.1, p.2.2.2.1, p.2.2.2.2.1⟩) (fun _ => rfl)
    (fun _ h => ⟨h.2.2.1.1, h.2.2.1.2.1, h.2.2.1.2.2.1, h.2.2.1.2.2.2, h.2.2.2.1, fun i hi => Oz h.2.2.2.2.1 i hi⟩) fun _ => rfl
theorem d27 : Dec Tryz.prog 27 5 (fun s : aK => [.v (.int .i64 s.bH.ak), .v (.int .i64 s.bH.au), .v (.int .i64 s.bH.ay), .sl (flat aQ s.au) s.au.length, .sl (flat aS s.ay) s.ay.length]) (fun s => ∀ i : Nat, i < s.ay.length → thU (nth s.ay (i : Int))) :=
  (Dec.struct Tryz.underlying27 (by kernel_rfl) (lZ.cons d23 (lZ.cons (Dec.slice (by decide) acI Tryz.underlying24 (by kernel_rfl)) (lZ.cons (Dec.slice (by decide) acG Tryz.underlying25 (by kernel_rfl)) (lZ.nil _))))).map (fun p => ⟨p.1, p.2.1, p.2.2.1⟩) (fun _ => rfl) (fun _ h i hi => Oz h.2.2.1 i hi) fun _ => rfl
end Go.V.P
namespace Go.Proofs.YteocabneaenpeaaGreat.bootTwice
open Go.ChangeShapes Go.WideShapes Go.ChangeAt Go.RowKit Go.Joins Go.V.P
theorem own : ownKnob Tryz.prog.godebug = none := by kernel_rfl
theorem walk {s : aK} {d : List bC} {l : List jg} {n : Int} {v0 v1 v2 : Value} (w : World) (hs : ∀ i : Nat, i < s.ay.length → thU (Go.V.nth s.ay (i : Int))) (hd : ∀ i : Nat, i < d.length → dU (Go.V.nth d (i : Int))) (hl : ∀ i : Nat, i < l.length → u64 (Go.V.nth l (i : Int)).xV)
    (h0 : Go.V.iT w [] (fun _ => none) (fun b => b < w.heap.size) (.agg [.v (.int .i64 s.bH.ak), .v (.int .i64 s.bH.au), .v (.int .i64 s.bH.ay), .sl (Go.V.flat aQ s.au) s.au.length, .sl (Go.V.flat aS s.ay) s.ay.length]) v0)
    (h1 : Go.V.iT w [] (fun _ => none) (fun b => b < w.heap.size) (.one (.sl (Go.V.flat gI d) d.length)) v1) (h2 : Go.V.iT w [] (fun _ => none) (fun b => b < w.heap.size) (.one (.sl (Go.V.flat iW l) l.length)) v2) :
    Calls Tryz.prog 3 #[v0, v1, v2, .int .i64 n] w fun e w' => e = .returned (.bool true) ∧ Go.V.Kept (fun _ => False) w w' := by
  have h := Go.V.P.zK 40000 s d l n true (Go.V.P.Oy 40000 (by decide) (by decide) n hs hd hl)
  refine (h w (fun _ => False) (fun b => b < w.heap.size) (fun b h => ⟨h, id⟩) (fun _ => none) (fun _ _ => rfl) (fun _ => none) #[v0, v1, v2, .int .i64 n] ⟨Go.V.Kept.refl _ _, fun r g h => (by cases h), fun r r' b h => (by cases h), fun r b h => (by cases h), fun r b h => (by cases h)⟩ rfl ?_).mono ?_
  · intro i x v e1 e2
    match i, e1, e2 with
    | 0, e1, e2 =>
      simp only [List.getElem?_cons_zero, Option.some.injEq] at e1
      simp at e2
      subst e1; subst e2
      exact h0.pure (fun b hb => .inl hb) rfl
    | 1, e1, e2 =>
      simp only [List.getElem?_cons_zero, List.getElem?_cons_succ, Option.some.injEq] at e1
      simp at e2
      subst e1; subst e2
      exact h1.pure (fun b hb => .inl hb) rfl
    | 2, e1, e2 =>
      simp only [List.getElem?_cons_zero, List.getElem?_cons_succ, Option.some.injEq] at e1
      simp at e2
      subst e1; subst e2
      exact h2.pure (fun b hb => .inl hb) rfl
    | 3, e1, e2 =>
      simp only [List.getElem?_cons_zero, List.getElem?_cons_succ, Option.some.injEq] at e1
      simp at e2
      subst e1; subst e2
      exact .one (.v rfl)
    | i + 4, e1, e2 => simp at e1
  · rintro e w' ⟨v, x, st', β', rfl, hok, hrel, rfl, rfl⟩
    refine ⟨?_, hok.kept⟩
    cases hrel with
    | one h => cases h; rfl
theorem XB {w w' : World} (h : Go.V.Kept (fun _ => False) w w') (may : MemPlace → Prop) : w.keptBut w' may := by
  refine ⟨h.os, h.output, fun i hi => ?_⟩
  rw [h.block i hi (fun h => h)]
  have := (World.keptBut_refl w may).2.2 i hi
  exact this
theorem SC {w w' : World} (h : Go.V.Kept (fun _ => False) w w') : Below w.heap.size w w' := ⟨h.os, h.tape, h.output, h.size, fun k hk => h.block k hk fun h => h⟩
set_option maxRecDepth 100000 in
theorem lifted (os : Os) (started : os.Started) (H : Type) (enc : TypeId × Value → H) :
    ReturnsInHanded {} Tryz.checked os 3 .any (Rows.bootTwiceSpec.pre6 enc Tryz.prog Tryz.f3 Rows.bootTwiceRow.domain false) (Rows.bootTwiceSpec.post enc Tryz.prog Tryz.f3 false true false false) := by
  refine returnsInHanded_of_change (C := Tryz.checked) own started (by kernel_rfl) Tryz.func3
    (ChangeSpec.witness6 (enc := enc) (C := Tryz.checked) false ⟨#[], #[.agg #[.int .i64 0, .int .i64 0, .int .i64 0, .slice none 0 0, .slice none 0 0], .slice none 0 0, .slice none 0 0, .int .i64 0], []⟩ 12 (by kernel_rfl) (by kernel_rfl) (by kernel_rfl) (by kernel_rfl)) ?_
  intro W base args ds gs before hval0 hW hcnd _
  have hval : ∀ (j : Nat) t v, Tryz.f3.params[j]? = some t → args[j]? = some v → Value.okWide Tryz.prog W .any base t v := hval0
  have hW' := hW
  obtain ⟨p, q, hA0, hV, rfl, hfz, hnd⟩ := hW
  have hA : DataW.TrodAll enc Tryz.prog W 0 (fun _ => true) true Tryz.f3.params.toList args.toList ds p := hA0
  have hlt := hA.lt
  rw [Tryz.params3] at hA hval
  obtain ⟨v0, vs0, d0, ds0, p0, q0, hargs, rfl, rfl, h0, r0⟩ := trodAll_cons hA
  obtain ⟨v1, vs1, d1, ds1, p1, q1, rfl, rfl, rfl, h1, r1⟩ := trodAll_cons r0
  obtain ⟨v2, vs2, d2, ds2, p2, q2, rfl, rfl, rfl, h2, r2⟩ := trodAll_cons r1
  obtain ⟨v3, vs3, d3, ds3, p3, q3, rfl, rfl, rfl, h3, r3⟩ := trodAll_cons r2
  obtain ⟨rfl, rfl, rfl⟩ := trodAll_nil r3
  obtain rfl : args = #[v0, v1, v2, v3] := by cases args; simp_all
  obtain ⟨rfl, rfl⟩ := trodVars_none hV
  obtain ⟨us, rfl, hus⟩ := okWide_struct Tryz.underlying27 (hval 0 27 v0 rfl rfl)
  obtain ⟨a1, l1, c1, rfl⟩ := okWide_slice Tryz.underlying28 (hval 1 28 v1 rfl rfl)
  obtain ⟨a2, l2, c2, rfl⟩ := okWide_slice Tryz.underlying29 (hval 2 29 v2 rfl rfl)
  obtain ⟨n, rfl⟩ := okWide_int Tryz.underlying3 (hval 3 3 v3 rfl rfl)
  obtain ⟨s, hs, g0⟩ := d27.acK (st := []) (β := fun _ => none) h0
  obtain ⟨d, hd, g1⟩ := (Go.V.Dec.slice (by decide) d57 Tryz.underlying28 (by kernel_rfl)).abq (st := []) (β := fun _ => none) rfl h1
  obtain ⟨l, hl, g2⟩ := (Go.V.Dec.slice (by decide) d95 Tryz.underlying29 (by kernel_rfl)).abq (st := []) (β := fun _ => none) rfl h2
  have lt0 : ∀ x ∈ p0, x.block < W.heap.size := fun x hx => hlt x (by simp [hx])
  have lt1 : ∀ x ∈ p1, x.block < W.heap.size := fun x hx => hlt x (by simp [hx])
  have lt2 : ∀ x ∈ p2, x.block < W.heap.size := fun x hx => hlt x (by simp [hx])
  have lt3 : ∀ x ∈ p3, x.block < W.heap.size := fun x hx => hlt x (by simp [hx])
  have laid : laidOutB Tryz.prog = true := by kernel_rfl
  clear hA0 hval0
  refine (walk (n := n) W hs (fun i hi => Oz hd i hi) (fun i hi => Oz (Q := fun x => u64 x.xV) hl i hi) g0 g1 g2).mono fun e W' ⟨he, hg⟩ => ?_
  subst he
  have hb := SC hg
  have hargs : DataW.TrodAll enc Tryz.prog W' 0 (fun b => decide (b < W.heap.size)) true Tryz.f3.params.toList (#[.agg us, .slice a1 l1 c1, .slice a2 l2 c2, .int .i64 n] : Array Value).toList [d0, d1, d2, d3] (p0 ++ (p1 ++ (p2 ++ (p3 ++ [])))) :=
    trodAll_cons_mk (Below.trod laid (by kernel_rfl) (of_decide_eq_true (by kernel_rfl)) h0 hb lt0) (trodAll_cons_mk (Below.trod laid (by kernel_rfl) (of_decide_eq_true (by kernel_rfl)) h1 hb lt1) (trodAll_cons_mk (Below.trod laid (by kernel_rfl) (of_decide_eq_true (by kernel_rfl)) h2 hb lt2) (trodAll_cons_mk (Below.trod laid (by kernel_rfl) (of_decide_eq_true (by kernel_rfl)) h3 hb lt3) trodAll_mk0)))
  refine ⟨_, rfl, [d0, d1, d2, d3], [], _, [], _, [], hW', ?_, hargs, rfl, XB hg _, fun h => by cases h⟩
  exact trodAll_cons_mk (shut_bool Tryz.underlying4 _) trodAll_mk0
theorem over : Rows.bootTwiceRow.holds Tryz.pinned (OpenSpec.ofChange Rows.bootTwiceSpec) :=
  OpenClaim.holds_of_wide 3 Tryz.f3 rfl rfl rfl rfl rfl rfl rfl ⟨rfl, rfl, rfl, rfl, rfl⟩ rfl rfl rfl rfl rfl (by kernel_rfl) Tryz.func3 (by kernel_rfl)
    (of_decide_eq_true (by kernel_rfl)) (by unfold Func.isWrapper; first | (rw [if_pos (by decide +kernel)]; kernel_rfl) | (rw [if_neg (by decide +kernel)]; exact ⟨rfl, rfl⟩))
    (fun os started H enc _ => lifted os started H enc)
theorem proved : Rows.BootTwiceSaid :=
  over
#print axioms proved
end Go.Proofs.YteocabneaenpeaaGreat.bootTwice
