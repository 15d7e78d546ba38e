/- Walks: each function does what its model says: reeve/state.has, reeve/state.within, (reeve/state.State).owner$1, slices.IndexFunc[[]reeve/thing.Thing,reeve/thing.Thing], (reeve/state.State).owner, (reeve/state.State).inside, (reeve/state.State).ring, reeve/state.Forest, (reeve/forest.Forest).is, reeve/forest.Good, reeve/right.of, reeve/right.Less, reeve/right.Within, reeve/cap.Less, (reeve/state.State).allowed, reeve/state.Good, reeve/geo.slotsAt, reeve/geo.thingsAt, reeve/geo.Copy, reeve/geo.Rows, math.Abs, math.Copysign, math.trunc, math.Trunc, math.Signbit, reeve/gauss.whole, reeve/gauss.Parts, reeve/gauss.in, reeve/gauss.Of, reeve/gauss.Turn, reeve/gauss.rest, reeve/gauss.Spin, reeve/gauss.Word, reeve/super.Put, reeve/geo.Slot, reeve/cap.fields, (reeve/tag.Field).mask, reeve/tag.all. Printed by mg.py. No premises. -/
import Derived.Test.YteocabneaenpeaaGreatP1
set_option linter.unusedVariables false
set_option linter.unusedSimpArgs false
set_option maxRecDepth 20000
set_option maxHeartbeats 4000000
namespace Go.V.P
open Go.V Go.Proofs
def H6 : dJ := (.seq (.ops [(o (.box 104 (t 0)) 2), (o (.mv (cb false)) 4)]) (.seq (.draw [((o (.add 0 (t 2)) 5), []), ((o (.load false 1 (t 5)) 6), [0]), ((o (.bin .eql 3 (t 6) (ci 2)) 7), [1]), ((w 8 7), [2]), ((g_ (.mv (t 1)) 9 8 true), [3]), ((g_ (.add 2 (t 2)) 10 8 true), [3]), ((g_ (.load false 1 (t 10)) 11 8 true), [5, 3]), ((g_ (.bin .geq 3 (t 9) (t 11)) 12 8 true), [4, 6, 3]), ((o (.pick (t 8) (t 12) (cb false)) 13), [3, 7]), ((w 14 13), [8, 3]), ((g_ (.mv (t 1)) 15 14 true), [9]), ((g_ (.add 2 (t 2)) 16 14 true), [9]), ((g_ (.load false 1 (t 16)) 17 14 true), [11, 9]), ((g_ (.add 1 (t 2)) 18 14 true), [9]), ((g_ (.load false 1 (t 18)) 19 14 true), [13, 9]), ((g_ (.bin .shl 3 (ci 1) (t 19)) 20 14 true), [14, 9]), ((g_ (.bin .add 3 (t 17) (t 20)) 21 14 true), [12, 15, 9]), ((g_ (.bin .lss 3 (t 15) (t 21)) 22 14 true), [10, 16, 9]), ((o (.pick (t 14) (t 22) (cb false)) 23), [9, 17]), ((w 4 23), [18, 9, 0, 1, 2, 3, 4, 5, 6, 7, 8, 9, 10, 11, 12, 13, 14, 15, 16, 17, 18])]) .ret))
theorem QB : Fits Tryz.prog 182 2 H6 [(.tmp 4)] := cu Tryz.func182 (by kernel_rfl) (by kernel_rfl) (by kernel_rfl)
theorem H7 (F : Nat) (a0 : aJ) (a1 : Int) (r : Bool) (h : tK F a0 a1 = some r) : PC Tryz.prog 182 [S.agg [vi a0.xType, vi a0.jw, vi a0.jJ, vi a0.mQ, vi a0.nT, vi a0.fE, vi a0.gX, vb a0.qC, vu a0.lH, vu a0.dH.c0, vu a0.dH.c1, vu a0.dH.c2, vu a0.dH.c3], (zi_ a1)] (zb_ r) := by
 unfold tK at h
 refine fC QB rfl rfl ?_
 intro C hP
 unfold H6; dsimp
 apply Eso
 refine W1 (eu rfl rfl rfl rfl) ?_
 apply WM
 refine Wk [1, 2] [2] ?_
 (try dsimp)
 apply bP
 obtain ⟨g1, h⟩ := aV h
 obtain ⟨g2, h⟩ := aV h
 refine iY [0, 1, 2, 3, 4, 5, 6, 7, 8, 9, 10, 11, 12, 13, 14, 15, 16, 17, 18, 19] ?_
 refine XQ 0 rfl rfl rfl (ah rfl rfl) ?_
 refine XQ 1 rfl rfl rfl (aj rfl rfl rfl) ?_
 refine XQ 2 rfl rfl rfl (aB rfl rfl rfl) ?_
 refine XQ 3 rfl rfl rfl (aI rfl) ?_
 apply dR 4
 rfl
 rfl
 rfl
 rfl
 intro hB; (try simp only [hB, bss, ctt]); exact aI rfl
 apply dR 5
 rfl
 rfl
 rfl
 rfl
 intro hB; (try simp only [hB, bss, ctt]); exact ah rfl rfl
 apply dR 6
 rfl
 rfl
 rfl
 rfl
 intro hB; (try simp only [hB, bss, ctt]); exact aj rfl rfl rfl
 apply dR 7
 rfl
 rfl
 rfl
 rfl
 intro hB; (try simp only [hB, bss, ctt]); exact aB rfl rfl rfl
 refine XQ 8 rfl rfl rfl (dK rfl rfl rfl) ?_
 refine XQ 9 rfl rfl rfl (aI rfl) ?_
 apply dR 10
 rfl
 rfl
 rfl
 rfl
 intro hB; (try simp only [hB, bss, ctt]); exact aI rfl
 apply dR 11
 rfl
 rfl
 rfl
 rfl
 intro hB; (try simp only [hB, bss, ctt]); exact ah rfl rfl
 apply dR 12
 rfl
 rfl
 rfl
 rfl
 intro hB; (try simp only [hB, bss, ctt]); exact aj rfl rfl rfl
 apply dR 13
 rfl
 rfl
 rfl
 rfl
 intro hB; (try simp only [hB, bss, ctt]); exact ah rfl rfl
 apply dR 14
 rfl
 rfl
 rfl
 rfl
 intro hB; (try simp only [hB, bss, ctt]); exact aj rfl rfl rfl
 apply dR 15
 rfl
 rfl
 rfl
 rfl
 intro hB; (try simp only [hB, bss, ctt]); exact vU rfl rfl (g1 hB)
 apply dR 16
 rfl
 rfl
 rfl
 rfl
 intro hB; (try simp only [hB, bss, ctt]); exact cZ rfl rfl (g2 hB).1 (g2 hB).2
 apply dR 17
 rfl
 rfl
 rfl
 rfl
 intro hB; (try simp only [hB, bss, ctt]); exact aB rfl rfl rfl
 refine XQ 18 rfl rfl rfl (dK rfl rfl rfl) ?_
 refine XQ 19 rfl rfl rfl (aI rfl) ?_
 refine ig rfl ?_
 refine bf [4] [] ?_
 (try dsimp)
 apply bI
 cases h
 (try simp only [qt, qb, qn])
 refine aT (xs := _) ⟨_, rfl, rfl⟩ ?_
 rfl
def Bo : dJ := (.seq (.ops [(o (.box 27 (t 0)) 3)]) (.seq (.seq (.ops [(w 8 2), (w 9 1), (o (.QC (t 8) (t 9)) 10)]) (.cond (t 10) .ret .skip)) (.seq (.ops [(w 11 2), (w 12 1), (n_ (.YS (t 11) (t 12) (cb true)))]) (.seq (.ops [(o (.add 3 (t 3)) 13), (o (.load false 1 (t 13)) 14), (o (.len false (t 14)) 15), (o (.mv (ci 0)) 16)]) (.block 0 (.loop (.seq (.ops [(o (.bin .lss 3 (t 16) (t 15)) 17)]) (.seq (.cond (t 17) .skip (.exit 0)) (.seq (.block 1 (.seq (.ops [(w 18 16), (o (.gJ 5 (t 14) (t 16)) 19), (o (.load true 5 (t 19)) 20), (o (.jR [zi, zi, zi, zi, zi]) 7), (w 6 18), (n_ (.store 5 (t 7) (t 20)))]) (.seq (.ops [(o (.add 0 (t 7)) 21), (o (.add 0 (t 21)) 22), (o (.load false 1 (t 22)) 23), (o (.bin .eql 3 (t 23) (ci 2)) 24), (w 25 24), (g_ (.add 4 (t 3)) 26 25 true), (g_ (.load false 1 (t 26)) 27 25 true), (g_ (.mv (t 1)) 28 25 true), (g_ (.gJ 13 (t 27) (t 28)) 29 25 true), (g_ (.load true 13 (t 29)) 30 25 true), (g_ (.mv (t 6)) 31 25 true), (g_ (.call 182 [(t 30), (t 31)]) 32 25 true), (o (.pick (t 25) (t 32) (cb false)) 33), (w 34 33), (g_ (.load true 5 (t 3)) 35 34 true), (g_ (.add 0 (t 7)) 36 34 true), (g_ (.add 1 (t 36)) 37 34 true), (g_ (.load false 1 (t 37)) 38 34 true), (g_ (.call 126 [(t 35), (t 38)]) 39 34 true), (o (.pick (t 34) (t 39) (cb false)) 40)]) (.cond (t 40) (.ops [(o (.load true 5 (t 3)) 41), (o (.add 0 (t 7)) 42), (o (.add 1 (t 42)) 43), (o (.load false 1 (t 43)) 44), (w 45 2), (o (.call 160 [(t 41), (t 44), (t 45)]) 46)]) .skip)))) (.ops [(o (.bin .add 3 (t 16) (ci 1)) 47), (w 16 47)]))))))))))
theorem JW : Fits Tryz.prog 160 3 Bo [] := cu Tryz.func160 (by kernel_rfl) (by kernel_rfl) (by kernel_rfl)
theorem Ac (a0 : aK) (a1 : Int) : ∀ x ∈ [S.agg [.v (.int .i64 a0.bH.ak), .v (.int .i64 a0.bH.au), .v (.int .i64 a0.bH.ay), .sl (flat aQ a0.au) a0.au.length, .sl (flat aS a0.ay) a0.ay.length], S.one (.v (.int .i64 a1))], OI x := by
 simp [OI, XJ, JX (e := aQ) (fun _ => rfl) (fun _ => rfl), JX (e := aS) (fun _ => rfl) (fun _ => rfl)]
theorem zk (F : Nat) : ∀ (D : Nat) (a0 : aK) (a1 : Int) (a2 : (List Int)) (r : List Int), lY F D a0 a1 a2 = some r → MC Tryz.prog 160 [S.agg [vi a0.bH.ak, vi a0.bH.au, vi a0.bH.ay, sl aQ a0.au, sl aS a0.ay], (zi_ a1)] a2 r
| 0, a0, a1, a2, r, h => by cases h
| D + 1, a0, a1, a2, r, h => by
 have ih := zk F D
 unfold lY at h; dsimp only at h
 generalize hrc : (fun a0 a1 a2 => lY F D a0 a1 a2) = rc at h
 replace ih : ∀ a0 a1 a2 r, rc a0 a1 a2 = some r → _ := fun a0 a1 a2 r h => ih a0 a1 a2 r (by rw [← hrc] at h; exact h)
 refine abv JW rfl ?_
 intro C b hP hE
 unfold Bo; dsimp
 apply Eso
 refine W1 (eu rfl rfl rfl rfl) ?_
 refine Wk [1, 2, 3, 1000] [3] ?_
 (try dsimp)
 apply bP
 apply Eso
 apply WM
 apply WM
 refine WQ (JY rfl rfl rfl) ?_
 refine Wk [1, 2, 3, 10, 1000] [3] ?_
 (try dsimp)
 refine Ec h rfl (fun h hc1 => ?_) (fun h hc1 => ?_)
 apply bI
 cases h
 exact ⟨.inr rfl, rfl⟩
 apply bG
 refine bf [1, 2, 3, 1000] [3] ?_
 (try dsimp)
 apply Eso
 apply WM
 apply WM
 refine W1 (Vt rfl rfl rfl rfl hc1 (.inl hE) rfl) ?_
 refine Wk [1, 2, 3, 1000] [3] ?_
 (try dsimp)
 apply Eso
 refine WQ (ah rfl rfl) ?_
 refine WQ (aj rfl rfl rfl) ?_
 refine WQ (bM rfl) ?_
 apply WM
 refine Wk [1, 2, 3, 14, 15, 16, 1000] [3] ?_
 (try dsimp)
 apply bW
 (try dsimp)
 refine fD (α := Int × (List Int)) (fun (i : Int × (List Int)) => (⟨[(1, (zi_ a1)), (2, S.one (.v (.map (some b)))), (3, S.one (.ptr 3 0)), (14, ss aQ a0.au), (15, (zi_ ((a0.au.length : Nat) : Int))), (16, (zi_ i.1)), (1000, S.one (.uo b i.2))], [(3, (⟨true, [vi a0.bH.ak, vi a0.bH.au, vi a0.bH.ay, sl aQ a0.au, sl aS a0.ay]⟩ : Reg))]⟩ : St)) (fun n i => jP F a0 a1 rc n i.1 i.2 = some r) F ((0 : Int), (a2 ++ [a1])) h ?_ (fun n i h => ?_)
 exact (Le.b (bK ⟨rfl, rfl, rfl, rfl, rfl, rfl, rfl, trivial⟩ ⟨rfl, trivial⟩))
 obtain ⟨v24, v25⟩ := i; dsimp only at h
 obtain _ | n26 := n
 cases h
 unfold jP at h
 (try dsimp)
 apply Eso
 refine WQ (aB rfl rfl rfl) ?_
 apply dn
 (try dsimp)
 apply bP
 refine Ec h rfl (fun h hc27 => ?_) (fun h hc27 => ?_)
 apply bG
 refine bf [1, 2, 3, 14, 15, 16, 1000] [3] ?_
 (try dsimp)
 obtain ⟨k29, ac0, h⟩ := fO h
 refine dV (α := (List Int)) (fun (i : (List Int)) => (⟨[(1, (zi_ a1)), (2, S.one (.v (.map (some b)))), (3, S.one (.ptr 3 0)), (14, ss aQ a0.au), (15, (zi_ ((a0.au.length : Nat) : Int))), (16, (zi_ v24)), (1000, S.one (.uo b i))], [(3, (⟨true, [vi a0.bH.ak, vi a0.bH.au, vi a0.bH.ay, sl aQ a0.au, sl aS a0.ay]⟩ : Reg))]⟩ : St)) (fun i => k29 i = some r) (fun i h => ?_) ?_
 let iv := i; change k29 i = some r at h; generalize i = v28 at h ⊢
 rw [ac0] at h; dsimp only at h
 (try dsimp)
 apply eP
 obtain ⟨g30, h⟩ := aV h
 refine WQ (cZ rfl rfl g30.1 g30.2) ?_
 apply WM
 apply dn
 refine ⟨n26, ((v24 + (1 : Int)), v28), Nat.lt_succ_self _, h, ?_⟩
 exact (Le.b (bK ⟨rfl, rfl, rfl, rfl, rfl, rfl, rfl, trivial⟩ ⟨rfl, trivial⟩))
 apply bW
 apply Eso
 apply WM
 obtain ⟨g31, h⟩ := aV h
 refine WQ (aX rfl rfl g31.1 g31.2) ?_
 refine WQ (dX (k := 5) rfl (fun _ => rfl) g31 0 rfl rfl rfl) ?_
 refine W1 (dw rfl rfl) ?_
 apply WM
 refine W1 dst ?_
 refine Wk [1, 2, 3, 6, 7, 14, 15, 16, 1000] [3, 7] ?_
 (try dsimp)
 apply Eso
 refine WQ (ah rfl rfl) ?_
 refine WQ (ah rfl rfl) ?_
 refine WQ (aj rfl rfl rfl) ?_
 refine WQ (aB rfl rfl rfl) ?_
 apply WM
 apply aC
 rfl
 intro hB; (try simp only [hB, bss, ctt]); exact ah rfl rfl
 apply aC
 rfl
 intro hB; (try simp only [hB, bss, ctt]); exact aj rfl rfl rfl
 apply aC
 rfl
 intro hB; (try simp only [hB, bss, ctt]); exact aI rfl
 obtain ⟨g32, h⟩ := aV h
 apply aC
 rfl
 intro hB; (try simp only [hB, bss, ctt]); exact aX rfl rfl (g32 hB).1 (g32 hB).2
 apply aC
 rfl
 intro hB; (try simp only [hB, bss, ctt]); exact dX (k := 13) rfl (fun _ => rfl) (g32 hB) 0 rfl rfl rfl
 apply aC
 rfl
 intro hB; (try simp only [hB, bss, ctt]); exact aI rfl
 obtain ⟨x33, aao, h⟩ := aN h
 apply jk
 rfl
 intro hB; (try simp only [hB, bss, ctt]); exact aF hP (H7 F (nth a0.ay a1) v24 x33 (jW aao (bt hB))) rfl rfl rfl
 refine WQ (dK rfl rfl rfl) ?_
 apply WM
 apply aC
 rfl
 intro hB; (try simp only [hB, bss, ctt]); exact qlA
 apply aC
 rfl
 intro hB; (try simp only [hB, bss, ctt]); exact ah rfl rfl
 apply aC
 rfl
 intro hB; (try simp only [hB, bss, ctt]); exact ah rfl rfl
 apply aC
 rfl
 intro hB; (try simp only [hB, bss, ctt]); exact aj rfl rfl rfl
 obtain ⟨x34, OJ, h⟩ := aN h
 apply jk
 rfl
 intro hB; (try simp only [hB, bss, ctt]); exact aF hP (rP F a0 ((nth a0.au v24).iF.iO) x34 (jW OJ (bt hB))) rfl rfl rfl
 refine WQ (dK rfl rfl rfl) ?_
 refine Wk [1, 2, 3, 7, 14, 15, 16, 40, 1000] [3, 7] ?_
 (try dsimp)
 refine Ec h rfl (fun h SN => ?_) (fun h SN => ?_)
 apply eP
 refine WQ qlA ?_
 refine WQ (ah rfl rfl) ?_
 refine WQ (ah rfl rfl) ?_
 refine WQ (aj rfl rfl rfl) ?_
 apply WM
 obtain ⟨x36, aap, h⟩ := aN h
 refine W1 (JZ hP (ih a0 ((nth a0.au v24).iF.iO) v25 x36 aap) rfl rfl (Ac _ _) rfl (.inl hE) rfl) ?_
 apply dn
 refine ⟨x36, h, ?_⟩
 exact (Le.b (bK ⟨rfl, rfl, rfl, rfl, rfl, rfl, rfl, trivial⟩ ⟨rfl, trivial⟩))
 apply bG
 refine ⟨v25, h, ?_⟩
 exact (Le.b (bK ⟨rfl, rfl, rfl, rfl, rfl, rfl, rfl, trivial⟩ ⟨rfl, trivial⟩))
 apply gV
 cases h
 exact ⟨.inl rfl, rfl⟩
theorem J3 (F : Nat) (a0 : aK) (a1 : Int) (a2 : (List Int)) (r : List Int) (h : xI F a0 a1 a2 = some r) : MC Tryz.prog 160 [S.agg [vi a0.bH.ak, vi a0.bH.au, vi a0.bH.ay, sl aQ a0.au, sl aS a0.ay], (zi_ a1)] a2 r := zk F F a0 a1 a2 r h
def uI : dJ := (.seq (.ops [(o (.box 104 (t 0)) 2), (o (.mv (cb false)) 3)]) (.seq (.ops [(o (.load true 13 (t 2)) 4), (o (.load false 1 (t 1)) 5), (o (.call 182 [(t 4), (t 5)]) 6), (w 3 6)]) .ret))
theorem AO : Fits Tryz.prog 184 2 uI [(.tmp 3)] := cu Tryz.func184 (by kernel_rfl) (by kernel_rfl) (by kernel_rfl)
theorem AP (F : Nat) (a0 : aJ) (a1 : Int) (r : Bool) (h : lV F a0 a1 = some r) : PC Tryz.prog 184 [S.agg [vi a0.xType, vi a0.jw, vi a0.jJ, vi a0.mQ, vi a0.nT, vi a0.fE, vi a0.gX, vb a0.qC, vu a0.lH, vu a0.dH.c0, vu a0.dH.c1, vu a0.dH.c2, vu a0.dH.c3], S.one (.psl [vi a1] 0)] (zb_ r) := by
 unfold lV at h
 refine fC AO rfl rfl ?_
 intro C hP
 unfold uI; dsimp
 apply Eso
 refine W1 (eu rfl rfl rfl rfl) ?_
 apply WM
 refine Wk [1, 2] [2] ?_
 (try dsimp)
 apply Eso
 refine WQ qlA ?_
 refine WQ (Bq rfl rfl) ?_
 obtain ⟨x1, x1h, h⟩ := aN h
 refine W1 (aF hP (H7 F a0 a1 x1 x1h) rfl rfl rfl) ?_
 apply WM
 refine Wk [3] [] ?_
 (try dsimp)
 apply bI
 cases h
 (try simp only [qt, qb, qn])
 refine aT (xs := _) ⟨_, rfl, rfl⟩ ?_
 rfl
def pO : dJ := (.seq (.ops [(o (.mv (ci 0)) 4)]) (.seq (.seq (.ops [(w 6 0), (o (.len false (t 6)) 7), (o (.mv (ci 0)) 8)]) (.block 0 (.loop (.seq (.ops [(o (.bin .lss 3 (t 8) (t 7)) 9)]) (.seq (.cond (t 9) .skip (.exit 0)) (.seq (.block 1 (.seq (.ops [(w 10 8), (w 5 10)]) (.seq (.ops [(w 11 1), (w 12 0), (w 13 5), (o (.gJ 13 (t 12) (t 13)) 14), (o (.load true 13 (t 14)) 15), (o (.Uw (t 11) [(t 15)]) 16)]) (.cond (t 16) (.seq (.ops [(w 17 5), (w 4 17)]) .ret) .skip)))) (.ops [(o (.bin .add 3 (t 8) (ci 1)) 18), (w 8 18)]))))))) (.seq (.ops [(o (.mv (.const (.int .i64 (-1)))) 4)]) .ret)))
theorem uX : Fits Tryz.prog 183 2 pO [(.tmp 4)] := cu Tryz.func183 (by kernel_rfl) (by kernel_rfl) (by kernel_rfl)
theorem uY (F : Nat) (a0 : (List aJ)) (a1 : (aJ → Option (Bool))) (a1f : Nat) (a1c : List T) (a1p : H8 Tryz.prog a1f = true) (a1h : ∀ (t : aJ) (r : Bool), a1 t = some r → PC Tryz.prog a1f [S.agg [vi t.xType, vi t.jw, vi t.jJ, vi t.mQ, vi t.nT, vi t.fE, vi t.gX, vb t.qC, vu t.lH, vu t.dH.c0, vu t.dH.c1, vu t.dH.c2, vu t.dH.c3], S.one (.psl a1c 0)] (zb_ r)) (r : Int) (h : kC F a0 a1 = some r) : PC Tryz.prog 183 [ss aS a0, S.one (.clo a1f a1c)] (zi_ r) := by
 unfold kC at h
 refine fC uX rfl rfl ?_
 intro C hP
 unfold pO; dsimp
 apply Eso
 apply WM
 refine Wk [0, 1] [] ?_
 (try dsimp)
 obtain ⟨k1, k1d, h⟩ := fO h
 refine dV (α := Unit) (fun (i : Unit) => (⟨[], []⟩ : St)) (fun i => k1 () = some r) (fun i h => ?_) ?_
 rw [k1d] at h; dsimp only at h
 (try dsimp)
 apply Eso
 apply WM
 apply dn
 (try dsimp)
 apply bI
 cases h
 (try simp only [qt, qb, qn])
 refine aT (xs := _) ⟨_, rfl, rfl⟩ ?_
 rfl
 apply Eso
 apply WM
 refine WQ (bM rfl) ?_
 apply WM
 refine Wk [0, 1, 7, 8] [] ?_
 (try dsimp)
 apply bW
 (try dsimp)
 refine fD (α := Int) (fun (i : Int) => (⟨[(0, ss aS a0), (1, S.one (.clo a1f a1c)), (7, (zi_ ((a0.length : Nat) : Int))), (8, (zi_ i))], []⟩ : St)) (fun n i => eY F a0 a1 k1 n i = some r) F (0 : Int) h ?_ (fun n i h => ?_)
 exact (Le.b (bK ⟨rfl, rfl, rfl, rfl, trivial⟩ trivial))
 generalize i = v13 at h ⊢
 obtain _ | n14 := n
 cases h
 unfold eY at h
 (try dsimp)
 apply Eso
 refine WQ (aB rfl rfl rfl) ?_
 apply dn
 (try dsimp)
 apply bP
 refine Ec h rfl (fun h XL => ?_) (fun h XL => ?_)
 apply bG
 refine bf [0, 1, 7, 8] [] ?_
 (try dsimp)
 apply bP
 apply bW
 apply Eso
 apply WM
 apply WM
 refine Wk [0, 1, 5, 7, 8] [] ?_
 (try dsimp)
 apply Eso
 apply WM
 apply WM
 apply WM
 obtain ⟨g16, h⟩ := aV h
 refine WQ (aX rfl rfl g16.1 g16.2) ?_
 refine WQ (dX (k := 13) rfl (fun _ => rfl) g16 0 rfl rfl rfl) ?_
 obtain ⟨x17, aaq, h⟩ := aN h
 refine W1 (SS hP a1p (a1h _ _ aaq) rfl rfl rfl rfl rfl) ?_
 refine Wk [0, 1, 5, 7, 8, 16] [] ?_
 (try dsimp)
 refine Ec h rfl (fun h hc18 => ?_) (fun h hc18 => ?_)
 apply Eso
 apply WM
 apply WM
 refine Wk [4] [] ?_
 (try dsimp)
 apply bI
 cases h
 (try simp only [qt, qb, qn])
 refine aT (xs := _) ⟨_, rfl, rfl⟩ ?_
 rfl
 apply bG
 refine bf [0, 1, 7, 8] [] ?_
 (try dsimp)
 apply eP
 obtain ⟨g19, h⟩ := aV h
 refine WQ (cZ rfl rfl g19.1 g19.2) ?_
 apply WM
 apply dn
 refine ⟨n14, (v13 + (1 : Int)), Nat.lt_succ_self _, h, ?_⟩
 exact (Le.b (bK ⟨rfl, rfl, rfl, rfl, trivial⟩ trivial))
 apply gV
 refine ⟨(), h, ?_⟩
 exact (Le.b (bK trivial trivial))
def wH : dJ := (.seq (.ops [(o (.box 27 (t 0)) 2), (o (.box 3 (t 1)) 3), (o (.mv (ci 0)) 4)]) (.seq (.ops [(o (.add 4 (t 2)) 5), (o (.load false 1 (t 5)) 6), (o (.mkf 184 [(t 3)]) 7), (o (.call 183 [(t 6), (t 7)]) 8), (w 4 8)]) .ret))
theorem Dp : Fits Tryz.prog 161 2 wH [(.tmp 4)] := cu Tryz.func161 (by kernel_rfl) (by kernel_rfl) (by kernel_rfl)
theorem Dq (F : Nat) (a0 : aK) (a1 : Int) (r : Int) (h : ng F a0 a1 = some r) : PC Tryz.prog 161 [S.agg [vi a0.bH.ak, vi a0.bH.au, vi a0.bH.ay, sl aQ a0.au, sl aS a0.ay], (zi_ a1)] (zi_ r) := by
 unfold ng at h
 refine fC Dp rfl rfl ?_
 intro C hP
 unfold wH; dsimp
 apply Eso
 refine W1 (eu rfl rfl rfl rfl) ?_
 refine W1 (eu rfl rfl rfl rfl) ?_
 apply WM
 refine Wk [2, 3] [2, 3] ?_
 (try dsimp)
 apply Eso
 refine WQ (ah rfl rfl) ?_
 refine WQ (aj rfl rfl rfl) ?_
 refine W1 (Does.ghost (aar (i := 3) (r := 3) rfl rfl rfl rfl).b ((XM rfl).does)) ?_
 obtain ⟨x1, x1h, h⟩ := aN h
 refine W1 (aF hP (uY F a0.ay (fun t => lV F t a1) 184 [vi a1] (by kernel_rfl) (fun t r h => AP F t a1 r h) x1 x1h) rfl rfl rfl) ?_
 apply WM
 refine Wk [4] [] ?_
 (try dsimp)
 apply bI
 cases h
 (try simp only [qt, qb, qn])
 refine aT (xs := _) ⟨_, rfl, rfl⟩ ?_
 rfl
def vW : dJ := (.seq (.ops [(o (.box 27 (t 0)) 3), (o (.mv (cb false)) 6)]) (.seq (.seq (.ops [(o (.load true 5 (t 3)) 8), (w 9 1), (o (.call 126 [(t 8), (t 9)]) 10), (o (.un .not (t 10)) 11), (w 12 11), (g_ (.add 4 (t 3)) 13 12 false), (g_ (.load false 1 (t 13)) 14 12 false), (g_ (.mv (t 1)) 15 12 false), (g_ (.gJ 13 (t 14) (t 15)) 16 12 false), (g_ (.add 0 (t 16)) 17 12 false), (g_ (.load false 1 (t 17)) 18 12 false), (g_ (.bin .neq 3 (t 18) (ci 2)) 19 12 false), (o (.pick (t 12) (cb true) (t 19)) 20)]) (.cond (t 20) (.seq (.ops [(o (.mv (cb false)) 6)]) .ret) .skip)) (.seq (.ops [(o .Ux 21), (w 7 21)]) (.seq (.ops [(o (.load true 5 (t 3)) 22), (w 23 1), (w 24 7), (o (.call 160 [(t 22), (t 23), (t 24)]) 25)]) (.seq (.ops [(w 26 7), (o (.load true 5 (t 3)) 27), (w 28 2), (o (.call 161 [(t 27), (t 28)]) 29), (o (.QC (t 26) (t 29)) 30), (w 6 30)]) .ret)))))
theorem Bv : Fits Tryz.prog 128 3 vW [(.tmp 6)] := cu Tryz.func128 (by kernel_rfl) (by kernel_rfl) (by kernel_rfl)
theorem Bz (F : Nat) (a0 : aK) (a1 : Int) (a2 : Int) (r : Bool) (h : mG F a0 a1 a2 = some r) : PC Tryz.prog 128 [S.agg [vi a0.bH.ak, vi a0.bH.au, vi a0.bH.ay, sl aQ a0.au, sl aS a0.ay], (zi_ a1), (zi_ a2)] (zb_ r) := by
 unfold mG at h
 refine fC Bv rfl rfl ?_
 intro C hP
 unfold vW; dsimp
 apply Eso
 refine W1 (eu rfl rfl rfl rfl) ?_
 apply WM
 refine Wk [1, 2, 3] [3] ?_
 (try dsimp)
 apply bP
 apply Eso
 refine WQ qlA ?_
 apply WM
 obtain ⟨x1, x1h, h⟩ := aN h
 refine W1 (aF hP (rP F a0 a1 x1 x1h) rfl rfl rfl) ?_
 refine WQ (dM rfl) ?_
 apply WM
 apply aC
 rfl
 intro hB; (try simp only [hB, bss, ctt]); exact ah rfl rfl
 apply aC
 rfl
 intro hB; (try simp only [hB, bss, ctt]); exact aj rfl rfl rfl
 apply aC
 rfl
 intro hB; (try simp only [hB, bss, ctt]); exact aI rfl
 obtain ⟨g2, h⟩ := aV h
 apply aC
 rfl
 intro hB; (try simp only [hB, bss, ctt]); exact aX rfl rfl (g2 hB).1 (g2 hB).2
 apply aC
 rfl
 intro hB; (try simp only [hB, bss, ctt]); exact nK rfl
 apply aC
 rfl
 intro hB; (try simp only [hB, bss, ctt]); exact aZ (k := 13) rfl (fun _ => rfl) (g2 hB) 0 rfl rfl
 apply aC
 rfl
 intro hB; (try simp only [hB, bss, ctt]); exact aB rfl rfl rfl
 refine WQ (dS rfl rfl rfl) ?_
 refine Wk [1, 2, 3, 20] [3] ?_
 (try dsimp)
 refine Ec h rfl (fun h hc3 => ?_) (fun h hc3 => ?_)
 apply Eso
 apply WM
 refine Wk [6] [] ?_
 (try dsimp)
 apply bI
 cases h
 (try simp only [qt, qb, qn])
 refine aT (xs := _) ⟨_, rfl, rfl⟩ ?_
 rfl
 apply bG
 refine bf [1, 2, 3] [3] ?_
 (try dsimp)
 apply Eso
 refine YT SV ?_
 rintro _ ⟨b, hb, rfl⟩
 apply WM
 refine Wk [1, 2, 3, 7, 1000] [3] ?_
 (try dsimp)
 apply Eso
 refine WQ qlA ?_
 apply WM
 apply WM
 obtain ⟨x4, x4h, h⟩ := aN h
 refine W1 (JZ hP (J3 F a0 a1 ([] : List Int) x4 x4h) rfl rfl (Ac _ _) rfl (.inr hb) rfl) ?_
 refine Wk [2, 3, 7, 1000] [3] ?_
 (try dsimp)
 apply Eso
 apply WM
 refine WQ qlA ?_
 apply WM
 obtain ⟨x5, x5h, h⟩ := aN h
 refine W1 (aF hP (Dq F a0 a2 x5 x5h) rfl rfl rfl) ?_
 refine WQ (JY rfl rfl rfl) ?_
 apply WM
 refine Wk [6, 1000] [] ?_
 (try dsimp)
 apply bI
 cases h
 (try simp only [qt, qb, qn])
 refine aT (xs := _) ⟨_, rfl, rfl⟩ ?_
 rfl
def xP : dJ := (.seq (.ops [(o (.box 27 (t 0)) 1), (o (.mv (cb false)) 2)]) (.seq (.seq (.ops [(o (.add 3 (t 1)) 5), (o (.load false 1 (t 5)) 6), (o (.len false (t 6)) 7), (o (.mv (ci 0)) 8)]) (.block 0 (.loop (.seq (.ops [(o (.bin .lss 3 (t 8) (t 7)) 9)]) (.seq (.cond (t 9) .skip (.exit 0)) (.seq (.block 1 (.seq (.ops [(w 10 8), (o (.gJ 5 (t 6) (t 8)) 11), (o (.load true 5 (t 11)) 12), (o (.jR [zi, zi, zi, zi, zi]) 4), (w 3 10), (n_ (.store 5 (t 4) (t 12)))]) (.seq (.ops [(o (.add 0 (t 4)) 13), (o (.add 0 (t 13)) 14), (o (.load false 1 (t 14)) 15), (o (.bin .eql 3 (t 15) (ci 2)) 16), (w 17 16), (g_ (.load true 5 (t 1)) 18 17 true), (g_ (.add 0 (t 4)) 19 17 true), (g_ (.add 1 (t 19)) 20 17 true), (g_ (.load false 1 (t 20)) 21 17 true), (g_ (.mv (t 3)) 22 17 true), (g_ (.call 128 [(t 18), (t 21), (t 22)]) 23 17 true), (o (.pick (t 17) (t 23) (cb false)) 24)]) (.cond (t 24) (.seq (.ops [(o (.mv (cb true)) 2)]) .ret) .skip)))) (.ops [(o (.bin .add 3 (t 8) (ci 1)) 25), (w 8 25)]))))))) (.seq (.ops [(o (.mv (cb false)) 2)]) .ret)))
theorem Ej : Fits Tryz.prog 89 1 xP [(.tmp 2)] := cu Tryz.func89 (by kernel_rfl) (by kernel_rfl) (by kernel_rfl)
theorem Em (F : Nat) (a0 : aK) (r : Bool) (h : lg F a0 = some r) : PC Tryz.prog 89 [S.agg [vi a0.bH.ak, vi a0.bH.au, vi a0.bH.ay, sl aQ a0.au, sl aS a0.ay]] (zb_ r) := by
 unfold lg at h
 refine fC Ej rfl rfl ?_
 intro C hP
 unfold xP; dsimp
 apply Eso
 refine W1 (eu rfl rfl rfl rfl) ?_
 apply WM
 refine Wk [1] [1] ?_
 (try dsimp)
 obtain ⟨k1, k1d, h⟩ := fO h
 refine dV (α := Unit) (fun (i : Unit) => (⟨[], []⟩ : St)) (fun i => k1 () = some r) (fun i h => ?_) ?_
 rw [k1d] at h; dsimp only at h
 (try dsimp)
 apply Eso
 apply WM
 apply dn
 (try dsimp)
 apply bI
 cases h
 (try simp only [qt, qb, qn])
 refine aT (xs := _) ⟨_, rfl, rfl⟩ ?_
 rfl
 apply Eso
 refine WQ (ah rfl rfl) ?_
 refine WQ (aj rfl rfl rfl) ?_
 refine WQ (bM rfl) ?_
 apply WM
 refine Wk [1, 6, 7, 8] [1] ?_
 (try dsimp)
 apply bW
 (try dsimp)
 refine fD (α := Int) (fun (i : Int) => (⟨[(1, S.one (.ptr 1 0)), (6, ss aQ a0.au), (7, (zi_ ((a0.au.length : Nat) : Int))), (8, (zi_ i))], [(1, (⟨true, [vi a0.bH.ak, vi a0.bH.au, vi a0.bH.ay, sl aQ a0.au, sl aS a0.ay]⟩ : Reg))]⟩ : St)) (fun n i => gW F a0 k1 n i = some r) F (0 : Int) h ?_ (fun n i h => ?_)
 exact (Le.b (bK ⟨rfl, rfl, rfl, rfl, trivial⟩ ⟨rfl, trivial⟩))
 generalize i = v13 at h ⊢
 obtain _ | n14 := n
 cases h
 unfold gW at h
 (try dsimp)
 apply Eso
 refine WQ (aB rfl rfl rfl) ?_
 apply dn
 (try dsimp)
 apply bP
 refine Ec h rfl (fun h XL => ?_) (fun h XL => ?_)
 apply bG
 refine bf [1, 6, 7, 8] [1] ?_
 (try dsimp)
 apply bP
 apply bW
 apply Eso
 apply WM
 obtain ⟨g16, h⟩ := aV h
 refine WQ (aX rfl rfl g16.1 g16.2) ?_
 refine WQ (dX (k := 5) rfl (fun _ => rfl) g16 0 rfl rfl rfl) ?_
 refine W1 (dw rfl rfl) ?_
 apply WM
 refine W1 dst ?_
 refine Wk [1, 3, 4, 6, 7, 8] [1, 4] ?_
 (try dsimp)
 apply Eso
 refine WQ (ah rfl rfl) ?_
 refine WQ (ah rfl rfl) ?_
 refine WQ (aj rfl rfl rfl) ?_
 refine WQ (aB rfl rfl rfl) ?_
 apply WM
 apply aC
 rfl
 intro hB; (try simp only [hB, bss, ctt]); exact qlA
 apply aC
 rfl
 intro hB; (try simp only [hB, bss, ctt]); exact ah rfl rfl
 apply aC
 rfl
 intro hB; (try simp only [hB, bss, ctt]); exact ah rfl rfl
 apply aC
 rfl
 intro hB; (try simp only [hB, bss, ctt]); exact aj rfl rfl rfl
 apply aC
 rfl
 intro hB; (try simp only [hB, bss, ctt]); exact aI rfl
 obtain ⟨x17, aaq, h⟩ := aN h
 apply jk
 rfl
 intro hB; (try simp only [hB, bss, ctt]); exact aF hP (Bz F a0 ((nth a0.au v13).iF.iO) v13 x17 (jW aaq (bt hB))) rfl rfl rfl
 refine WQ (dK rfl rfl rfl) ?_
 refine Wk [1, 6, 7, 8, 24] [1] ?_
 (try dsimp)
 refine Ec h rfl (fun h hc18 => ?_) (fun h hc18 => ?_)
 apply Eso
 apply WM
 refine Wk [2] [] ?_
 (try dsimp)
 apply bI
 cases h
 (try simp only [qt, qb, qn])
 refine aT (xs := _) ⟨_, rfl, rfl⟩ ?_
 rfl
 apply bG
 refine bf [1, 6, 7, 8] [1] ?_
 (try dsimp)
 apply eP
 obtain ⟨g19, h⟩ := aV h
 refine WQ (cZ rfl rfl g19.1 g19.2) ?_
 apply WM
 apply dn
 refine ⟨n14, (v13 + (1 : Int)), Nat.lt_succ_self _, h, ?_⟩
 exact (Le.b (bK ⟨rfl, rfl, rfl, rfl, trivial⟩ ⟨rfl, trivial⟩))
 apply gV
 refine ⟨(), h, ?_⟩
 exact (Le.b (bK trivial trivial))
def BA : dJ := (.seq (.ops [(o (.box 27 (t 0)) 1), (o (.jR [.nil]) 2)]) (.seq (.ops [(o (.jR [.nil]) 3)]) (.seq (.seq (.ops [(o (.add 3 (t 1)) 6), (o (.load false 1 (t 6)) 7), (o (.len false (t 7)) 8), (o (.mv (ci 0)) 9)]) (.block 0 (.loop (.seq (.ops [(o (.bin .lss 3 (t 9) (t 8)) 10)]) (.seq (.cond (t 10) .skip (.exit 0)) (.seq (.block 1 (.seq (.ops [(o (.gJ 5 (t 7) (t 9)) 11), (o (.load true 5 (t 11)) 12), (o (.jR [zi, zi, zi, zi, zi]) 5), (n_ (.store 5 (t 5) (t 12)))]) (.seq (.seq (.ops [(o (.add 0 (t 5)) 13), (o (.load true 4 (t 13)) 14), (o (.call 125 [(t 14)]) 15)]) (.cond (t 15) (.ops [(o (.add 4 (t 5)) 16), (n_ (.store 1 (t 16) (.const (.int .i64 (-2)))))]) .skip)) (.ops [(o (.add 0 (t 3)) 17), (o (.load false 1 (t 17)) 18), (o (.add 4 (t 5)) 19), (o (.load false 1 (t 19)) 20), (o (.kK 1 3 1 [zi] [(0, (1, (t 20)))]) 21), (o (.app 47 3 1 8 (t 18) (t 21)) 22), (o (.add 0 (t 3)) 23), (n_ (.store 1 (t 23) (t 22)))])))) (.ops [(o (.bin .add 3 (t 9) (ci 1)) 24), (w 9 24)]))))))) (.seq (.ops [(o (.load true 1 (t 3)) 25), (n_ (.store 1 (t 2) (t 25)))]) .ret))))
theorem J4 : Fits Tryz.prog 91 1 BA [(.cell true 1 2)] := cu Tryz.func91 (by kernel_rfl) (by kernel_rfl) (by kernel_rfl)
theorem J5 (F : Nat) (a0 : aK) (r : iR) (h : mF F a0 = some r) : PC Tryz.prog 91 [S.agg [vi a0.bH.ak, vi a0.bH.au, vi a0.bH.ay, sl aQ a0.au, sl aS a0.ay]] (S.agg [sl bT r.xUp]) := by
 unfold mF at h
 refine fC J4 rfl rfl ?_
 intro C hP
 unfold BA; dsimp
 apply Eso
 refine W1 (eu rfl rfl rfl rfl) ?_
 refine W1 (dw rfl rfl) ?_
 refine Wk [1, 2] [1, 2] ?_
 (try dsimp)
 apply Eso
 refine W1 (dw rfl rfl) ?_
 apply dn
 (try dsimp)
 obtain ⟨k2, k2d, h⟩ := fO h
 refine dV (α := (List Int)) (fun (i : (List Int)) => (⟨[(2, S.one (.ptr 2 0)), (3, S.one (.ptr 3 0))], [(2, (⟨true, [.nil]⟩ : Reg)), (3, (⟨false, [.own 1022 0 i.length (some (1, 3))]⟩ : Reg)), (1022, (⟨true, flat bT i⟩ : Reg))]⟩ : St)) (fun i => k2 i = some r) (fun i h => ?_) ?_
 let iv := i; change k2 i = some r at h; generalize i = v1 at h ⊢
 rw [k2d] at h; dsimp only at h
 (try dsimp)
 apply Eso
 refine WQ qlA ?_
 refine W1 dst ?_
 refine Wk [2] [2, 1022] ?_
 (try dsimp)
 refine fA (l7 (r := 1022) rfl rfl).b ?_
 (try dsimp)
 apply bI
 cases h
 (try simp only [qt, qb, qn])
 refine aT (xs := _) ⟨_, _, fG rfl (by simp), rfl, rfl, rfl⟩ ?_
 rfl
 apply Eso
 refine WQ (ah rfl rfl) ?_
 refine WQ (aj rfl rfl rfl) ?_
 refine WQ (bM rfl) ?_
 apply WM
 refine Wk [2, 3, 7, 8, 9] [2, 3] ?_
 (try dsimp)
 apply bW
 (try dsimp)
 refine fD (α := Int × (List Int)) (fun (i : Int × (List Int)) => (⟨[(2, S.one (.ptr 2 0)), (3, S.one (.ptr 3 0)), (7, ss aQ a0.au), (8, (zi_ ((a0.au.length : Nat) : Int))), (9, (zi_ i.1))], [(2, (⟨true, [.nil]⟩ : Reg)), (3, (⟨false, [.own 1022 0 i.2.length (some (1, 3))]⟩ : Reg)), (1022, (⟨true, flat bT i.2⟩ : Reg))]⟩ : St)) (fun n i => iL F a0 k2 n i.1 i.2 = some r) F ((0 : Int), ([] : List Int)) h ?_ (fun n i h => ?_)
 refine iZ (tN (q := 3) (j := 0) (r := 1022) 1 3 rfl rfl rfl rfl) ?_
 exact (Le.b (bK ⟨rfl, rfl, rfl, rfl, rfl, trivial⟩ ⟨rfl, rfl, rfl, trivial⟩))
 obtain ⟨v21, v22⟩ := i; dsimp only at h
 obtain _ | n23 := n
 cases h
 unfold iL at h
 (try dsimp)
 apply Eso
 refine WQ (aB rfl rfl rfl) ?_
 apply dn
 (try dsimp)
 apply bP
 refine Ec h rfl (fun h hc24 => ?_) (fun h hc24 => ?_)
 apply bG
 refine bf [2, 3, 7, 8, 9] [2, 3, 1022] ?_
 (try dsimp)
 apply bP
 apply bW
 apply Eso
 obtain ⟨g25, h⟩ := aV h
 refine WQ (aX rfl rfl g25.1 g25.2) ?_
 refine WQ (dX (k := 5) rfl (fun _ => rfl) g25 0 rfl rfl rfl) ?_
 refine W1 (dw rfl rfl) ?_
 refine W1 dst ?_
 refine Wk [2, 3, 5, 7, 8, 9] [2, 3, 5, 1022] ?_
 (try dsimp)
 obtain ⟨k27, aas, h⟩ := fO h
 refine dV (α := Int) (fun (i : Int) => (⟨[(2, S.one (.ptr 2 0)), (3, S.one (.ptr 3 0)), (5, S.one (.ptr 5 0)), (7, ss aQ a0.au), (8, (zi_ ((a0.au.length : Nat) : Int))), (9, (zi_ v21))], [(2, (⟨true, [.nil]⟩ : Reg)), (3, (⟨false, [.own 1022 0 v22.length (some (1, 3))]⟩ : Reg)), (5, (⟨true, [vi (nth a0.au v21).iF.xType, vi (nth a0.au v21).iF.iO, vi (nth a0.au v21).iF.kL, vi (nth a0.au v21).iF.gX, vi i]⟩ : Reg)), (1022, (⟨true, flat bT v22⟩ : Reg))]⟩ : St)) (fun i => k27 i = some r) (fun i h => ?_) ?_
 let iv := i; change k27 i = some r at h; generalize i = v26 at h ⊢
 rw [aas] at h; dsimp only at h
 (try dsimp)
 apply eP
 refine WQ (ah rfl rfl) ?_
 refine WQ (aj rfl rfl rfl) ?_
 refine WQ (ah rfl rfl) ?_
 refine WQ (aj rfl rfl rfl) ?_
 refine W1 (dY rfl rfl rfl rfl) ?_
 obtain ⟨g28, h⟩ := aV h
 refine W1 (jc (e := bT) rfl rfl (fun _ => rfl) (fun _ => rfl) rfl (Src.lit (e := bT) ([v26] : List Int) rfl (fun _ => rfl) rfl rfl) g28 rfl) ?_
 refine WQ (ah rfl rfl) ?_
 refine W1 dst ?_
 refine Wk [2, 3, 7, 8, 9] [2, 3, 1022] ?_
 (try dsimp)
 apply eP
 obtain ⟨g29, h⟩ := aV h
 refine WQ (cZ rfl rfl g29.1 g29.2) ?_
 apply WM
 apply dn
 refine ⟨n23, ((v21 + (1 : Int)), (v22 ++ ([v26] : List Int))), Nat.lt_succ_self _, h, ?_⟩
 exact (Le.b (bK ⟨rfl, rfl, rfl, rfl, rfl, trivial⟩ ⟨rfl, rfl, rfl, trivial⟩))
 apply Eso
 refine WQ (ah rfl rfl) ?_
 refine WQ qlA ?_
 obtain ⟨x30, aat, h⟩ := aN h
 refine W1 (aF hP (qp F ((nth a0.au v21).iF) x30 aat) rfl rfl rfl) ?_
 refine Wk [2, 3, 5, 7, 8, 9, 15] [2, 3, 5, 1022] ?_
 (try dsimp)
 refine Ec h rfl (fun h hc31 => ?_) (fun h hc31 => ?_)
 apply eP
 refine WQ (ah rfl rfl) ?_
 refine W1 dst ?_
 apply dn
 refine ⟨(-2 : Int), h, ?_⟩
 exact (Le.b (bK ⟨rfl, rfl, rfl, rfl, rfl, rfl, trivial⟩ ⟨rfl, rfl, rfl, rfl, trivial⟩))
 apply bG
 refine ⟨(nth a0.au v21).xUp, h, ?_⟩
 exact (Le.b (bK ⟨rfl, rfl, rfl, rfl, rfl, rfl, trivial⟩ ⟨rfl, rfl, rfl, rfl, trivial⟩))
 apply gV
 refine ⟨v22, h, ?_⟩
 exact (Le.b (bK ⟨rfl, rfl, trivial⟩ ⟨rfl, rfl, rfl, trivial⟩))
def xQ : dJ := (.seq (.ops [(o (.box 179 (t 0)) 2), (o (.mv (cb false)) 4)]) (.seq (.ops [(w 5 1), (o (.bin .geq 3 (t 5) (ci 0)) 6), (w 7 6), (g_ (.mv (t 1)) 8 7 true), (g_ (.add 0 (t 2)) 9 7 true), (g_ (.load false 1 (t 9)) 10 7 true), (g_ (.len false (t 10)) 11 7 true), (g_ (.bin .lss 3 (t 8) (t 11)) 12 7 true), (o (.pick (t 7) (t 12) (cb false)) 13), (w 14 13), (g_ (.add 0 (t 2)) 15 14 true), (g_ (.load false 1 (t 15)) 16 14 true), (g_ (.mv (t 1)) 17 14 true), (g_ (.gJ 1 (t 16) (t 17)) 18 14 true), (g_ (.load false 1 (t 18)) 19 14 true), (g_ (.bin .neq 3 (t 19) (.const (.int .i64 (-2)))) 20 14 true), (o (.pick (t 14) (t 20) (cb false)) 21), (w 4 21)]) .ret))
theorem En : Fits Tryz.prog 129 2 xQ [(.tmp 4)] := cu Tryz.func129 (by kernel_rfl) (by kernel_rfl) (by kernel_rfl)
theorem xR (F : Nat) (a0 : iR) (a1 : Int) (r : Bool) (h : iP F a0 a1 = some r) : PC Tryz.prog 129 [S.agg [sl bT a0.xUp], (zi_ a1)] (zb_ r) := by
 unfold iP at h
 refine fC En rfl rfl ?_
 intro C hP
 unfold xQ; dsimp
 apply Eso
 refine W1 (eu rfl rfl rfl rfl) ?_
 apply WM
 refine Wk [1, 2] [2] ?_
 (try dsimp)
 apply Eso
 apply WM
 refine WQ (aB rfl rfl rfl) ?_
 apply WM
 apply aC
 rfl
 intro hB; (try simp only [hB, bss, ctt]); exact aI rfl
 apply aC
 rfl
 intro hB; (try simp only [hB, bss, ctt]); exact ah rfl rfl
 apply aC
 rfl
 intro hB; (try simp only [hB, bss, ctt]); exact aj rfl rfl rfl
 apply aC
 rfl
 intro hB; (try simp only [hB, bss, ctt]); exact bM rfl
 apply aC
 rfl
 intro hB; (try simp only [hB, bss, ctt]); exact aB rfl rfl rfl
 refine WQ (dK rfl rfl rfl) ?_
 apply WM
 apply aC
 rfl
 intro hB; (try simp only [hB, bss, ctt]); exact ah rfl rfl
 apply aC
 rfl
 intro hB; (try simp only [hB, bss, ctt]); exact aj rfl rfl rfl
 apply aC
 rfl
 intro hB; (try simp only [hB, bss, ctt]); exact aI rfl
 obtain ⟨g1, h⟩ := aV h
 apply aC
 rfl
 intro hB; (try simp only [hB, bss, ctt]); exact aX rfl rfl (g1 hB).1 (g1 hB).2
 apply aC
 rfl
 intro hB; (try simp only [hB, bss, ctt]); exact aZ (k := 1) rfl (fun _ => rfl) (g1 hB) 0 rfl rfl
 apply aC
 rfl
 intro hB; (try simp only [hB, bss, ctt]); exact aB rfl rfl rfl
 refine WQ (dK rfl rfl rfl) ?_
 apply WM
 refine Wk [4] [] ?_
 (try dsimp)
 apply bI
 cases h
 (try simp only [qt, qb, qn])
 refine aT (xs := _) ⟨_, rfl, rfl⟩ ?_
 rfl
def DC : dJ := (.seq (.ops [(o (.box 179 (t 0)) 1), (o (.mv (cb false)) 2)]) (.seq (.seq (.ops [(o (.add 0 (t 1)) 8), (o (.load false 1 (t 8)) 9), (o (.len false (t 9)) 10), (o (.bin .gtr 3 (t 10) (ci 96)) 11)]) (.cond (t 11) (.seq (.ops [(o (.mv (cb false)) 2)]) .ret) .skip)) (.seq (.seq (.ops [(o (.add 0 (t 1)) 12), (o (.load false 1 (t 12)) 13), (o (.len false (t 13)) 14), (o (.mv (ci 0)) 15)]) (.block 0 (.loop (.seq (.ops [(o (.bin .lss 3 (t 15) (t 14)) 16)]) (.seq (.cond (t 16) .skip (.exit 0)) (.seq (.block 1 (.seq (.ops [(o (.gJ 1 (t 13) (t 15)) 17), (o (.load false 1 (t 17)) 18), (w 4 18)]) (.seq (.ops [(w 19 4), (o (.bin .neq 3 (t 19) (.const (.int .i64 (-2)))) 20), (w 21 20), (g_ (.mv (t 4)) 22 21 true), (g_ (.bin .neq 3 (t 22) (.const (.int .i64 (-1)))) 23 21 true), (o (.pick (t 21) (t 23) (cb false)) 24), (w 25 24), (g_ (.load true 1 (t 1)) 26 25 true), (g_ (.mv (t 4)) 27 25 true), (g_ (.call 129 [(t 26), (t 27)]) 28 25 true), (g_ (.un .not (t 28)) 29 25 true), (o (.pick (t 25) (t 29) (cb false)) 30)]) (.cond (t 30) (.seq (.ops [(o (.mv (cb false)) 2)]) .ret) .skip)))) (.ops [(o (.bin .add 3 (t 15) (ci 1)) 31), (w 15 31)]))))))) (.seq (.seq (.ops [(o (.add 0 (t 1)) 32), (o (.load false 1 (t 32)) 33), (o (.len false (t 33)) 34), (o (.mv (ci 0)) 35)]) (.block 2 (.loop (.seq (.ops [(o (.bin .lss 3 (t 35) (t 34)) 36)]) (.seq (.cond (t 36) .skip (.exit 2)) (.seq (.block 3 (.seq (.ops [(w 37 35), (w 5 37)]) (.seq (.ops [(o (.mv (ci 0)) 6)]) (.seq (.ops [(w 38 5), (w 7 38)]) (.block 4 (.loop (.seq (.seq (.ops [(o (.load true 1 (t 1)) 39), (w 40 7), (o (.call 129 [(t 39), (t 40)]) 41)]) (.cond (t 41) .skip (.exit 4))) (.seq (.block 5 (.seq (.seq (.ops [(w 47 6), (o (.add 0 (t 1)) 48), (o (.load false 1 (t 48)) 49), (o (.len false (t 49)) 50), (o (.bin .gtr 3 (t 47) (t 50)) 51)]) (.cond (t 51) (.seq (.ops [(o (.mv (cb false)) 2)]) .ret) .skip)) (.ops [(w 52 6), (o (.bin .add 3 (t 52) (ci 1)) 53), (w 6 53)]))) (.ops [(o (.add 0 (t 1)) 42), (o (.load false 1 (t 42)) 43), (w 44 7), (o (.gJ 1 (t 43) (t 44)) 45), (o (.load false 1 (t 45)) 46), (w 7 46)]))))))))) (.ops [(o (.bin .add 3 (t 35) (ci 1)) 54), (w 35 54)]))))))) (.seq (.ops [(o (.mv (cb true)) 2)]) .ret)))))
theorem L6 : Fits Tryz.prog 90 1 DC [(.tmp 2)] := cu Tryz.func90 (by kernel_rfl) (by kernel_rfl) (by kernel_rfl)
theorem L8 (F : Nat) (a0 : iR) (r : Bool) (h : oO F a0 = some r) : PC Tryz.prog 90 [S.agg [sl bT a0.xUp]] (zb_ r) := by
 unfold oO at h
 refine fC L6 rfl rfl ?_
 intro C hP
 unfold DC; dsimp
 apply Eso
 refine W1 (eu rfl rfl rfl rfl) ?_
 apply WM
 refine Wk [1] [1] ?_
 (try dsimp)
 apply bP
 apply Eso
 refine WQ (ah rfl rfl) ?_
 refine WQ (aj rfl rfl rfl) ?_
 refine WQ (bM rfl) ?_
 refine WQ (aB rfl rfl rfl) ?_
 refine Wk [1, 11] [1] ?_
 (try dsimp)
 refine Ec h rfl (fun h hc1 => ?_) (fun h hc1 => ?_)
 apply Eso
 apply WM
 refine Wk [2] [] ?_
 (try dsimp)
 apply bI
 cases h
 (try simp only [qt, qb, qn])
 refine aT (xs := _) ⟨_, rfl, rfl⟩ ?_
 rfl
 apply bG
 refine bf [1] [1] ?_
 (try dsimp)
 obtain ⟨k2, k2d, h⟩ := fO h
 refine dV (α := Unit) (fun (i : Unit) => (⟨[(1, S.one (.ptr 1 0))], [(1, (⟨true, [sl bT a0.xUp]⟩ : Reg))]⟩ : St)) (fun i => k2 () = some r) (fun i h => ?_) ?_
 rw [k2d] at h; dsimp only at h
 (try dsimp)
 obtain ⟨k3, k3d, h⟩ := fO h
 refine dV (α := Unit) (fun (i : Unit) => (⟨[], []⟩ : St)) (fun i => k3 () = some r) (fun i h => ?_) ?_
 rw [k3d] at h; dsimp only at h
 (try dsimp)
 apply Eso
 apply WM
 apply dn
 (try dsimp)
 apply bI
 cases h
 (try simp only [qt, qb, qn])
 refine aT (xs := _) ⟨_, rfl, rfl⟩ ?_
 rfl
 apply Eso
 refine WQ (ah rfl rfl) ?_
 refine WQ (aj rfl rfl rfl) ?_
 refine WQ (bM rfl) ?_
 apply WM
 refine Wk [1, 34, 35] [1] ?_
 (try dsimp)
 apply bW
 (try dsimp)
 refine fD (α := Int) (fun (i : Int) => (⟨[(1, S.one (.ptr 1 0)), (34, (zi_ ((a0.xUp.length : Nat) : Int))), (35, (zi_ i))], [(1, (⟨true, [sl bT a0.xUp]⟩ : Reg))]⟩ : St)) (fun n i => jq F a0 k3 n i = some r) F (0 : Int) h ?_ (fun n i h => ?_)
 exact (Le.b (bK ⟨rfl, rfl, rfl, trivial⟩ ⟨rfl, trivial⟩))
 generalize i = v51 at h ⊢
 obtain _ | n52 := n
 cases h
 unfold jq at h
 (try dsimp)
 apply Eso
 refine WQ (aB rfl rfl rfl) ?_
 apply dn
 (try dsimp)
 apply bP
 refine Ec h rfl (fun h ac1 => ?_) (fun h ac1 => ?_)
 apply bG
 refine bf [1, 34, 35] [1] ?_
 (try dsimp)
 obtain ⟨k54, ac2, h⟩ := fO h
 refine dV (α := Unit) (fun (i : Unit) => (⟨[(1, S.one (.ptr 1 0)), (34, (zi_ ((a0.xUp.length : Nat) : Int))), (35, (zi_ v51))], [(1, (⟨true, [sl bT a0.xUp]⟩ : Reg))]⟩ : St)) (fun i => k54 () = some r) (fun i h => ?_) ?_
 rw [ac2] at h; dsimp only at h
 (try dsimp)
 apply eP
 obtain ⟨g55, h⟩ := aV h
 refine WQ (cZ rfl rfl g55.1 g55.2) ?_
 apply WM
 apply dn
 refine ⟨n52, (v51 + (1 : Int)), Nat.lt_succ_self _, h, ?_⟩
 exact (Le.b (bK ⟨rfl, rfl, rfl, trivial⟩ ⟨rfl, trivial⟩))
 apply bW
 apply Eso
 apply WM
 apply WM
 refine Wk [1, 5, 34, 35] [1] ?_
 (try dsimp)
 apply Eso
 apply WM
 apply dn
 (try dsimp)
 apply Eso
 apply WM
 apply WM
 refine Wk [1, 6, 7, 34, 35] [1] ?_
 (try dsimp)
 apply bW
 (try dsimp)
 refine fD (α := Int × Int) (fun (i : Int × Int) => (⟨[(1, S.one (.ptr 1 0)), (6, (zi_ i.1)), (7, (zi_ i.2)), (34, (zi_ ((a0.xUp.length : Nat) : Int))), (35, (zi_ v51))], [(1, (⟨true, [sl bT a0.xUp]⟩ : Reg))]⟩ : St)) (fun n i => gy F a0 k54 n i.1 i.2 = some r) F ((0 : Int), v51) h ?_ (fun n i h => ?_)
 exact (Le.b (bK ⟨rfl, rfl, rfl, rfl, rfl, trivial⟩ ⟨rfl, trivial⟩))
 obtain ⟨v68, v69⟩ := i; dsimp only at h
 obtain _ | n70 := n
 cases h
 unfold gy at h
 (try dsimp)
 apply bP
 apply Eso
 refine WQ qlA ?_
 apply WM
 obtain ⟨x71, ac3, h⟩ := aN h
 refine W1 (aF hP (xR F a0 v69 x71 ac3) rfl rfl rfl) ?_
 refine Wk [1, 6, 7, 34, 35, 41] [1] ?_
 (try dsimp)
 refine Ec h rfl (fun h aau => ?_) (fun h aau => ?_)
 apply bG
 refine bf [1, 6, 7, 34, 35] [1] ?_
 (try dsimp)
 apply bP
 apply bW
 apply bP
 apply Eso
 apply WM
 refine WQ (ah rfl rfl) ?_
 refine WQ (aj rfl rfl rfl) ?_
 refine WQ (bM rfl) ?_
 refine WQ (aB rfl rfl rfl) ?_
 refine Wk [1, 6, 7, 34, 35, 51] [1] ?_
 (try dsimp)
 refine Ec h rfl (fun h aav => ?_) (fun h aav => ?_)
 apply Eso
 apply WM
 refine Wk [2] [] ?_
 (try dsimp)
 apply bI
 cases h
 (try simp only [qt, qb, qn])
 refine aT (xs := _) ⟨_, rfl, rfl⟩ ?_
 rfl
 apply bG
 refine bf [1, 6, 7, 34, 35] [1] ?_
 (try dsimp)
 apply eP
 apply WM
 obtain ⟨g74, h⟩ := aV h
 refine WQ (cZ rfl rfl g74.1 g74.2) ?_
 apply WM
 refine Wk [1, 6, 7, 34, 35] [1] ?_
 (try dsimp)
 apply eP
 refine WQ (ah rfl rfl) ?_
 refine WQ (aj rfl rfl rfl) ?_
 apply WM
 obtain ⟨g75, h⟩ := aV h
 refine WQ (aX rfl rfl g75.1 g75.2) ?_
 refine WQ (aZ (k := 1) rfl (fun _ => rfl) g75 0 rfl rfl) ?_
 apply WM
 apply dn
 refine ⟨n70, ((v68 + (1 : Int)), (nth a0.xUp v69)), Nat.lt_succ_self _, h, ?_⟩
 exact (Le.b (bK ⟨rfl, rfl, rfl, rfl, rfl, trivial⟩ ⟨rfl, trivial⟩))
 apply gV
 refine ⟨(), h, ?_⟩
 exact (Le.b (bK ⟨rfl, rfl, rfl, trivial⟩ ⟨rfl, trivial⟩))
 apply gV
 refine ⟨(), h, ?_⟩
 exact (Le.b (bK trivial trivial))
 apply Eso
 refine WQ (ah rfl rfl) ?_
 refine WQ (aj rfl rfl rfl) ?_
 refine WQ (bM rfl) ?_
 apply WM
 refine Wk [1, 13, 14, 15] [1] ?_
 (try dsimp)
 apply bW
 (try dsimp)
 refine fD (α := Int) (fun (i : Int) => (⟨[(1, S.one (.ptr 1 0)), (13, ss bT a0.xUp), (14, (zi_ ((a0.xUp.length : Nat) : Int))), (15, (zi_ i))], [(1, (⟨true, [sl bT a0.xUp]⟩ : Reg))]⟩ : St)) (fun n i => jo F a0 k2 n i = some r) F (0 : Int) h ?_ (fun n i h => ?_)
 exact (Le.b (bK ⟨rfl, rfl, rfl, rfl, trivial⟩ ⟨rfl, trivial⟩))
 generalize i = v87 at h ⊢
 obtain _ | n88 := n
 cases h
 unfold jo at h
 (try dsimp)
 apply Eso
 refine WQ (aB rfl rfl rfl) ?_
 apply dn
 (try dsimp)
 apply bP
 refine Ec h rfl (fun h ac4 => ?_) (fun h ac4 => ?_)
 apply bG
 refine bf [1, 13, 14, 15] [1] ?_
 (try dsimp)
 apply bP
 apply bW
 apply Eso
 obtain ⟨g90, h⟩ := aV h
 refine WQ (aX rfl rfl g90.1 g90.2) ?_
 refine WQ (aZ (k := 1) rfl (fun _ => rfl) g90 0 rfl rfl) ?_
 apply WM
 refine Wk [1, 4, 13, 14, 15] [1] ?_
 (try dsimp)
 apply Eso
 apply WM
 refine WQ (aB rfl rfl rfl) ?_
 apply WM
 apply aC
 rfl
 intro hB; (try simp only [hB, bss, ctt]); exact aI rfl
 apply aC
 rfl
 intro hB; (try simp only [hB, bss, ctt]); exact aB rfl rfl rfl
 refine WQ (dK rfl rfl rfl) ?_
 apply WM
 apply aC
 rfl
 intro hB; (try simp only [hB, bss, ctt]); exact qlA
 apply aC
 rfl
 intro hB; (try simp only [hB, bss, ctt]); exact aI rfl
 obtain ⟨x91, ac5, h⟩ := aN h
 apply jk
 rfl
 intro hB; (try simp only [hB, bss, ctt]); exact aF hP (xR F a0 (nth a0.xUp v87) x91 (jW ac5 (bt hB))) rfl rfl rfl
 apply aC
 rfl
 intro hB; (try simp only [hB, bss, ctt]); exact dM rfl
 refine WQ (dK rfl rfl rfl) ?_
 refine Wk [1, 13, 14, 15, 30] [1] ?_
 (try dsimp)
 refine Ec h rfl (fun h aaw => ?_) (fun h aaw => ?_)
 apply Eso
 apply WM
 refine Wk [2] [] ?_
 (try dsimp)
 apply bI
 cases h
 (try simp only [qt, qb, qn])
 refine aT (xs := _) ⟨_, rfl, rfl⟩ ?_
 rfl
 apply bG
 refine bf [1, 13, 14, 15] [1] ?_
 (try dsimp)
 apply eP
 obtain ⟨g93, h⟩ := aV h
 refine WQ (cZ rfl rfl g93.1 g93.2) ?_
 apply WM
 apply dn
 refine ⟨n88, (v87 + (1 : Int)), Nat.lt_succ_self _, h, ?_⟩
 exact (Le.b (bK ⟨rfl, rfl, rfl, rfl, trivial⟩ ⟨rfl, trivial⟩))
 apply gV
 refine ⟨(), h, ?_⟩
 exact (Le.b (bK ⟨rfl, trivial⟩ ⟨rfl, trivial⟩))
def J6 : dJ := (.seq (.ops [(o (.mv (ci 0)) 2)]) (.seq (.seq (.ops [(w 3 0), (o (.call 136 [(t 3)]) 4), (o (.un .not (t 4)) 5)]) (.cond (t 5) (.seq (.ops [(o (.mv (ci 0)) 2)]) .ret) .skip)) (.seq (.ops [(w 6 0), (w 2 6)]) .ret)))
theorem SX : Fits Tryz.prog 196 1 J6 [(.tmp 2)] := cu Tryz.func196 (by kernel_rfl) (by kernel_rfl) (by kernel_rfl)
theorem J7 (F : Nat) (a0 : Int) (r : Int) (h : uS F a0 = some r) : PC Tryz.prog 196 [(zi_ a0)] (zi_ r) := by
 unfold uS at h
 refine fC SX rfl rfl ?_
 intro C hP
 unfold J6; dsimp
 apply Eso
 apply WM
 refine Wk [0] [] ?_
 (try dsimp)
 apply bP
 apply Eso
 apply WM
 obtain ⟨x1, x1h, h⟩ := aN h
 refine W1 (aF hP (Fj F a0 x1 x1h) rfl rfl rfl) ?_
 refine WQ (dM rfl) ?_
 refine Wk [0, 5] [] ?_
 (try dsimp)
 refine Ec h rfl (fun h hc2 => ?_) (fun h hc2 => ?_)
 apply Eso
 apply WM
 refine Wk [2] [] ?_
 (try dsimp)
 apply bI
 cases h
 (try simp only [qt, qb, qn])
 refine aT (xs := _) ⟨_, rfl, rfl⟩ ?_
 rfl
 apply bG
 refine bf [0] [] ?_
 (try dsimp)
 apply Eso
 apply WM
 apply WM
 refine Wk [2] [] ?_
 (try dsimp)
 apply bI
 cases h
 (try simp only [qt, qb, qn])
 refine aT (xs := _) ⟨_, rfl, rfl⟩ ?_
 rfl
def Fq : dJ := (.seq (.ops [(o (.mv (ci 0)) 4)]) (.seq (.ops [(w 5 0), (o (.call 196 [(t 5)]) 6), (w 7 1), (o (.call 196 [(t 7)]) 8), (o (.bin .andNot 3 (t 6) (t 8)) 9), (w 4 9)]) .ret))
theorem OL : Fits Tryz.prog 185 2 Fq [(.tmp 4)] := cu Tryz.func185 (by kernel_rfl) (by kernel_rfl) (by kernel_rfl)
theorem OM (F : Nat) (a0 : Int) (a1 : Int) (r : Int) (h : wO F a0 a1 = some r) : PC Tryz.prog 185 [(zi_ a0), (zi_ a1)] (zi_ r) := by
 unfold wO at h
 refine fC OL rfl rfl ?_
 intro C hP
 unfold Fq; dsimp
 apply Eso
 apply WM
 refine Wk [0, 1] [] ?_
 (try dsimp)
 apply Eso
 apply WM
 obtain ⟨x1, x1h, h⟩ := aN h
 refine W1 (aF hP (J7 F a0 x1 x1h) rfl rfl rfl) ?_
 apply WM
 obtain ⟨x2, x2h, h⟩ := aN h
 refine W1 (aF hP (J7 F a1 x2 x2h) rfl rfl rfl) ?_
 refine WQ (aB rfl rfl rfl) ?_
 apply WM
 refine Wk [4] [] ?_
 (try dsimp)
 apply bI
 cases h
 (try simp only [qt, qb, qn])
 refine aT (xs := _) ⟨_, rfl, rfl⟩ ?_
 rfl
def BD : dJ := (.seq (.ops [(o (.mv (cb false)) 4)]) (.seq (.ops [(w 5 0), (w 6 1), (o (.call 185 [(t 5), (t 6)]) 7), (o (.bin .eql 3 (t 7) (ci 0)) 8), (w 4 8)]) .ret))
theorem J8 : Fits Tryz.prog 162 2 BD [(.tmp 4)] := cu Tryz.func162 (by kernel_rfl) (by kernel_rfl) (by kernel_rfl)
theorem J9 (F : Nat) (a0 : Int) (a1 : Int) (r : Bool) (h : qV F a0 a1 = some r) : PC Tryz.prog 162 [(zi_ a0), (zi_ a1)] (zb_ r) := by
 unfold qV at h
 refine fC J8 rfl rfl ?_
 intro C hP
 unfold BD; dsimp
 apply Eso
 apply WM
 refine Wk [0, 1] [] ?_
 (try dsimp)
 apply Eso
 apply WM
 apply WM
 obtain ⟨x1, x1h, h⟩ := aN h
 refine W1 (aF hP (OM F a0 a1 x1 x1h) rfl rfl rfl) ?_
 refine WQ (aB rfl rfl rfl) ?_
 apply WM
 refine Wk [4] [] ?_
 (try dsimp)
 apply bI
 cases h
 (try simp only [qt, qb, qn])
 refine aT (xs := _) ⟨_, rfl, rfl⟩ ?_
 rfl
def Ko : dJ := (.seq (.ops [(o (.box 109 (t 0)) 2), (o (.box 109 (t 1)) 3), (o (.mv (cb false)) 4)]) (.seq (.seq (.ops [(o (.load true 4 (t 2)) 5), (o (.call 125 [(t 5)]) 6)]) (.cond (t 6) (.seq (.ops [(o (.mv (cb true)) 4)]) .ret) .skip)) (.seq (.ops [(o (.add 0 (t 2)) 7), (o (.load false 1 (t 7)) 8), (o (.add 0 (t 3)) 9), (o (.load false 1 (t 9)) 10), (o (.bin .eql 3 (t 8) (t 10)) 11), (w 12 11), (g_ (.add 1 (t 2)) 13 12 true), (g_ (.load false 1 (t 13)) 14 12 true), (g_ (.add 1 (t 3)) 15 12 true), (g_ (.load false 1 (t 15)) 16 12 true), (g_ (.bin .eql 3 (t 14) (t 16)) 17 12 true), (o (.pick (t 12) (t 17) (cb false)) 18), (w 19 18), (g_ (.add 2 (t 2)) 20 19 true), (g_ (.load false 1 (t 20)) 21 19 true), (g_ (.add 2 (t 3)) 22 19 true), (g_ (.load false 1 (t 22)) 23 19 true), (g_ (.call 162 [(t 21), (t 23)]) 24 19 true), (o (.pick (t 19) (t 24) (cb false)) 25), (w 26 25), (g_ (.add 3 (t 3)) 27 26 true), (g_ (.load false 1 (t 27)) 28 26 true), (g_ (.bin .eql 3 (t 28) (ci 0)) 29 26 true), (g_ (.mv (t 29)) 30 26 true), (g_ (.add 3 (t 3)) 31 30 false), (g_ (.load false 1 (t 31)) 32 30 false), (g_ (.add 3 (t 2)) 33 30 false), (g_ (.load false 1 (t 33)) 34 30 false), (g_ (.bin .eql 3 (t 32) (t 34)) 35 30 false), (g_ (.pick (t 30) (cb true) (t 35)) 36 26 true), (o (.pick (t 26) (t 36) (cb false)) 37), (w 4 37)]) .ret)))
theorem SY : Fits Tryz.prog 130 2 Ko [(.tmp 4)] := cu Tryz.func130 (by kernel_rfl) (by kernel_rfl) (by kernel_rfl)
theorem S9 (F : Nat) (a0 : eG) (a1 : eG) (r : Bool) (h : uP F a0 a1 = some r) : PC Tryz.prog 130 [S.agg [vi a0.xType, vi a0.iO, vi a0.kL, vi a0.gX], S.agg [vi a1.xType, vi a1.iO, vi a1.kL, vi a1.gX]] (zb_ r) := by
 unfold uP at h
 refine fC SY rfl rfl ?_
 intro C hP
 unfold Ko; dsimp
 apply Eso
 refine W1 (eu rfl rfl rfl rfl) ?_
 refine W1 (eu rfl rfl rfl rfl) ?_
 apply WM
 refine Wk [2, 3] [2, 3] ?_
 (try dsimp)
 apply bP
 apply Eso
 refine WQ qlA ?_
 obtain ⟨x1, x1h, h⟩ := aN h
 refine W1 (aF hP (qp F a0 x1 x1h) rfl rfl rfl) ?_
 refine Wk [2, 3, 6] [2, 3] ?_
 (try dsimp)
 refine Ec h rfl (fun h hc2 => ?_) (fun h hc2 => ?_)
 apply Eso
 apply WM
 refine Wk [4] [] ?_
 (try dsimp)
 apply bI
 cases h
 (try simp only [qt, qb, qn])
 refine aT (xs := _) ⟨_, rfl, rfl⟩ ?_
 rfl
 apply bG
 refine bf [2, 3] [2, 3] ?_
 (try dsimp)
 apply Eso
 refine WQ (ah rfl rfl) ?_
 refine WQ (aj rfl rfl rfl) ?_
 refine WQ (ah rfl rfl) ?_
 refine WQ (aj rfl rfl rfl) ?_
 refine WQ (aB rfl rfl rfl) ?_
 apply WM
 apply aC
 rfl
 intro hB; (try simp only [hB, bss, ctt]); exact ah rfl rfl
 apply aC
 rfl
 intro hB; (try simp only [hB, bss, ctt]); exact aj rfl rfl rfl
 apply aC
 rfl
 intro hB; (try simp only [hB, bss, ctt]); exact ah rfl rfl
 apply aC
 rfl
 intro hB; (try simp only [hB, bss, ctt]); exact aj rfl rfl rfl
 apply aC
 rfl
 intro hB; (try simp only [hB, bss, ctt]); exact aB rfl rfl rfl
 refine WQ (dK rfl rfl rfl) ?_
 apply WM
 apply aC
 rfl
 intro hB; (try simp only [hB, bss, ctt]); exact ah rfl rfl
 apply aC
 rfl
 intro hB; (try simp only [hB, bss, ctt]); exact aj rfl rfl rfl
 apply aC
 rfl
 intro hB; (try simp only [hB, bss, ctt]); exact ah rfl rfl
 apply aC
 rfl
 intro hB; (try simp only [hB, bss, ctt]); exact aj rfl rfl rfl
 obtain ⟨x3, x3h, h⟩ := aN h
 apply jk
 rfl
 intro hB; (try simp only [hB, bss, ctt]); exact aF hP (J9 F a0.kL a1.kL x3 (jW x3h (bt hB))) rfl rfl rfl
 refine WQ (dK rfl rfl rfl) ?_
 apply WM
 apply aC
 rfl
 intro hB; (try simp only [hB, bss, ctt]); exact ah rfl rfl
 apply aC
 rfl
 intro hB; (try simp only [hB, bss, ctt]); exact aj rfl rfl rfl
 apply aC
 rfl
 intro hB; (try simp only [hB, bss, ctt]); exact aB rfl rfl rfl
 apply aC
 rfl
 intro hB; (try simp only [hB, bss, ctt]); exact aI rfl
 apply kP
 rfl
 intro hA hB; (try simp only [hA, hB, bss, Bool.and_true, Bool.true_and, ctt]); exact (ah rfl rfl).does
 apply kP
 rfl
 intro hA hB; (try simp only [hA, hB, bss, Bool.and_true, Bool.true_and, ctt]); exact (aj rfl rfl rfl).does
 apply kP
 rfl
 intro hA hB; (try simp only [hA, hB, bss, Bool.and_true, Bool.true_and, ctt]); exact (ah rfl rfl).does
 apply kP
 rfl
 intro hA hB; (try simp only [hA, hB, bss, Bool.and_true, Bool.true_and, ctt]); exact (aj rfl rfl rfl).does
 apply kP
 rfl
 intro hA hB; (try simp only [hA, hB, bss, Bool.and_true, Bool.true_and, ctt]); exact (aB rfl rfl rfl).does
 apply aC
 rfl
 intro hB; (try simp only [hB, bss, ctt]); exact dS rfl rfl rfl
 refine WQ (dK rfl rfl rfl) ?_
 apply WM
 refine Wk [4] [] ?_
 (try dsimp)
 apply bI
 cases h
 (try simp only [qt, qb, qn])
 refine aT (xs := _) ⟨_, rfl, rfl⟩ ?_
 rfl
def uJ : dJ := (.seq (.ops [(o (.box 27 (t 0)) 1), (o (.mv (cb false)) 2)]) (.seq (.seq (.ops [(o (.add 3 (t 1)) 7), (o (.load false 1 (t 7)) 8), (o (.len false (t 8)) 9), (o (.mv (ci 0)) 10)]) (.block 0 (.loop (.seq (.ops [(o (.bin .lss 3 (t 10) (t 9)) 11)]) (.seq (.cond (t 11) .skip (.exit 0)) (.seq (.block 1 (.seq (.ops [(o (.gJ 5 (t 8) (t 10)) 12), (o (.load true 5 (t 12)) 13), (o (.jR [zi, zi, zi, zi, zi]) 4), (n_ (.store 5 (t 4) (t 13)))]) (.seq (.ops [(o (.add 4 (t 4)) 14), (o (.load false 1 (t 14)) 15), (w 5 15)]) (.seq (.ops [(o (.add 3 (t 1)) 16), (o (.load false 1 (t 16)) 17), (o (.len false (t 17)) 18), (o (.mv (ci 0)) 19)]) (.block 2 (.loop (.seq (.ops [(o (.bin .lss 3 (t 19) (t 18)) 20)]) (.seq (.cond (t 20) .skip (.exit 2)) (.seq (.block 3 (.seq (.seq (.ops [(w 21 5), (o (.bin .lss 3 (t 21) (ci 0)) 22)]) (.cond (t 22) (.exit 2) .skip)) (.seq (.ops [(o (.add 3 (t 1)) 23), (o (.load false 1 (t 23)) 24), (w 25 5), (o (.gJ 5 (t 24) (t 25)) 26), (o (.load true 5 (t 26)) 27), (o (.jR [zi, zi, zi, zi, zi]) 6), (n_ (.store 5 (t 6) (t 27)))]) (.seq (.seq (.ops [(o (.add 0 (t 4)) 28), (o (.load true 4 (t 28)) 29), (o (.add 0 (t 6)) 30), (o (.load true 4 (t 30)) 31), (o (.call 130 [(t 29), (t 31)]) 32), (o (.un .not (t 32)) 33), (w 34 33), (g_ (.add 0 (t 6)) 35 34 true), (g_ (.add 0 (t 35)) 36 34 true), (g_ (.load false 1 (t 36)) 37 34 true), (g_ (.bin .neq 3 (t 37) (ci 1)) 38 34 true), (g_ (.mv (t 38)) 39 34 true), (g_ (.add 0 (t 4)) 40 39 false), (g_ (.add 1 (t 40)) 41 39 false), (g_ (.load false 1 (t 41)) 42 39 false), (g_ (.add 0 (t 6)) 43 39 false), (g_ (.add 1 (t 43)) 44 39 false), (g_ (.load false 1 (t 44)) 45 39 false), (g_ (.bin .eql 3 (t 42) (t 45)) 46 39 false), (g_ (.pick (t 39) (cb true) (t 46)) 47 34 true), (o (.pick (t 34) (t 47) (cb false)) 48)]) (.cond (t 48) (.seq (.ops [(o (.mv (cb false)) 2)]) .ret) .skip)) (.ops [(o (.add 4 (t 6)) 49), (o (.load false 1 (t 49)) 50), (w 5 50)]))))) (.ops [(o (.bin .add 3 (t 19) (ci 1)) 51), (w 19 51)])))))))))) (.ops [(o (.bin .add 3 (t 10) (ci 1)) 52), (w 10 52)]))))))) (.seq (.ops [(o (.mv (cb true)) 2)]) .ret)))
theorem AQ : Fits Tryz.prog 92 1 uJ [(.tmp 2)] := cu Tryz.func92 (by kernel_rfl) (by kernel_rfl) (by kernel_rfl)
theorem AU (F : Nat) (a0 : aK) (r : Bool) (h : jM F a0 = some r) : PC Tryz.prog 92 [S.agg [vi a0.bH.ak, vi a0.bH.au, vi a0.bH.ay, sl aQ a0.au, sl aS a0.ay]] (zb_ r) := by
 unfold jM at h
 refine fC AQ rfl rfl ?_
 intro C hP
 unfold uJ; dsimp
 apply Eso
 refine W1 (eu rfl rfl rfl rfl) ?_
 apply WM
 refine Wk [1] [1] ?_
 (try dsimp)
 obtain ⟨k1, k1d, h⟩ := fO h
 refine dV (α := Unit) (fun (i : Unit) => (⟨[], []⟩ : St)) (fun i => k1 () = some r) (fun i h => ?_) ?_
 rw [k1d] at h; dsimp only at h
 (try dsimp)
 apply Eso
 apply WM
 apply dn
 (try dsimp)
 apply bI
 cases h
 (try simp only [qt, qb, qn])
 refine aT (xs := _) ⟨_, rfl, rfl⟩ ?_
 rfl
 apply Eso
 refine WQ (ah rfl rfl) ?_
 refine WQ (aj rfl rfl rfl) ?_
 refine WQ (bM rfl) ?_
 apply WM
 refine Wk [1, 8, 9, 10] [1] ?_
 (try dsimp)
 apply bW
 (try dsimp)
 refine fD (α := Int) (fun (i : Int) => (⟨[(1, S.one (.ptr 1 0)), (8, ss aQ a0.au), (9, (zi_ ((a0.au.length : Nat) : Int))), (10, (zi_ i))], [(1, (⟨true, [vi a0.bH.ak, vi a0.bH.au, vi a0.bH.ay, sl aQ a0.au, sl aS a0.ay]⟩ : Reg))]⟩ : St)) (fun n i => fB F a0 k1 n i = some r) F (0 : Int) h ?_ (fun n i h => ?_)
 exact (Le.b (bK ⟨rfl, rfl, rfl, rfl, trivial⟩ ⟨rfl, trivial⟩))
 generalize i = v57 at h ⊢
 obtain _ | n58 := n
 cases h
 unfold fB at h
 (try dsimp)
 apply Eso
 refine WQ (aB rfl rfl rfl) ?_
 apply dn
 (try dsimp)
 apply bP
 refine Ec h rfl (fun h ac6 => ?_) (fun h ac6 => ?_)
 apply bG
 refine bf [1, 8, 9, 10] [1] ?_
 (try dsimp)
 obtain ⟨k60, ac7, h⟩ := fO h
 refine dV (α := Unit) (fun (i : Unit) => (⟨[(1, S.one (.ptr 1 0)), (8, ss aQ a0.au), (9, (zi_ ((a0.au.length : Nat) : Int))), (10, (zi_ v57))], [(1, (⟨true, [vi a0.bH.ak, vi a0.bH.au, vi a0.bH.ay, sl aQ a0.au, sl aS a0.ay]⟩ : Reg))]⟩ : St)) (fun i => k60 () = some r) (fun i h => ?_) ?_
 rw [ac7] at h; dsimp only at h
 (try dsimp)
 apply eP
 obtain ⟨g61, h⟩ := aV h
 refine WQ (cZ rfl rfl g61.1 g61.2) ?_
 apply WM
 apply dn
 refine ⟨n58, (v57 + (1 : Int)), Nat.lt_succ_self _, h, ?_⟩
 exact (Le.b (bK ⟨rfl, rfl, rfl, rfl, trivial⟩ ⟨rfl, trivial⟩))
 apply bW
 apply Eso
 obtain ⟨g62, h⟩ := aV h
 refine WQ (aX rfl rfl g62.1 g62.2) ?_
 refine WQ (dX (k := 5) rfl (fun _ => rfl) g62 0 rfl rfl rfl) ?_
 refine W1 (dw rfl rfl) ?_
 refine W1 dst ?_
 refine Wk [1, 4, 8, 9, 10] [1, 4] ?_
 (try dsimp)
 apply Eso
 refine WQ (ah rfl rfl) ?_
 refine WQ (aj rfl rfl rfl) ?_
 apply WM
 refine Wk [1, 4, 5, 8, 9, 10] [1, 4] ?_
 (try dsimp)
 apply Eso
 refine WQ (ah rfl rfl) ?_
 refine WQ (aj rfl rfl rfl) ?_
 refine WQ (bM rfl) ?_
 apply WM
 refine Wk [1, 4, 5, 8, 9, 10, 18, 19] [1, 4] ?_
 (try dsimp)
 apply bW
 (try dsimp)
 refine fD (α := Int × Int) (fun (i : Int × Int) => (⟨[(1, S.one (.ptr 1 0)), (4, S.one (.ptr 4 0)), (5, (zi_ i.1)), (8, ss aQ a0.au), (9, (zi_ ((a0.au.length : Nat) : Int))), (10, (zi_ v57)), (18, (zi_ ((a0.au.length : Nat) : Int))), (19, (zi_ i.2))], [(1, (⟨true, [vi a0.bH.ak, vi a0.bH.au, vi a0.bH.ay, sl aQ a0.au, sl aS a0.ay]⟩ : Reg)), (4, (⟨true, [vi (nth a0.au v57).iF.xType, vi (nth a0.au v57).iF.iO, vi (nth a0.au v57).iF.kL, vi (nth a0.au v57).iF.gX, vi (nth a0.au v57).xUp]⟩ : Reg))]⟩ : St)) (fun n i => eH F a0 v57 k60 n i.1 i.2 = some r) F ((nth a0.au v57).xUp, (0 : Int)) h ?_ (fun n i h => ?_)
 exact (Le.b (bK ⟨rfl, rfl, rfl, rfl, rfl, rfl, rfl, rfl, trivial⟩ ⟨rfl, rfl, trivial⟩))
 obtain ⟨v77, v78⟩ := i; dsimp only at h
 obtain _ | n79 := n
 cases h
 unfold eH at h
 (try dsimp)
 apply Eso
 refine WQ (aB rfl rfl rfl) ?_
 apply dn
 (try dsimp)
 apply bP
 refine Ec h rfl (fun h aax => ?_) (fun h aax => ?_)
 apply bG
 refine bf [1, 4, 5, 8, 9, 10, 18, 19] [1, 4] ?_
 (try dsimp)
 apply bP
 apply bW
 apply bP
 apply Eso
 apply WM
 refine WQ (aB rfl rfl rfl) ?_
 refine Wk [1, 4, 5, 8, 9, 10, 18, 19, 22] [1, 4] ?_
 (try dsimp)
 refine Ec h rfl (fun h aay => ?_) (fun h aay => ?_)
 apply gV
 refine ⟨(), h, ?_⟩
 exact (Le.b (bK ⟨rfl, rfl, rfl, rfl, trivial⟩ ⟨rfl, trivial⟩))
 apply bG
 refine bf [1, 4, 5, 8, 9, 10, 18, 19] [1, 4] ?_
 (try dsimp)
 apply Eso
 refine WQ (ah rfl rfl) ?_
 refine WQ (aj rfl rfl rfl) ?_
 apply WM
 obtain ⟨g82, h⟩ := aV h
 refine WQ (aX rfl rfl g82.1 g82.2) ?_
 refine WQ (dX (k := 5) rfl (fun _ => rfl) g82 0 rfl rfl rfl) ?_
 refine W1 (dw rfl rfl) ?_
 refine W1 dst ?_
 refine Wk [1, 4, 6, 8, 9, 10, 18, 19] [1, 4, 6] ?_
 (try dsimp)
 apply bP
 apply Eso
 refine WQ (ah rfl rfl) ?_
 refine WQ qlA ?_
 refine WQ (ah rfl rfl) ?_
 refine WQ qlA ?_
 obtain ⟨x83, ac8, h⟩ := aN h
 refine W1 (aF hP (S9 F ((nth a0.au v57).iF) ((nth a0.au v77).iF) x83 ac8) rfl rfl rfl) ?_
 refine WQ (dM rfl) ?_
 apply WM
 apply aC
 rfl
 intro hB; (try simp only [hB, bss, ctt]); exact ah rfl rfl
 apply aC
 rfl
 intro hB; (try simp only [hB, bss, ctt]); exact ah rfl rfl
 apply aC
 rfl
 intro hB; (try simp only [hB, bss, ctt]); exact aj rfl rfl rfl
 apply aC
 rfl
 intro hB; (try simp only [hB, bss, ctt]); exact aB rfl rfl rfl
 apply aC
 rfl
 intro hB; (try simp only [hB, bss, ctt]); exact aI rfl
 apply kP
 rfl
 intro hA hB; (try simp only [hA, hB, bss, Bool.and_true, Bool.true_and, ctt]); exact (ah rfl rfl).does
 apply kP
 rfl
 intro hA hB; (try simp only [hA, hB, bss, Bool.and_true, Bool.true_and, ctt]); exact (ah rfl rfl).does
 apply kP
 rfl
 intro hA hB; (try simp only [hA, hB, bss, Bool.and_true, Bool.true_and, ctt]); exact (aj rfl rfl rfl).does
 apply kP
 rfl
 intro hA hB; (try simp only [hA, hB, bss, Bool.and_true, Bool.true_and, ctt]); exact (ah rfl rfl).does
 apply kP
 rfl
 intro hA hB; (try simp only [hA, hB, bss, Bool.and_true, Bool.true_and, ctt]); exact (ah rfl rfl).does
 apply kP
 rfl
 intro hA hB; (try simp only [hA, hB, bss, Bool.and_true, Bool.true_and, ctt]); exact (aj rfl rfl rfl).does
 apply kP
 rfl
 intro hA hB; (try simp only [hA, hB, bss, Bool.and_true, Bool.true_and, ctt]); exact (aB rfl rfl rfl).does
 apply aC
 rfl
 intro hB; (try simp only [hB, bss, ctt]); exact dS rfl rfl rfl
 refine WQ (dK rfl rfl rfl) ?_
 refine Wk [1, 4, 6, 8, 9, 10, 18, 19, 48] [1, 4, 6] ?_
 (try dsimp)
 refine Ec h rfl (fun h ac9 => ?_) (fun h ac9 => ?_)
 apply Eso
 apply WM
 refine Wk [2] [] ?_
 (try dsimp)
 apply bI
 cases h
 (try simp only [qt, qb, qn])
 refine aT (xs := _) ⟨_, rfl, rfl⟩ ?_
 rfl
 apply bG
 refine bf [1, 4, 6, 8, 9, 10, 18, 19] [1, 4, 6] ?_
 (try dsimp)
 apply eP
 refine WQ (ah rfl rfl) ?_
 refine WQ (aj rfl rfl rfl) ?_
 apply WM
 refine Wk [1, 4, 5, 8, 9, 10, 18, 19] [1, 4] ?_
 (try dsimp)
 apply eP
 obtain ⟨g85, h⟩ := aV h
 refine WQ (cZ rfl rfl g85.1 g85.2) ?_
 apply WM
 apply dn
 refine ⟨n79, ((nth a0.au v77).xUp, (v78 + (1 : Int))), Nat.lt_succ_self _, h, ?_⟩
 exact (Le.b (bK ⟨rfl, rfl, rfl, rfl, rfl, rfl, rfl, rfl, trivial⟩ ⟨rfl, rfl, trivial⟩))
 apply gV
 refine ⟨(), h, ?_⟩
 exact (Le.b (bK ⟨rfl, rfl, rfl, rfl, trivial⟩ ⟨rfl, trivial⟩))
 apply gV
 refine ⟨(), h, ?_⟩
 exact (Le.b (bK trivial trivial))
def Fv : dJ := (.seq (.ops [(o (.box 27 (t 0)) 1), (o (.mv (cb false)) 2)]) (.seq (.seq (.ops [(o (.add 0 (t 1)) 3), (o (.load true 3 (t 3)) 4), (o (.call 38 [(t 4)]) 5), (o (.un .not (t 5)) 6), (w 7 6), (g_ (.add 3 (t 1)) 8 7 false), (g_ (.load false 1 (t 8)) 9 7 false), (g_ (.len false (t 9)) 10 7 false), (g_ (.add 0 (t 1)) 11 7 false), (g_ (.add 1 (t 11)) 12 7 false), (g_ (.load false 1 (t 12)) 13 7 false), (g_ (.bin .neq 3 (t 10) (t 13)) 14 7 false), (o (.pick (t 7) (cb true) (t 14)) 15), (w 16 15), (g_ (.add 4 (t 1)) 17 16 false), (g_ (.load false 1 (t 17)) 18 16 false), (g_ (.len false (t 18)) 19 16 false), (g_ (.add 0 (t 1)) 20 16 false), (g_ (.add 2 (t 20)) 21 16 false), (g_ (.load false 1 (t 21)) 22 16 false), (g_ (.bin .neq 3 (t 19) (t 22)) 23 16 false), (o (.pick (t 16) (cb true) (t 23)) 24)]) (.cond (t 24) (.seq (.ops [(o (.mv (cb false)) 2)]) .ret) .skip)) (.seq (.ops [(o (.load true 5 (t 1)) 25), (o (.call 86 [(t 25)]) 26), (w 27 26), (g_ (.load true 5 (t 1)) 28 27 true), (g_ (.call 87 [(t 28)]) 29 27 true), (o (.pick (t 27) (t 29) (cb false)) 30), (w 31 30), (g_ (.load true 5 (t 1)) 32 31 true), (g_ (.call 88 [(t 32)]) 33 31 true), (o (.pick (t 31) (t 33) (cb false)) 34), (w 35 34), (g_ (.load true 5 (t 1)) 36 35 true), (g_ (.call 89 [(t 36)]) 37 35 true), (g_ (.un .not (t 37)) 38 35 true), (o (.pick (t 35) (t 38) (cb false)) 39), (w 40 39), (g_ (.load true 5 (t 1)) 41 40 true), (g_ (.call 91 [(t 41)]) 42 40 true), (g_ (.call 90 [(t 42)]) 43 40 true), (o (.pick (t 40) (t 43) (cb false)) 44), (w 45 44), (g_ (.load true 5 (t 1)) 46 45 true), (g_ (.call 92 [(t 46)]) 47 45 true), (o (.pick (t 45) (t 47) (cb false)) 48), (w 2 48)]) .ret)))
theorem OO : Fits Tryz.prog 55 1 Fv [(.tmp 2)] := cu Tryz.func55 (by kernel_rfl) (by kernel_rfl) (by kernel_rfl)
theorem Fz (F : Nat) (a0 : aK) (r : Bool) (h : oI F a0 = some r) : PC Tryz.prog 55 [S.agg [vi a0.bH.ak, vi a0.bH.au, vi a0.bH.ay, sl aQ a0.au, sl aS a0.ay]] (zb_ r) := by
 unfold oI at h
 refine fC OO rfl rfl ?_
 intro C hP
 unfold Fv; dsimp
 apply Eso
 refine W1 (eu rfl rfl rfl rfl) ?_
 apply WM
 refine Wk [1] [1] ?_
 (try dsimp)
 apply bP
 apply Eso
 refine WQ (ah rfl rfl) ?_
 refine WQ qlA ?_
 obtain ⟨x1, x1h, h⟩ := aN h
 refine W1 (aF hP (nZ F a0.bH x1 x1h) rfl rfl rfl) ?_
 refine WQ (dM rfl) ?_
 apply WM
 apply aC
 rfl
 intro hB; (try simp only [hB, bss, ctt]); exact ah rfl rfl
 apply aC
 rfl
 intro hB; (try simp only [hB, bss, ctt]); exact aj rfl rfl rfl
 apply aC
 rfl
 intro hB; (try simp only [hB, bss, ctt]); exact bM rfl
 apply aC
 rfl
 intro hB; (try simp only [hB, bss, ctt]); exact ah rfl rfl
 apply aC
 rfl
 intro hB; (try simp only [hB, bss, ctt]); exact ah rfl rfl
 apply aC
 rfl
 intro hB; (try simp only [hB, bss, ctt]); exact aj rfl rfl rfl
 apply aC
 rfl
 intro hB; (try simp only [hB, bss, ctt]); exact aB rfl rfl rfl
 refine WQ (dS rfl rfl rfl) ?_
 apply WM
 apply aC
 rfl
 intro hB; (try simp only [hB, bss, ctt]); exact ah rfl rfl
 apply aC
 rfl
 intro hB; (try simp only [hB, bss, ctt]); exact aj rfl rfl rfl
 apply aC
 rfl
 intro hB; (try simp only [hB, bss, ctt]); exact bM rfl
 apply aC
 rfl
 intro hB; (try simp only [hB, bss, ctt]); exact ah rfl rfl
 apply aC
 rfl
 intro hB; (try simp only [hB, bss, ctt]); exact ah rfl rfl
 apply aC
 rfl
 intro hB; (try simp only [hB, bss, ctt]); exact aj rfl rfl rfl
 apply aC
 rfl
 intro hB; (try simp only [hB, bss, ctt]); exact aB rfl rfl rfl
 refine WQ (dS rfl rfl rfl) ?_
 refine Wk [1, 24] [1] ?_
 (try dsimp)
 refine Ec h rfl (fun h hc2 => ?_) (fun h hc2 => ?_)
 apply Eso
 apply WM
 refine Wk [2] [] ?_
 (try dsimp)
 apply bI
 cases h
 (try simp only [qt, qb, qn])
 refine aT (xs := _) ⟨_, rfl, rfl⟩ ?_
 rfl
 apply bG
 refine bf [1] [1] ?_
 (try dsimp)
 apply Eso
 refine WQ qlA ?_
 obtain ⟨x3, x3h, h⟩ := aN h
 refine W1 (aF hP (Ei F a0 x3 x3h) rfl rfl rfl) ?_
 apply WM
 apply aC
 rfl
 intro hB; (try simp only [hB, bss, ctt]); exact qlA
 obtain ⟨x4, x4h, h⟩ := aN h
 apply jk
 rfl
 intro hB; (try simp only [hB, bss, ctt]); exact aF hP (Bl F a0 x4 (jW x4h (bt hB))) rfl rfl rfl
 refine WQ (dK rfl rfl rfl) ?_
 apply WM
 apply aC
 rfl
 intro hB; (try simp only [hB, bss, ctt]); exact qlA
 obtain ⟨x5, x5h, h⟩ := aN h
 apply jk
 rfl
 intro hB; (try simp only [hB, bss, ctt]); exact aF hP (Dn F a0 x5 (jW x5h (bt hB))) rfl rfl rfl
 refine WQ (dK rfl rfl rfl) ?_
 apply WM
 apply aC
 rfl
 intro hB; (try simp only [hB, bss, ctt]); exact qlA
 obtain ⟨x6, x6h, h⟩ := aN h
 apply jk
 rfl
 intro hB; (try simp only [hB, bss, ctt]); exact aF hP (Em F a0 x6 (jW x6h (bt hB))) rfl rfl rfl
 apply aC
 rfl
 intro hB; (try simp only [hB, bss, ctt]); exact dM rfl
 refine WQ (dK rfl rfl rfl) ?_
 apply WM
 apply aC
 rfl
 intro hB; (try simp only [hB, bss, ctt]); exact qlA
 obtain ⟨x7, x7h, h⟩ := aN h
 apply jk
 rfl
 intro hB; (try simp only [hB, bss, ctt]); exact aF hP (J5 F a0 x7 (jW x7h (bt hB))) rfl rfl rfl
 obtain ⟨x8, x8h, h⟩ := aN h
 apply jk
 rfl
 intro hB; (try simp only [hB, bss, ctt]); exact aF hP (L8 F x7 x8 (jW x8h (bt hB))) rfl rfl rfl
 refine WQ (dK rfl rfl rfl) ?_
 apply WM
 apply aC
 rfl
 intro hB; (try simp only [hB, bss, ctt]); exact qlA
 obtain ⟨x9, x9h, h⟩ := aN h
 apply jk
 rfl
 intro hB; (try simp only [hB, bss, ctt]); exact aF hP (AU F a0 x9 (jW x9h (bt hB))) rfl rfl rfl
 refine WQ (dK rfl rfl rfl) ?_
 apply WM
 refine Wk [2] [] ?_
 (try dsimp)
 apply bI
 cases h
 (try simp only [qt, qb, qn])
 refine aT (xs := _) ⟨_, rfl, rfl⟩ ?_
 rfl
def DF : dJ := (.seq (.ops [(o (.box 23 (t 0)) 1), (o (.mv (ci 0)) 2)]) (.seq (.ops [(o (.add 0 (t 1)) 3), (o (.load false 1 (t 3)) 4), (o (.bin .mul 3 (t 4) (ci 1208)) 5), (o (.bin .add 3 (ci 16) (t 5)) 6), (w 2 6)]) .ret))
theorem L9 : Fits Tryz.prog 96 1 DF [(.tmp 2)] := cu Tryz.func96 (by kernel_rfl) (by kernel_rfl) (by kernel_rfl)
theorem DI (F : Nat) (a0 : bg) (r : Int) (h : qL F a0 = some r) : PC Tryz.prog 96 [S.agg [vi a0.ak, vi a0.au, vi a0.ay]] (zi_ r) := by
 unfold qL at h
 refine fC L9 rfl rfl ?_
 intro C hP
 unfold DF; dsimp
 apply Eso
 refine W1 (eu rfl rfl rfl rfl) ?_
 apply WM
 refine Wk [1] [1] ?_
 (try dsimp)
 apply Eso
 refine WQ (ah rfl rfl) ?_
 refine WQ (aj rfl rfl rfl) ?_
 obtain ⟨g1, h⟩ := aV h
 refine WQ (nC rfl rfl g1.1 g1.2) ?_
 obtain ⟨g2, h⟩ := aV h
 refine WQ (cZ rfl rfl g2.1 g2.2) ?_
 apply WM
 refine Wk [2] [] ?_
 (try dsimp)
 apply bI
 cases h
 (try simp only [qt, qb, qn])
 refine aT (xs := _) ⟨_, rfl, rfl⟩ ?_
 rfl
def BF : dJ := (.seq (.ops [(o (.box 23 (t 0)) 1), (o (.mv (ci 0)) 2)]) (.seq (.draw [((o (.load true 3 (t 1)) 3), []), ((o (.call 96 [(t 3)]) 4), [0]), ((o (.add 1 (t 1)) 5), []), ((o (.load false 1 (t 5)) 6), [2]), ((o (.bin .mul 3 (ci 2) (t 6)) 7), [3]), ((o (.bin .add 3 (t 4) (t 7)) 8), [1, 4]), ((w 2 8), [5, 1, 0, 1, 2, 3, 4, 5])]) .ret))
theorem Kq : Fits Tryz.prog 95 1 BF [(.tmp 2)] := cu Tryz.func95 (by kernel_rfl) (by kernel_rfl) (by kernel_rfl)
theorem BG (F : Nat) (a0 : bg) (r : Int) (h : pG F a0 = some r) : PC Tryz.prog 95 [S.agg [vi a0.ak, vi a0.au, vi a0.ay]] (zi_ r) := by
 unfold pG at h
 refine fC Kq rfl rfl ?_
 intro C hP
 unfold BF; dsimp
 apply Eso
 refine W1 (eu rfl rfl rfl rfl) ?_
 apply WM
 refine Wk [1] [1] ?_
 (try dsimp)
 apply bP
 obtain ⟨x1, x1h, h⟩ := aN h
 obtain ⟨g2, h⟩ := aV h
 obtain ⟨g3, h⟩ := aV h
 refine iY [0, 2, 3, 4, 5, 6] ?_
 refine XQ 0 rfl rfl rfl qlA ?_
 refine XQ 2 rfl rfl rfl (ah rfl rfl) ?_
 refine XQ 3 rfl rfl rfl (aj rfl rfl rfl) ?_
 refine XQ 4 rfl rfl rfl (nC rfl rfl g2.1 g2.2) ?_
 refine X1 rfl (XK rfl (aF hP (DI F a0 x1 x1h) rfl rfl rfl) ?_)
 refine XQ 5 rfl rfl rfl (cZ rfl rfl g3.1 g3.2) ?_
 refine XQ 6 rfl rfl rfl (aI rfl) ?_
 refine ig rfl ?_
 refine bf [2] [] ?_
 (try dsimp)
 apply bI
 cases h
 (try simp only [qt, qb, qn])
 refine aT (xs := _) ⟨_, rfl, rfl⟩ ?_
 rfl
def Kr : dJ := (.seq (.ops [(o (.box 23 (t 0)) 1), (o (.mv (ci 0)) 2)]) (.seq (.seq (.ops [(o (.load true 3 (t 1)) 3), (o (.call 38 [(t 3)]) 4), (o (.un .not (t 4)) 5)]) (.cond (t 5) (.seq (.ops [(o (.mv (ci 0)) 2)]) .ret) .skip)) (.seq (.draw [((o (.load true 3 (t 1)) 6), []), ((o (.call 95 [(t 6)]) 7), [0]), ((o (.add 2 (t 1)) 8), []), ((o (.load false 1 (t 8)) 9), [2]), ((o (.bin .mul 3 (ci 8) (t 9)) 10), [3]), ((o (.bin .add 3 (t 7) (t 10)) 11), [1, 4]), ((w 2 11), [5, 1, 0, 1, 2, 3, 4, 5])]) .ret)))
theorem Tc : Fits Tryz.prog 58 1 Kr [(.tmp 2)] := cu Tryz.func58 (by kernel_rfl) (by kernel_rfl) (by kernel_rfl)
theorem xU (F : Nat) (a0 : bg) (r : Int) (h : ql F a0 = some r) : PC Tryz.prog 58 [S.agg [vi a0.ak, vi a0.au, vi a0.ay]] (zi_ r) := by
 unfold ql at h
 refine fC Tc rfl rfl ?_
 intro C hP
 unfold Kr; dsimp
 apply Eso
 refine W1 (eu rfl rfl rfl rfl) ?_
 apply WM
 refine Wk [1] [1] ?_
 (try dsimp)
 apply bP
 apply Eso
 refine WQ qlA ?_
 obtain ⟨x1, x1h, h⟩ := aN h
 refine W1 (aF hP (nZ F a0 x1 x1h) rfl rfl rfl) ?_
 refine WQ (dM rfl) ?_
 refine Wk [1, 5] [1] ?_
 (try dsimp)
 refine Ec h rfl (fun h hc2 => ?_) (fun h hc2 => ?_)
 apply Eso
 apply WM
 refine Wk [2] [] ?_
 (try dsimp)
 apply bI
 cases h
 (try simp only [qt, qb, qn])
 refine aT (xs := _) ⟨_, rfl, rfl⟩ ?_
 rfl
 apply bG
 refine bf [1] [1] ?_
 (try dsimp)
 apply bP
 obtain ⟨x3, x3h, h⟩ := aN h
 obtain ⟨g4, h⟩ := aV h
 obtain ⟨g5, h⟩ := aV h
 refine iY [0, 2, 3, 4, 5, 6] ?_
 refine XQ 0 rfl rfl rfl qlA ?_
 refine XQ 2 rfl rfl rfl (ah rfl rfl) ?_
 refine XQ 3 rfl rfl rfl (aj rfl rfl rfl) ?_
 refine XQ 4 rfl rfl rfl (nC rfl rfl g4.1 g4.2) ?_
 refine X1 rfl (XK rfl (aF hP (BG F a0 x3 x3h) rfl rfl rfl) ?_)
 refine XQ 5 rfl rfl rfl (cZ rfl rfl g5.1 g5.2) ?_
 refine XQ 6 rfl rfl rfl (aI rfl) ?_
 refine ig rfl ?_
 refine bf [2] [] ?_
 (try dsimp)
 apply bI
 cases h
 (try simp only [qt, qb, qn])
 refine aT (xs := _) ⟨_, rfl, rfl⟩ ?_
 rfl
def Kt : dJ := (.seq (.ops [(o (.box 23 (t 0)) 1), (o (.mv (ci 0)) 2)]) (.seq (.seq (.ops [(o (.load true 3 (t 1)) 3), (o (.call 38 [(t 3)]) 4), (o (.un .not (t 4)) 5)]) (.cond (t 5) (.seq (.ops [(o (.mv (ci 0)) 2)]) .ret) .skip)) (.seq (.ops [(o (.load true 3 (t 1)) 6), (o (.call 58 [(t 6)]) 7), (o (.bin .quo 3 (t 7) (ci 8)) 8), (o (.bin .add 3 (t 8) (ci 1)) 9), (w 2 9)]) .ret)))
theorem Td : Fits Tryz.prog 56 1 Kt [(.tmp 2)] := cu Tryz.func56 (by kernel_rfl) (by kernel_rfl) (by kernel_rfl)
theorem Eo (F : Nat) (a0 : bg) (r : Int) (h : sO F a0 = some r) : PC Tryz.prog 56 [S.agg [vi a0.ak, vi a0.au, vi a0.ay]] (zi_ r) := by
 unfold sO at h
 refine fC Td rfl rfl ?_
 intro C hP
 unfold Kt; dsimp
 apply Eso
 refine W1 (eu rfl rfl rfl rfl) ?_
 apply WM
 refine Wk [1] [1] ?_
 (try dsimp)
 apply bP
 apply Eso
 refine WQ qlA ?_
 obtain ⟨x1, x1h, h⟩ := aN h
 refine W1 (aF hP (nZ F a0 x1 x1h) rfl rfl rfl) ?_
 refine WQ (dM rfl) ?_
 refine Wk [1, 5] [1] ?_
 (try dsimp)
 refine Ec h rfl (fun h hc2 => ?_) (fun h hc2 => ?_)
 apply Eso
 apply WM
 refine Wk [2] [] ?_
 (try dsimp)
 apply bI
 cases h
 (try simp only [qt, qb, qn])
 refine aT (xs := _) ⟨_, rfl, rfl⟩ ?_
 rfl
 apply bG
 refine bf [1] [1] ?_
 (try dsimp)
 apply Eso
 refine WQ qlA ?_
 obtain ⟨x3, x3h, h⟩ := aN h
 refine W1 (aF hP (xU F a0 x3 x3h) rfl rfl rfl) ?_
 refine WQ (aB rfl rfl rfl) ?_
 obtain ⟨g4, h⟩ := aV h
 refine WQ (cZ rfl rfl g4.1 g4.2) ?_
 apply WM
 refine Wk [2] [] ?_
 (try dsimp)
 apply bI
 cases h
 (try simp only [qt, qb, qn])
 refine aT (xs := _) ⟨_, rfl, rfl⟩ ?_
 rfl
def Ku : dJ := (.seq (.ops [(o (.mv (.const (.float .f64 0))) 2)]) (.seq (.ops [(w 3 0), (o (.Ad 199 [(t 3)]) 4), (o (.bin .andNot 42 (t 4) (.const (.int .u64 9223372036854775808))) 5), (o (.Ad 205 [(t 5)]) 6), (w 2 6)]) .ret))
theorem Tf : Fits Tryz.prog 203 1 Ku [(.tmp 2)] := cu Tryz.func203 (by kernel_rfl) (by kernel_rfl) (by kernel_rfl)
theorem Ti (F : Nat) (a0 : Value) (r : Value) (h : Ea F a0 = some r) : PC Tryz.prog 203 [S.one (.v a0)] (S.one (.v r)) := by
 unfold Ea at h
 refine fC Tf rfl rfl ?_
 intro C hP
 unfold Ku; dsimp
 apply Eso
 apply WM
 refine Wk [0] [] ?_
 (try dsimp)
 apply Eso
 apply WM
 obtain ⟨x1, x1h, h⟩ := aN h
 refine WQ (qw (vs := [a0]) hP rfl (X_i x1h) rfl) ?_
 refine WQ (aB rfl rfl rfl) ?_
 obtain ⟨x2, x2h, h⟩ := aN h
 refine WQ (qw (vs := [(.int .u64 (Hr .u64 x1 (9223372036854775808 : Int)))]) hP rfl (OQ x2h) (OT x2h)) ?_
 apply WM
 refine Wk [2] [] ?_
 (try dsimp)
 apply bI
 cases h
 (try simp only [qt, qb, qn])
 refine aT (xs := _) ⟨_, rfl, rfl⟩ ?_
 rfl
def Ae : dJ := (.seq (.ops [(o (.mv (.const (.float .f64 0))) 4)]) (.seq (.ops [(w 5 0), (o (.Ad 199 [(t 5)]) 6), (o (.bin .andNot 42 (t 6) (.const (.int .u64 9223372036854775808))) 7), (w 8 1), (o (.Ad 199 [(t 8)]) 9), (o (.bin .and 42 (t 9) (.const (.int .u64 9223372036854775808))) 10), (o (.bin .or 42 (t 7) (t 10)) 11), (o (.Ad 205 [(t 11)]) 12), (w 4 12)]) .ret))
theorem IU : Fits Tryz.prog 204 2 Ae [(.tmp 4)] := cu Tryz.func204 (by kernel_rfl) (by kernel_rfl) (by kernel_rfl)
theorem IV (F : Nat) (a0 : Value) (a1 : Value) (r : Value) (h : wu F a0 a1 = some r) : PC Tryz.prog 204 [S.one (.v a0), S.one (.v a1)] (S.one (.v r)) := by
 unfold wu at h
 refine fC IU rfl rfl ?_
 intro C hP
 unfold Ae; dsimp
 apply Eso
 apply WM
 refine Wk [0, 1] [] ?_
 (try dsimp)
 apply Eso
 apply WM
 obtain ⟨x1, x1h, h⟩ := aN h
 refine WQ (qw (vs := [a0]) hP rfl (X_i x1h) rfl) ?_
 refine WQ (aB rfl rfl rfl) ?_
 apply WM
 obtain ⟨x2, x2h, h⟩ := aN h
 refine WQ (qw (vs := [a1]) hP rfl (X_i x2h) rfl) ?_
 refine WQ (aB rfl rfl rfl) ?_
 refine WQ (aB rfl rfl rfl) ?_
 obtain ⟨x3, x3h, h⟩ := aN h
 refine WQ (qw (vs := [(.int .u64 (ior .u64 (Hr .u64 x1 (9223372036854775808 : Int)) (uf .u64 x2 (9223372036854775808 : Int))))]) hP rfl (OQ x3h) (OT x3h)) ?_
 apply WM
 refine Wk [4] [] ?_
 (try dsimp)
 apply bI
 cases h
 (try simp only [qt, qb, qn])
 refine aT (xs := _) ⟨_, rfl, rfl⟩ ?_
 rfl
def FB : dJ := (.seq (.ops [(o (.mv (.const (.float .f64 0))) 2)]) (.seq (.seq (.ops [(w 5 0), (o (.call 203 [(t 5)]) 6), (o (.bin .lss 242 (t 6) (.const (.float .f64 4607182418800017408))) 7)]) (.cond (t 7) (.seq (.ops [(w 8 0), (o (.call 204 [(.const (.float .f64 0)), (t 8)]) 9), (w 2 9)]) .ret) .skip)) (.seq (.ops [(w 10 0), (o (.Ad 199 [(t 10)]) 11), (w 3 11)]) (.seq (.ops [(w 12 3), (o (.bin .shr 42 (t 12) (.const (.int .u64 52))) 13), (o (.bin .and 213 (t 13) (.const (.int .u64 2047))) 14), (o (.bin .sub 213 (t 14) (.const (.int .u64 1023))) 15), (w 4 15)]) (.seq (.seq (.ops [(w 16 4), (o (.bin .lss 213 (t 16) (.const (.int .u64 52))) 17)]) (.cond (t 17) (.ops [(w 18 3), (w 19 4), (o (.bin .sub 213 (.const (.int .u64 52)) (t 19)) 20), (o (.bin .shl 42 (.const (.int .u64 1)) (t 20)) 21), (o (.bin .sub 42 (t 21) (.const (.int .u64 1))) 22), (o (.bin .andNot 42 (t 18) (t 22)) 23), (w 3 23)]) .skip)) (.seq (.ops [(w 24 3), (o (.Ad 205 [(t 24)]) 25), (w 2 25)]) .ret))))))
theorem OU : Fits Tryz.prog 198 1 FB [(.tmp 2)] := cu Tryz.func198 (by kernel_rfl) (by kernel_rfl) (by kernel_rfl)
theorem YU (F : Nat) (a0 : Value) (r : Value) (h : Fb F a0 = some r) : PC Tryz.prog 198 [S.one (.v a0)] (S.one (.v r)) := by
 unfold Fb at h
 refine fC OU rfl rfl ?_
 intro C hP
 unfold FB; dsimp
 apply Eso
 apply WM
 refine Wk [0] [] ?_
 (try dsimp)
 apply bP
 apply Eso
 apply WM
 obtain ⟨x1, x1h, h⟩ := aN h
 refine W1 (aF hP (Ti F a0 x1 x1h) rfl rfl rfl) ?_
 obtain ⟨x2, x2h, h⟩ := aN h
 refine WQ (FC hP rfl rfl (X_b x2h) rfl) ?_
 refine Wk [0, 7] [] ?_
 (try dsimp)
 refine Ec h rfl (fun h hc3 => ?_) (fun h hc3 => ?_)
 apply Eso
 apply WM
 obtain ⟨x4, x4h, h⟩ := aN h
 refine W1 (aF hP (IV F (.float .f64 0 : Value) a0 x4 x4h) rfl rfl rfl) ?_
 apply WM
 refine Wk [2] [] ?_
 (try dsimp)
 apply bI
 cases h
 (try simp only [qt, qb, qn])
 refine aT (xs := _) ⟨_, rfl, rfl⟩ ?_
 rfl
 apply bG
 refine bf [0] [] ?_
 (try dsimp)
 apply Eso
 apply WM
 obtain ⟨x5, x5h, h⟩ := aN h
 refine WQ (qw (vs := [a0]) hP rfl (X_i x5h) rfl) ?_
 apply WM
 refine Wk [3] [] ?_
 (try dsimp)
 apply Eso
 apply WM
 refine WQ (zl rfl rfl (by decide)) ?_
 refine WQ (aB rfl rfl rfl) ?_
 refine WQ (aB rfl rfl rfl) ?_
 apply WM
 refine Wk [3, 4] [] ?_
 (try dsimp)
 obtain ⟨k7, k7d, h⟩ := fO h
 refine dV (α := Int) (fun (i : Int) => (⟨[(3, (zu_ i))], []⟩ : St)) (fun i => k7 i = some r) (fun i h => ?_) ?_
 let iv := i; change k7 i = some r at h; generalize i = v6 at h ⊢
 rw [k7d] at h; dsimp only at h
 (try dsimp)
 apply Eso
 apply WM
 obtain ⟨x8, x8h, h⟩ := aN h
 refine WQ (qw (vs := [(.int .u64 v6)]) hP rfl (OQ x8h) (OT x8h)) ?_
 apply WM
 refine Wk [2] [] ?_
 (try dsimp)
 apply bI
 cases h
 (try simp only [qt, qb, qn])
 refine aT (xs := _) ⟨_, rfl, rfl⟩ ?_
 rfl
 apply Eso
 apply WM
 refine WQ (aB rfl rfl rfl) ?_
 refine Wk [3, 4, 17] [] ?_
 (try dsimp)
 refine Ec h rfl (fun h hc9 => ?_) (fun h hc9 => ?_)
 apply eP
 apply WM
 apply WM
 refine WQ (aB rfl rfl rfl) ?_
 obtain ⟨g10, h⟩ := aV h
 refine WQ (vU rfl rfl g10) ?_
 refine WQ (aB rfl rfl rfl) ?_
 refine WQ (aB rfl rfl rfl) ?_
 apply WM
 apply dn
 refine ⟨(Hr .u64 x5 (IntKind.u64.wrap ((o9 .u64 (1 : Int) (IntKind.u64.wrap ((52 : Int) - (IntKind.u64.wrap ((uf .u64 (kS .u64 x5 (52 : Int)) (2047 : Int)) - (1023 : Int)))))) - (1 : Int)))), h, ?_⟩
 exact (Le.b (bK ⟨rfl, trivial⟩ trivial))
 apply bG
 refine ⟨x5, h, ?_⟩
 exact (Le.b (bK ⟨rfl, trivial⟩ trivial))
def FD : dJ := (.seq (.ops [(o (.mv (.const (.float .f64 0))) 2)]) (.seq (.cond (cb true) (.seq (.ops [(w 3 0), (o (.Ad 197 [(t 3)]) 4), (w 2 4)]) .ret) .skip) (.seq (.ops [(w 5 0), (o (.call 198 [(t 5)]) 6), (w 2 6)]) .ret)))
theorem OV : Fits Tryz.prog 186 1 FD [(.tmp 2)] := cu Tryz.func186 (by kernel_rfl) (by kernel_rfl) (by kernel_rfl)
theorem OW (F : Nat) (a0 : Value) (r : Value) (h : wM F a0 = some r) : PC Tryz.prog 186 [S.one (.v a0)] (S.one (.v r)) := by
 unfold wM at h
 refine fC OV rfl rfl ?_
 intro C hP
 unfold FD; dsimp
 apply Eso
 apply WM
 refine Wk [0] [] ?_
 (try dsimp)
 apply bP
 refine Kv rfl (fun hc1 => ?_) (fun hc1 => ?_)
 apply Eso
 apply WM
 obtain ⟨x2, x2h, h⟩ := aN h
 refine WQ (qw (vs := [a0]) hP rfl (OQ x2h) (OT x2h)) ?_
 apply WM
 refine Wk [2] [] ?_
 (try dsimp)
 apply bI
 cases h
 (try simp only [qt, qb, qn])
 refine aT (xs := _) ⟨_, rfl, rfl⟩ ?_
 rfl
 cases hc1
def BH : dJ := (.seq (.ops [(o (.mv (cb false)) 2)]) (.seq (.ops [(w 3 0), (o (.Ad 199 [(t 3)]) 4), (o (.jF .i64 (t 4)) 5), (o (.bin .lss 2 (t 5) (ci 0)) 6), (w 2 6)]) .ret))
theorem Kw : Fits Tryz.prog 187 1 BH [(.tmp 2)] := cu Tryz.func187 (by kernel_rfl) (by kernel_rfl) (by kernel_rfl)
theorem Ky (F : Nat) (a0 : Value) (r : Bool) (h : qQ F a0 = some r) : PC Tryz.prog 187 [S.one (.v a0)] (zb_ r) := by
 unfold qQ at h
 refine fC Kw rfl rfl ?_
 intro C hP
 unfold BH; dsimp
 apply Eso
 apply WM
 refine Wk [0] [] ?_
 (try dsimp)
 apply Eso
 apply WM
 obtain ⟨x1, x1h, h⟩ := aN h
 refine WQ (qw (vs := [a0]) hP rfl (X_i x1h) rfl) ?_
 refine WQ (dF rfl) ?_
 refine WQ (aB rfl rfl rfl) ?_
 apply WM
 refine Wk [2] [] ?_
 (try dsimp)
 apply bI
 cases h
 (try simp only [qt, qb, qn])
 refine aT (xs := _) ⟨_, rfl, rfl⟩ ?_
 rfl
def DJ : dJ := (.seq (.ops [(o (.mv (ci 0)) 2), (o (.mv (cb false)) 3)]) (.seq (.seq (.ops [(w 4 0), (o (.bin .geq 242 (t 4) (.const (.float .f64 14010698440749613056))) 5), (w 6 5), (g_ (.mv (t 0)) 7 6 true), (g_ (.bin .leq 242 (t 7) (.const (.float .f64 4787326403894837248))) 8 6 true), (o (.pick (t 6) (t 8) (cb false)) 9), (o (.un .not (t 9)) 10), (w 11 10), (g_ (.mv (t 0)) 12 11 false), (g_ (.mv (t 0)) 13 11 false), (g_ (.call 186 [(t 13)]) 14 11 false), (g_ (.bin .neq 242 (t 12) (t 14)) 15 11 false), (o (.pick (t 11) (cb true) (t 15)) 16), (w 17 16), (g_ (.mv (t 0)) 18 17 false), (g_ (.bin .eql 242 (t 18) (.const (.float .f64 0))) 19 17 false), (g_ (.mv (t 19)) 20 17 false), (g_ (.mv (t 0)) 21 20 true), (g_ (.call 187 [(t 21)]) 22 20 true), (g_ (.pick (t 20) (t 22) (cb false)) 23 17 false), (o (.pick (t 17) (cb true) (t 23)) 24)]) (.cond (t 24) (.seq (.ops [(o (.mv (ci 0)) 2), (o (.mv (cb false)) 3)]) .ret) .skip)) (.seq (.ops [(w 25 0), (o (.conv 242 2 (t 25)) 26), (w 2 26), (o (.mv (cb true)) 3)]) .ret)))
theorem Mc : Fits Tryz.prog 163 1 DJ [(.tmp 2), (.tmp 3)] := cu Tryz.func163 (by kernel_rfl) (by kernel_rfl) (by kernel_rfl)
theorem DK (F : Nat) (a0 : Value) (r : Int × Bool) (h : qK F a0 = some r) : PC Tryz.prog 163 [S.one (.v a0)] (S.tup [(zi_ r.1), (zb_ r.2)]) := by
 unfold qK at h
 refine fC Mc rfl rfl ?_
 intro C hP
 unfold DJ; dsimp
 apply Eso
 apply WM
 apply WM
 refine Wk [0] [] ?_
 (try dsimp)
 apply bP
 apply Eso
 apply WM
 obtain ⟨x1, x1h, h⟩ := aN h
 refine WQ (FC hP rfl rfl (X_b x1h) rfl) ?_
 apply WM
 apply aC
 rfl
 intro hB; (try simp only [hB, bss, ctt]); exact aI rfl
 obtain ⟨x2, x2h, h⟩ := aN h
 apply aC
 rfl
 intro hB; (try simp only [hB, bss, ctt]); exact FC hP rfl rfl (X_b (jW x2h (bt hB))) rfl
 refine WQ (dK rfl rfl rfl) ?_
 refine WQ (dM rfl) ?_
 apply WM
 apply aC
 rfl
 intro hB; (try simp only [hB, bss, ctt]); exact aI rfl
 apply aC
 rfl
 intro hB; (try simp only [hB, bss, ctt]); exact aI rfl
 obtain ⟨x3, x3h, h⟩ := aN h
 apply jk
 rfl
 intro hB; (try simp only [hB, bss, ctt]); exact aF hP (OW F a0 x3 (jW x3h (bt hB))) rfl rfl rfl
 obtain ⟨x4, x4h, h⟩ := aN h
 apply aC
 rfl
 intro hB; (try simp only [hB, bss, ctt]); exact FC hP rfl rfl (X_b (jW x4h (bt hB))) rfl
 refine WQ (dS rfl rfl rfl) ?_
 apply WM
 apply aC
 rfl
 intro hB; (try simp only [hB, bss, ctt]); exact aI rfl
 obtain ⟨x5, x5h, h⟩ := aN h
 apply aC
 rfl
 intro hB; (try simp only [hB, bss, ctt]); exact FC hP rfl rfl (X_b (jW x5h (bt hB))) rfl
 apply aC
 rfl
 intro hB; (try simp only [hB, bss, ctt]); exact aI rfl
 apply kP
 rfl
 intro hA hB; (try simp only [hA, hB, bss, Bool.and_true, Bool.true_and, ctt]); exact (aI rfl).does
 obtain ⟨x6, x6h, h⟩ := aN h
 apply kP
 rfl
 intro hA hB; (try simp only [hA, hB, bss, Bool.and_true, Bool.true_and, ctt]); exact aF hP (Ky F a0 x6 (jW x6h (bt2 hA hB))) rfl rfl rfl
 apply aC
 rfl
 intro hB; (try simp only [hB, bss, ctt]); exact dK rfl rfl rfl
 refine WQ (dS rfl rfl rfl) ?_
 refine Wk [0, 24] [] ?_
 (try dsimp)
 refine Ec h rfl (fun h hc7 => ?_) (fun h hc7 => ?_)
 apply Eso
 apply WM
 apply WM
 refine Wk [2, 3] [] ?_
 (try dsimp)
 apply bI
 cases h
 (try simp only [qt, qb, qn])
 refine aT (xs := _) ⟨_, rfl, ⟨_, rfl, rfl⟩⟩ ?_
 rfl
 apply bG
 refine bf [0] [] ?_
 (try dsimp)
 apply Eso
 apply WM
 obtain ⟨x8, x8h, h⟩ := aN h
 refine WQ (OX hP rfl (X_i x8h) rfl) ?_
 apply WM
 apply WM
 refine Wk [2, 3] [] ?_
 (try dsimp)
 apply bI
 cases h
 (try simp only [qt, qb, qn])
 refine aT (xs := _) ⟨_, rfl, ⟨_, rfl, rfl⟩⟩ ?_
 rfl
def DL : dJ := (.seq (.ops [(o (.mv (ci 0)) 2), (o (.mv (ci 0)) 3), (o (.mv (cb false)) 4)]) (.seq (.ops [(w 8 0), (o (.bi .real #[182] 242 #[false] [(t 8)]) 9), (o (.call 163 [(t 9)]) 10), (w 7 10), (o (.ext 0 (t 7)) 11), (o (.ext 1 (t 7)) 12), (w 2 11), (w 5 12)]) (.seq (.ops [(w 14 0), (o (.bi .imag #[182] 242 #[false] [(t 14)]) 15), (o (.call 163 [(t 15)]) 16), (w 13 16), (o (.ext 0 (t 13)) 17), (o (.ext 1 (t 13)) 18), (w 3 17), (w 6 18)]) (.seq (.seq (.ops [(w 19 5), (o (.un .not (t 19)) 20), (w 21 20), (g_ (.mv (t 6)) 22 21 false), (g_ (.un .not (t 22)) 23 21 false), (o (.pick (t 21) (cb true) (t 23)) 24)]) (.cond (t 24) (.seq (.ops [(o (.mv (ci 0)) 2), (o (.mv (ci 0)) 3), (o (.mv (cb false)) 4)]) .ret) .skip)) (.seq (.ops [(w 25 2), (w 26 3), (w 2 25), (w 3 26), (o (.mv (cb true)) 4)]) .ret)))))
theorem Md : Fits Tryz.prog 131 1 DL [(.tmp 2), (.tmp 3), (.tmp 4)] := cu Tryz.func131 (by kernel_rfl) (by kernel_rfl) (by kernel_rfl)
theorem yR (F : Nat) (a0 : Value) (r : Int × Int × Bool) (h : nN F a0 = some r) : PC Tryz.prog 131 [S.one (.v a0)] (S.tup [(zi_ r.1), (zi_ r.2.1), (zb_ r.2.2)]) := by
 unfold nN at h
 refine fC Md rfl rfl ?_
 intro C hP
 unfold DL; dsimp
 apply Eso
 apply WM
 apply WM
 apply WM
 refine Wk [0] [] ?_
 (try dsimp)
 apply Eso
 apply WM
 obtain ⟨x1, x1h, h⟩ := aN h
 refine WQ (CZ (vs := [a0]) hP rfl (OQ x1h) (OT x1h)) ?_
 obtain ⟨x2, x2h, h⟩ := aN h
 refine W1 (aF hP (DK F x1 x2 x2h) rfl rfl rfl) ?_
 apply WM
 refine WQ (bD rfl rfl) ?_
 refine WQ (bD rfl rfl) ?_
 apply WM
 apply WM
 refine Wk [0, 2, 5] [] ?_
 (try dsimp)
 apply Eso
 apply WM
 obtain ⟨x3, x3h, h⟩ := aN h
 refine WQ (CZ (vs := [a0]) hP rfl (OQ x3h) (OT x3h)) ?_
 obtain ⟨x4, x4h, h⟩ := aN h
 refine W1 (aF hP (DK F x3 x4 x4h) rfl rfl rfl) ?_
 apply WM
 refine WQ (bD rfl rfl) ?_
 refine WQ (bD rfl rfl) ?_
 apply WM
 apply WM
 refine Wk [2, 3, 5, 6] [] ?_
 (try dsimp)
 apply bP
 apply Eso
 apply WM
 refine WQ (dM rfl) ?_
 apply WM
 apply aC
 rfl
 intro hB; (try simp only [hB, bss, ctt]); exact aI rfl
 apply aC
 rfl
 intro hB; (try simp only [hB, bss, ctt]); exact dM rfl
 refine WQ (dS rfl rfl rfl) ?_
 refine Wk [2, 3, 24] [] ?_
 (try dsimp)
 refine Ec h rfl (fun h hc5 => ?_) (fun h hc5 => ?_)
 apply Eso
 apply WM
 apply WM
 apply WM
 refine Wk [2, 3, 4] [] ?_
 (try dsimp)
 apply bI
 cases h
 (try simp only [qt, qb, qn])
 refine aT (xs := _) ⟨_, rfl, ⟨_, rfl, ⟨_, rfl, rfl⟩⟩⟩ ?_
 rfl
 apply bG
 refine bf [2, 3] [] ?_
 (try dsimp)
 apply Eso
 apply WM
 apply WM
 apply WM
 apply WM
 apply WM
 refine Wk [2, 3, 4] [] ?_
 (try dsimp)
 apply bI
 cases h
 (try simp only [qt, qb, qn])
 refine aT (xs := _) ⟨_, rfl, ⟨_, rfl, ⟨_, rfl, rfl⟩⟩⟩ ?_
 rfl
def Kz : dJ := (.seq (.ops [(o (.mv (cb false)) 2)]) (.seq (.ops [(w 3 0), (o (.bin .geq 2 (t 3) (.const (.int .i64 (-1099511627776)))) 4), (w 5 4), (g_ (.mv (t 0)) 6 5 true), (g_ (.bin .leq 2 (t 6) (ci 1099511627776)) 7 5 true), (o (.pick (t 5) (t 7) (cb false)) 8), (w 2 8)]) .ret))
theorem Tj : Fits Tryz.prog 164 1 Kz [(.tmp 2)] := cu Tryz.func164 (by kernel_rfl) (by kernel_rfl) (by kernel_rfl)
theorem KA (F : Nat) (a0 : Int) (r : Bool) (h : xB F a0 = some r) : PC Tryz.prog 164 [(zi_ a0)] (zb_ r) := by
 unfold xB at h
 refine fC Tj rfl rfl ?_
 intro C hP
 unfold Kz; dsimp
 apply Eso
 apply WM
 refine Wk [0] [] ?_
 (try dsimp)
 apply Eso
 apply WM
 refine WQ (aB rfl rfl rfl) ?_
 apply WM
 apply aC
 rfl
 intro hB; (try simp only [hB, bss, ctt]); exact aI rfl
 apply aC
 rfl
 intro hB; (try simp only [hB, bss, ctt]); exact aB rfl rfl rfl
 refine WQ (dK rfl rfl rfl) ?_
 apply WM
 refine Wk [2] [] ?_
 (try dsimp)
 apply bI
 cases h
 (try simp only [qt, qb, qn])
 refine aT (xs := _) ⟨_, rfl, rfl⟩ ?_
 rfl
def KC : dJ := (.seq (.ops [(o (.mv (.const (.complex .f64 0 0))) 4), (o (.mv (cb false)) 5)]) (.seq (.seq (.ops [(w 6 0), (o (.call 164 [(t 6)]) 7), (o (.un .not (t 7)) 8), (w 9 8), (g_ (.mv (t 1)) 10 9 false), (g_ (.call 164 [(t 10)]) 11 9 false), (g_ (.un .not (t 11)) 12 9 false), (o (.pick (t 9) (cb true) (t 12)) 13)]) (.cond (t 13) (.seq (.ops [(o (.mv (.const (.complex .f64 0 0))) 4), (o (.mv (cb false)) 5)]) .ret) .skip)) (.seq (.ops [(w 14 0), (o (.conv 2 242 (t 14)) 15), (w 16 1), (o (.conv 2 242 (t 16)) 17), (o (.bi .complex #[242, 242] 182 #[false, false] [(t 15), (t 17)]) 18), (w 4 18), (o (.mv (cb true)) 5)]) .ret)))
theorem Tn : Fits Tryz.prog 133 2 KC [(.tmp 4), (.tmp 5)] := cu Tryz.func133 (by kernel_rfl) (by kernel_rfl) (by kernel_rfl)
theorem KD (F : Nat) (a0 : Int) (a1 : Int) (r : Value × Bool) (h : qR F a0 a1 = some r) : PC Tryz.prog 133 [(zi_ a0), (zi_ a1)] (S.tup [S.one (.v r.1), (zb_ r.2)]) := by
 unfold qR at h
 refine fC Tn rfl rfl ?_
 intro C hP
 unfold KC; dsimp
 apply Eso
 apply WM
 apply WM
 refine Wk [0, 1] [] ?_
 (try dsimp)
 apply bP
 apply Eso
 apply WM
 obtain ⟨x1, x1h, h⟩ := aN h
 refine W1 (aF hP (KA F a0 x1 x1h) rfl rfl rfl) ?_
 refine WQ (dM rfl) ?_
 apply WM
 apply aC
 rfl
 intro hB; (try simp only [hB, bss, ctt]); exact aI rfl
 obtain ⟨x2, x2h, h⟩ := aN h
 apply jk
 rfl
 intro hB; (try simp only [hB, bss, ctt]); exact aF hP (KA F a1 x2 (jW x2h (bt hB))) rfl rfl rfl
 apply aC
 rfl
 intro hB; (try simp only [hB, bss, ctt]); exact dM rfl
 refine WQ (dS rfl rfl rfl) ?_
 refine Wk [0, 1, 13] [] ?_
 (try dsimp)
 refine Ec h rfl (fun h hc3 => ?_) (fun h hc3 => ?_)
 apply Eso
 apply WM
 apply WM
 refine Wk [4, 5] [] ?_
 (try dsimp)
 apply bI
 cases h
 (try simp only [qt, qb, qn])
 refine aT (xs := _) ⟨_, rfl, ⟨_, rfl, rfl⟩⟩ ?_
 rfl
 apply bG
 refine bf [0, 1] [] ?_
 (try dsimp)
 apply Eso
 apply WM
 obtain ⟨x4, x4h, h⟩ := aN h
 refine WQ (OX hP rfl (OQ x4h) (OT x4h)) ?_
 apply WM
 obtain ⟨x5, x5h, h⟩ := aN h
 refine WQ (OX hP rfl (OQ x5h) (OT x5h)) ?_
 obtain ⟨x6, x6h, h⟩ := aN h
 refine WQ (CZ (vs := [x4, x5]) hP rfl (OQ x6h) (OT x6h)) ?_
 apply WM
 apply WM
 refine Wk [4, 5] [] ?_
 (try dsimp)
 apply bI
 cases h
 (try simp only [qt, qb, qn])
 refine aT (xs := _) ⟨_, rfl, ⟨_, rfl, rfl⟩⟩ ?_
 rfl
def FH : dJ := (.seq (.ops [(o (.mv (.const (.complex .f64 0 0))) 4)]) (.seq (.ops [(w 9 0), (o (.call 131 [(t 9)]) 10), (w 8 10), (o (.ext 0 (t 8)) 11), (o (.ext 1 (t 8)) 12), (o (.ext 2 (t 8)) 13), (w 5 11), (w 6 12), (w 7 13)]) (.seq (.seq (.ops [(w 14 7), (o (.un .not (t 14)) 15)]) (.cond (t 15) (.seq (.ops [(o (.mv (.const (.complex .f64 0 0))) 4)]) .ret) .skip)) (.seq (.seq (.ops [(w 16 1), (o (.bin .rem 3 (t 16) (ci 4)) 17), (o (.bin .add 3 (t 17) (ci 4)) 18), (o (.bin .rem 3 (t 18) (ci 4)) 19), (o (.mv (ci 0)) 20)]) (.block 0 (.loop (.seq (.ops [(o (.bin .lss 3 (t 20) (t 19)) 21)]) (.seq (.cond (t 21) .skip (.exit 0)) (.seq (.block 1 (.ops [(w 22 6), (o (.un .neg (t 22)) 23), (w 24 5), (w 5 23), (w 6 24)])) (.ops [(o (.bin .add 3 (t 20) (ci 1)) 25), (w 20 25)]))))))) (.seq (.ops [(w 27 5), (w 28 6), (o (.call 133 [(t 27), (t 28)]) 29), (w 26 29), (o (.ext 0 (t 26)) 30), (o (.ext 1 (t 26)) 31), (w 0 30)]) (.seq (.ops [(w 32 0), (w 4 32)]) .ret))))))
theorem OY : Fits Tryz.prog 132 2 FH [(.tmp 4)] := cu Tryz.func132 (by kernel_rfl) (by kernel_rfl) (by kernel_rfl)
theorem OZ (F : Nat) (a0 : Value) (a1 : Int) (r : Value) (h : tX F a0 a1 = some r) : PC Tryz.prog 132 [S.one (.v a0), (zi_ a1)] (S.one (.v r)) := by
 unfold tX at h
 refine fC OY rfl rfl ?_
 intro C hP
 unfold FH; dsimp
 apply Eso
 apply WM
 refine Wk [0, 1] [] ?_
 (try dsimp)
 apply Eso
 apply WM
 obtain ⟨x1, x1h, h⟩ := aN h
 refine W1 (aF hP (yR F a0 x1 x1h) rfl rfl rfl) ?_
 apply WM
 refine WQ (bD rfl rfl) ?_
 refine WQ (bD rfl rfl) ?_
 refine WQ (bD rfl rfl) ?_
 apply WM
 apply WM
 apply WM
 refine Wk [1, 5, 6, 7] [] ?_
 (try dsimp)
 apply bP
 apply Eso
 apply WM
 refine WQ (dM rfl) ?_
 refine Wk [1, 5, 6, 15] [] ?_
 (try dsimp)
 refine Ec h rfl (fun h hc2 => ?_) (fun h hc2 => ?_)
 apply Eso
 apply WM
 refine Wk [4] [] ?_
 (try dsimp)
 apply bI
 cases h
 (try simp only [qt, qb, qn])
 refine aT (xs := _) ⟨_, rfl, rfl⟩ ?_
 rfl
 apply bG
 refine bf [1, 5, 6] [] ?_
 (try dsimp)
 obtain ⟨k5, k5d, h⟩ := fO h
 refine dV (α := Int × Int) (fun (i : Int × Int) => (⟨[(5, (zi_ i.1)), (6, (zi_ i.2))], []⟩ : St)) (fun i => k5 i.1 i.2 = some r) (fun i h => ?_) ?_
 obtain ⟨v3, v4⟩ := i
 rw [k5d] at h; dsimp only at h
 (try dsimp)
 apply Eso
 apply WM
 apply WM
 obtain ⟨x6, x6h, h⟩ := aN h
 refine W1 (aF hP (KD F v3 v4 x6 x6h) rfl rfl rfl) ?_
 apply WM
 refine WQ (bD rfl rfl) ?_
 refine WQ (bD rfl rfl) ?_
 apply WM
 refine Wk [0] [] ?_
 (try dsimp)
 apply Eso
 apply WM
 apply WM
 refine Wk [4] [] ?_
 (try dsimp)
 apply bI
 cases h
 (try simp only [qt, qb, qn])
 refine aT (xs := _) ⟨_, rfl, rfl⟩ ?_
 rfl
 apply Eso
 apply WM
 refine WQ (aB rfl rfl rfl) ?_
 obtain ⟨g7, h⟩ := aV h
 refine WQ (cZ rfl rfl g7.1 g7.2) ?_
 refine WQ (aB rfl rfl rfl) ?_
 apply WM
 refine Wk [5, 6, 19, 20] [] ?_
 (try dsimp)
 apply bW
 (try dsimp)
 refine fD (α := Int × Int × Int) (fun (i : Int × Int × Int) => (⟨[(5, (zi_ i.1)), (6, (zi_ i.2.1)), (19, (zi_ (Int.tmod ((Int.tmod a1 4) + (4 : Int)) 4))), (20, (zi_ i.2.2))], []⟩ : St)) (fun n i => mW F a1 k5 n i.1 i.2.1 i.2.2 = some r) F (x1.1, x1.2.1, (0 : Int)) h ?_ (fun n i h => ?_)
 exact (Le.b (bK ⟨rfl, rfl, rfl, rfl, trivial⟩ trivial))
 obtain ⟨v17, v18, v19⟩ := i; dsimp only at h
 obtain _ | n20 := n
 cases h
 unfold mW at h
 (try dsimp)
 apply Eso
 refine WQ (aB rfl rfl rfl) ?_
 apply dn
 (try dsimp)
 apply bP
 refine Ec h rfl (fun h hc21 => ?_) (fun h hc21 => ?_)
 apply bG
 refine bf [5, 6, 19, 20] [] ?_
 (try dsimp)
 apply bP
 apply bW
 apply eP
 apply WM
 obtain ⟨g22, h⟩ := aV h
 refine WQ (XO rfl g22.1 g22.2) ?_
 apply WM
 apply WM
 apply WM
 refine Wk [5, 6, 19, 20] [] ?_
 (try dsimp)
 apply eP
 obtain ⟨g23, h⟩ := aV h
 refine WQ (cZ rfl rfl g23.1 g23.2) ?_
 apply WM
 apply dn
 refine ⟨n20, ((-v18), v17, (v19 + (1 : Int))), Nat.lt_succ_self _, h, ?_⟩
 exact (Le.b (bK ⟨rfl, rfl, rfl, rfl, trivial⟩ trivial))
 apply gV
 refine ⟨(v17, v18), h, ?_⟩
 exact (Le.b (bK ⟨rfl, rfl, trivial⟩ trivial))
def FI : dJ := (.seq (.ops [(o (.mv (ci 0)) 2)]) (.seq (.ops [(w 3 0), (o (.bin .rem 2 (t 3) (ci 1000003)) 4), (o (.bin .add 2 (t 4) (ci 1000003)) 5), (o (.bin .rem 2 (t 5) (ci 1000003)) 6), (w 2 6)]) .ret))
theorem O1 : Fits Tryz.prog 134 1 FI [(.tmp 2)] := cu Tryz.func134 (by kernel_rfl) (by kernel_rfl) (by kernel_rfl)
theorem FK (F : Nat) (a0 : Int) (r : Int) (h : qZ F a0 = some r) : PC Tryz.prog 134 [(zi_ a0)] (zi_ r) := by
 unfold qZ at h
 refine fC O1 rfl rfl ?_
 intro C hP
 unfold FI; dsimp
 apply Eso
 apply WM
 refine Wk [0] [] ?_
 (try dsimp)
 apply Eso
 apply WM
 refine WQ (aB rfl rfl rfl) ?_
 obtain ⟨g1, h⟩ := aV h
 refine WQ (cZ rfl rfl g1.1 g1.2) ?_
 refine WQ (aB rfl rfl rfl) ?_
 apply WM
 refine Wk [2] [] ?_
 (try dsimp)
 apply bI
 cases h
 (try simp only [qt, qb, qn])
 refine aT (xs := _) ⟨_, rfl, rfl⟩ ?_
 rfl
def FM : dJ := (.seq (.ops [(o (.mv (.const (.complex .f64 0 0))) 2)]) (.seq (.ops [(o (.mv (.const (.complex .f64 0 0))) 3)]) (.seq (.seq (.ops [(w 9 0), (o (.len false (t 9)) 10), (o (.mv (ci 0)) 11)]) (.block 0 (.loop (.seq (.ops [(o (.bin .lss 3 (t 11) (t 10)) 12)]) (.seq (.cond (t 12) .skip (.exit 0)) (.seq (.block 1 (.seq (.ops [(o (.gJ 1 (t 9) (t 11)) 13), (o (.load false 1 (t 13)) 14), (w 5 14)]) (.seq (.ops [(w 16 3), (o (.call 132 [(t 16), (ci 1)]) 17), (o (.call 131 [(t 17)]) 18), (w 15 18), (o (.ext 0 (t 15)) 19), (o (.ext 1 (t 15)) 20), (o (.ext 2 (t 15)) 21), (w 6 19), (w 7 20), (w 8 21)]) (.seq (.ops [(w 22 6), (w 23 5), (o (.jF .u16 (t 23)) 24), (o (.jF .i64 (t 24)) 25), (w 26 5), (o (.bin .shr 42 (t 26) (.const (.int .u64 32))) 27), (o (.jF .u16 (t 27)) 28), (o (.jF .i64 (t 28)) 29), (o (.bin .sub 2 (t 25) (t 29)) 30), (o (.bin .add 2 (t 22) (t 30)) 31), (w 6 31)]) (.seq (.ops [(w 32 7), (w 33 5), (o (.bin .shr 42 (t 33) (.const (.int .u64 16))) 34), (o (.jF .u16 (t 34)) 35), (o (.jF .i64 (t 35)) 36), (w 37 5), (o (.bin .shr 42 (t 37) (.const (.int .u64 48))) 38), (o (.jF .u16 (t 38)) 39), (o (.jF .i64 (t 39)) 40), (o (.bin .sub 2 (t 36) (t 40)) 41), (o (.bin .add 2 (t 32) (t 41)) 42), (w 7 42)]) (.ops [(w 44 6), (o (.call 134 [(t 44)]) 45), (w 46 7), (o (.call 134 [(t 46)]) 47), (o (.call 133 [(t 45), (t 47)]) 48), (w 43 48), (o (.ext 0 (t 43)) 49), (o (.ext 1 (t 43)) 50), (w 3 49)])))))) (.ops [(o (.bin .add 3 (t 11) (ci 1)) 51), (w 11 51)]))))))) (.seq (.ops [(w 52 3), (w 2 52)]) .ret))))
theorem O4 : Fits Tryz.prog 94 1 FM [(.tmp 2)] := cu Tryz.func94 (by kernel_rfl) (by kernel_rfl) (by kernel_rfl)
theorem O5 (F : Nat) (a0 : (List Int)) (r : Value) (h : tY F a0 = some r) : PC Tryz.prog 94 [ss cO a0] (S.one (.v r)) := by
 unfold tY at h
 refine fC O4 rfl rfl ?_
 intro C hP
 unfold FM; dsimp
 apply Eso
 apply WM
 refine Wk [0] [] ?_
 (try dsimp)
 apply Eso
 apply WM
 apply dn
 (try dsimp)
 obtain ⟨k2, k2d, h⟩ := fO h
 refine dV (α := Value) (fun (i : Value) => (⟨[(3, S.one (.v i))], []⟩ : St)) (fun i => k2 i = some r) (fun i h => ?_) ?_
 let iv := i; change k2 i = some r at h; generalize i = v1 at h ⊢
 rw [k2d] at h; dsimp only at h
 (try dsimp)
 apply Eso
 apply WM
 apply WM
 refine Wk [2] [] ?_
 (try dsimp)
 apply bI
 cases h
 (try simp only [qt, qb, qn])
 refine aT (xs := _) ⟨_, rfl, rfl⟩ ?_
 rfl
 apply Eso
 apply WM
 refine WQ (bM rfl) ?_
 apply WM
 refine Wk [3, 9, 10, 11] [] ?_
 (try dsimp)
 apply bW
 (try dsimp)
 refine fD (α := Value × Int) (fun (i : Value × Int) => (⟨[(3, S.one (.v i.1)), (9, ss cO a0), (10, (zi_ ((a0.length : Nat) : Int))), (11, (zi_ i.2))], []⟩ : St)) (fun n i => oG F a0 k2 n i.1 i.2 = some r) F ((.complex .f64 0 0 : Value), (0 : Int)) h ?_ (fun n i h => ?_)
 exact (Le.b (bK ⟨rfl, rfl, rfl, rfl, trivial⟩ trivial))
 obtain ⟨v29, v30⟩ := i; dsimp only at h
 obtain _ | n31 := n
 cases h
 unfold oG at h
 (try dsimp)
 apply Eso
 refine WQ (aB rfl rfl rfl) ?_
 apply dn
 (try dsimp)
 apply bP
 refine Ec h rfl (fun h hc32 => ?_) (fun h hc32 => ?_)
 apply bG
 refine bf [3, 9, 10, 11] [] ?_
 (try dsimp)
 apply bP
 apply bW
 apply Eso
 obtain ⟨g33, h⟩ := aV h
 refine WQ (aX rfl rfl g33.1 g33.2) ?_
 refine WQ (aZ (k := 1) rfl (fun _ => rfl) g33 0 rfl rfl) ?_
 apply WM
 refine Wk [3, 5, 9, 10, 11] [] ?_
 (try dsimp)
 apply Eso
 apply WM
 obtain ⟨x34, OJ, h⟩ := aN h
 refine W1 (aF hP (OZ F v29 (1 : Int) x34 OJ) rfl rfl rfl) ?_
 obtain ⟨x35, ada, h⟩ := aN h
 refine W1 (aF hP (yR F x34 x35 ada) rfl rfl rfl) ?_
 apply WM
 refine WQ (bD rfl rfl) ?_
 refine WQ (bD rfl rfl) ?_
 refine WQ (bD rfl rfl) ?_
 apply WM
 apply WM
 apply WM
 refine Wk [5, 6, 7, 9, 10, 11] [] ?_
 (try dsimp)
 apply Eso
 apply WM
 apply WM
 refine WQ (dF rfl) ?_
 refine WQ (dF rfl) ?_
 apply WM
 refine WQ (zl rfl rfl (by decide)) ?_
 refine WQ (dF rfl) ?_
 refine WQ (dF rfl) ?_
 obtain ⟨g36, h⟩ := aV h
 refine WQ (lK rfl rfl g36.1 g36.2) ?_
 obtain ⟨g37, h⟩ := aV h
 refine WQ (cZ rfl rfl g37.1 g37.2) ?_
 apply WM
 refine Wk [5, 6, 7, 9, 10, 11] [] ?_
 (try dsimp)
 apply Eso
 apply WM
 apply WM
 refine WQ (zl rfl rfl (by decide)) ?_
 refine WQ (dF rfl) ?_
 refine WQ (dF rfl) ?_
 apply WM
 refine WQ (zl rfl rfl (by decide)) ?_
 refine WQ (dF rfl) ?_
 refine WQ (dF rfl) ?_
 obtain ⟨g38, h⟩ := aV h
 refine WQ (lK rfl rfl g38.1 g38.2) ?_
 obtain ⟨g39, h⟩ := aV h
 refine WQ (cZ rfl rfl g39.1 g39.2) ?_
 apply WM
 refine Wk [6, 7, 9, 10, 11] [] ?_
 (try dsimp)
 apply eP
 apply WM
 obtain ⟨x40, aaz, h⟩ := aN h
 refine W1 (aF hP (FK F (x35.1 + ((IntKind.i64.wrap (IntKind.u16.wrap (nth a0 v30))) - (IntKind.i64.wrap (IntKind.u16.wrap (kS .u64 (nth a0 v30) (32 : Int)))))) x40 aaz) rfl rfl rfl) ?_
 apply WM
 obtain ⟨x41, XG, h⟩ := aN h
 refine W1 (aF hP (FK F (x35.2.1 + ((IntKind.i64.wrap (IntKind.u16.wrap (kS .u64 (nth a0 v30) (16 : Int)))) - (IntKind.i64.wrap (IntKind.u16.wrap (kS .u64 (nth a0 v30) (48 : Int)))))) x41 XG) rfl rfl rfl) ?_
 obtain ⟨x42, aah, h⟩ := aN h
 refine W1 (aF hP (KD F x40 x41 x42 aah) rfl rfl rfl) ?_
 apply WM
 refine WQ (bD rfl rfl) ?_
 refine WQ (bD rfl rfl) ?_
 apply WM
 refine Wk [3, 9, 10, 11] [] ?_
 (try dsimp)
 apply eP
 obtain ⟨g43, h⟩ := aV h
 refine WQ (cZ rfl rfl g43.1 g43.2) ?_
 apply WM
 apply dn
 refine ⟨n31, (x42.1, (v30 + (1 : Int))), Nat.lt_succ_self _, h, ?_⟩
 exact (Le.b (bK ⟨rfl, rfl, rfl, rfl, trivial⟩ trivial))
 apply gV
 refine ⟨v29, h, ?_⟩
 exact (Le.b (bK ⟨rfl, trivial⟩ trivial))
def FN : dJ := (.seq (.ops [(o (.mv (.const (.int .u64 0))) 2), (o (.mv (cb false)) 3)]) (.seq (.ops [(w 8 0), (o (.call 131 [(t 8)]) 9), (w 7 9), (o (.ext 0 (t 7)) 10), (o (.ext 1 (t 7)) 11), (o (.ext 2 (t 7)) 12), (w 4 10), (w 5 11), (w 6 12)]) (.seq (.seq (.ops [(w 13 6), (o (.un .not (t 13)) 14), (w 15 14), (g_ (.mv (t 4)) 16 15 false), (g_ (.bin .lss 2 (t 16) (ci 0)) 17 15 false), (o (.pick (t 15) (cb true) (t 17)) 18), (w 19 18), (g_ (.mv (t 4)) 20 19 false), (g_ (.bin .gtr 2 (t 20) (ci 4294967295)) 21 19 false), (o (.pick (t 19) (cb true) (t 21)) 22), (w 23 22), (g_ (.mv (t 5)) 24 23 false), (g_ (.bin .lss 2 (t 24) (ci 0)) 25 23 false), (o (.pick (t 23) (cb true) (t 25)) 26), (w 27 26), (g_ (.mv (t 5)) 28 27 false), (g_ (.bin .gtr 2 (t 28) (ci 4294967295)) 29 27 false), (o (.pick (t 27) (cb true) (t 29)) 30)]) (.cond (t 30) (.seq (.ops [(o (.mv (.const (.int .u64 0))) 2), (o (.mv (cb false)) 3)]) .ret) .skip)) (.seq (.ops [(w 31 5), (o (.jF .u64 (t 31)) 32), (o (.bin .shl 42 (t 32) (.const (.int .u64 32))) 33), (w 34 4), (o (.jF .u64 (t 34)) 35), (o (.bin .or 42 (t 33) (t 35)) 36), (w 2 36), (o (.mv (cb true)) 3)]) .ret))))
theorem O6 : Fits Tryz.prog 93 1 FN [(.tmp 2), (.tmp 3)] := cu Tryz.func93 (by kernel_rfl) (by kernel_rfl) (by kernel_rfl)
theorem O7 (F : Nat) (a0 : Value) (r : Int × Bool) (h : tZ F a0 = some r) : PC Tryz.prog 93 [S.one (.v a0)] (S.tup [(zu_ r.1), (zb_ r.2)]) := by
 unfold tZ at h
 refine fC O6 rfl rfl ?_
 intro C hP
 unfold FN; dsimp
 apply Eso
 apply WM
 apply WM
 refine Wk [0] [] ?_
 (try dsimp)
 apply Eso
 apply WM
 obtain ⟨x1, x1h, h⟩ := aN h
 refine W1 (aF hP (yR F a0 x1 x1h) rfl rfl rfl) ?_
 apply WM
 refine WQ (bD rfl rfl) ?_
 refine WQ (bD rfl rfl) ?_
 refine WQ (bD rfl rfl) ?_
 apply WM
 apply WM
 apply WM
 refine Wk [4, 5, 6] [] ?_
 (try dsimp)
 apply bP
 apply Eso
 apply WM
 refine WQ (dM rfl) ?_
 apply WM
 apply aC
 rfl
 intro hB; (try simp only [hB, bss, ctt]); exact aI rfl
 apply aC
 rfl
 intro hB; (try simp only [hB, bss, ctt]); exact aB rfl rfl rfl
 refine WQ (dS rfl rfl rfl) ?_
 apply WM
 apply aC
 rfl
 intro hB; (try simp only [hB, bss, ctt]); exact aI rfl
 apply aC
 rfl
 intro hB; (try simp only [hB, bss, ctt]); exact aB rfl rfl rfl
 refine WQ (dS rfl rfl rfl) ?_
 apply WM
 apply aC
 rfl
 intro hB; (try simp only [hB, bss, ctt]); exact aI rfl
 apply aC
 rfl
 intro hB; (try simp only [hB, bss, ctt]); exact aB rfl rfl rfl
 refine WQ (dS rfl rfl rfl) ?_
 apply WM
 apply aC
 rfl
 intro hB; (try simp only [hB, bss, ctt]); exact aI rfl
 apply aC
 rfl
 intro hB; (try simp only [hB, bss, ctt]); exact aB rfl rfl rfl
 refine WQ (dS rfl rfl rfl) ?_
 refine Wk [4, 5, 30] [] ?_
 (try dsimp)
 refine Ec h rfl (fun h hc2 => ?_) (fun h hc2 => ?_)
 apply Eso
 apply WM
 apply WM
 refine Wk [2, 3] [] ?_
 (try dsimp)
 apply bI
 cases h
 (try simp only [qt, qb, qn])
 refine aT (xs := _) ⟨_, rfl, ⟨_, rfl, rfl⟩⟩ ?_
 rfl
 apply bG
 refine bf [4, 5] [] ?_
 (try dsimp)
 apply Eso
 apply WM
 refine WQ (dF rfl) ?_
 refine WQ (vU rfl rfl (by decide)) ?_
 apply WM
 refine WQ (dF rfl) ?_
 refine WQ (aB rfl rfl rfl) ?_
 apply WM
 apply WM
 refine Wk [2, 3] [] ?_
 (try dsimp)
 apply bI
 cases h
 (try simp only [qt, qb, qn])
 refine aT (xs := _) ⟨_, rfl, ⟨_, rfl, rfl⟩⟩ ?_
 rfl
def H9 : dJ := (.seq (.ops [(o (.box 147 (t 0)) 1), (o (.mv cn) 2)]) (.seq (.seq (.ops [(o (.add 0 (t 1)) 6), (o (.load true 3 (t 6)) 7), (o (.call 38 [(t 7)]) 8), (o (.un .not (t 8)) 9)]) (.cond (t 9) (.seq (.ops [(o (.mv cn) 2)]) .ret) .skip)) (.seq (.ops [(o (.add 0 (t 1)) 10), (o (.add 0 (t 10)) 11), (o (.load false 1 (t 11)) 12), (o (.jF .u64 (t 12)) 13), (o (.add 0 (t 1)) 14), (o (.add 1 (t 14)) 15), (o (.load false 1 (t 15)) 16), (o (.jF .u64 (t 16)) 17), (o (.add 0 (t 1)) 18), (o (.add 2 (t 18)) 19), (o (.load false 1 (t 19)) 20), (o (.jF .u64 (t 20)) 21), (o (.add 3 (t 1)) 22), (o (.load false 1 (t 22)) 23), (o (.kK 1 42 7 [zu, zu, zu, zu, zu, zu, zu] [(0, (1, (.const (.int .u64 8243106252149764145)))), (1, (1, (t 13))), (2, (1, (t 17))), (3, (1, (t 21))), (4, (1, (t 23))), (5, (1, (.const (.int .u64 0)))), (6, (1, (.const (.int .u64 0))))]) 24), (w 3 24)]) (.seq (.ops [(w 26 3), (o (.call 94 [(t 26)]) 27), (o (.call 93 [(t 27)]) 28), (w 25 28), (o (.ext 0 (t 25)) 29), (o (.ext 1 (t 25)) 30), (w 4 29), (w 5 30)]) (.seq (.ops [(w 31 3), (w 32 4), (o (.kK 1 42 1 [zu] [(0, (1, (t 32)))]) 33), (o (.app 36 42 1 8 (t 31) (t 33)) 34), (w 2 34)]) .ret)))))
theorem QD : Fits Tryz.prog 57 1 H9 [(.tmp 2)] := cu Tryz.func57 (by kernel_rfl) (by kernel_rfl) (by kernel_rfl)
theorem BI (F : Nat) (a0 : dQ) (r : (List Int)) (h : pV F a0 = some r) : PC Tryz.prog 57 [S.agg [vi a0.bH.ak, vi a0.bH.au, vi a0.bH.ay, vu a0.tq]] (ss cO r) := by
 unfold pV at h
 refine fC QD rfl rfl ?_
 intro C hP
 unfold H9; dsimp
 apply Eso
 refine W1 (eu rfl rfl rfl rfl) ?_
 apply WM
 refine Wk [1] [1] ?_
 (try dsimp)
 apply bP
 apply Eso
 refine WQ (ah rfl rfl) ?_
 refine WQ qlA ?_
 obtain ⟨x1, x1h, h⟩ := aN h
 refine W1 (aF hP (nZ F a0.bH x1 x1h) rfl rfl rfl) ?_
 refine WQ (dM rfl) ?_
 refine Wk [1, 9] [1] ?_
 (try dsimp)
 refine Ec h rfl (fun h hc2 => ?_) (fun h hc2 => ?_)
 apply Eso
 apply WM
 refine Wk [2] [] ?_
 (try dsimp)
 refine fA (FP (i := 2) rfl).b ?_
 (try dsimp)
 apply bI
 cases h
 (try simp only [qt, qb, qn])
 refine aT (xs := _) ⟨_, rfl, rfl⟩ ?_
 rfl
 apply bG
 refine bf [1] [1] ?_
 (try dsimp)
 apply Eso
 refine WQ (ah rfl rfl) ?_
 refine WQ (ah rfl rfl) ?_
 refine WQ (aj rfl rfl rfl) ?_
 refine WQ (dF rfl) ?_
 refine WQ (ah rfl rfl) ?_
 refine WQ (ah rfl rfl) ?_
 refine WQ (aj rfl rfl rfl) ?_
 refine WQ (dF rfl) ?_
 refine WQ (ah rfl rfl) ?_
 refine WQ (ah rfl rfl) ?_
 refine WQ (aj rfl rfl rfl) ?_
 refine WQ (dF rfl) ?_
 refine WQ (ah rfl rfl) ?_
 refine WQ (aj rfl rfl rfl) ?_
 refine W1 (dY rfl rfl rfl rfl) ?_
 apply WM
 refine Wk [3] [24] ?_
 (try dsimp)
 apply Eso
 apply WM
 obtain ⟨x3, x3h, h⟩ := aN h
 refine W1 (oh hP (O5 F ([(8243106252149764145 : Int), (IntKind.u64.wrap a0.bH.ak), (IntKind.u64.wrap a0.bH.au), (IntKind.u64.wrap a0.bH.ay), a0.tq, (0 : Int), (0 : Int)] : List Int) x3 x3h) rfl rfl) ?_
 obtain ⟨x4, x4h, h⟩ := aN h
 refine W1 (aF hP (O7 F x3 x4 x4h) rfl rfl rfl) ?_
 apply WM
 refine WQ (bD rfl rfl) ?_
 refine WQ (bD rfl rfl) ?_
 apply WM
 apply WM
 refine Wk [3, 4] [24] ?_
 (try dsimp)
 apply Eso
 apply WM
 apply WM
 refine W1 (dY rfl rfl rfl rfl) ?_
 obtain ⟨g5, h⟩ := aV h
 refine W1 (Does.ghost (mM (r := 24) (g' := (⟨true, flat cO ([(8243106252149764145 : Int), (IntKind.u64.wrap a0.bH.ak), (IntKind.u64.wrap a0.bH.au), (IntKind.u64.wrap a0.bH.ay), a0.tq, (0 : Int), (0 : Int)] : List Int)⟩ : Reg)) rfl rfl).b (jc (e := cO) rfl rfl (fun _ => rfl) (fun _ => rfl) rfl (Src.lit (e := cO) ([x4.1] : List Int) rfl (fun _ => rfl) rfl rfl) g5 rfl)) ?_
 apply WM
 refine Wk [2] [24] ?_
 (try dsimp)
 refine fA (l7 (r := 24) rfl rfl).b ?_
 (try dsimp)
 apply bI
 cases h
 (try simp only [qt, qb, qn])
 refine aT (xs := _) ⟨_, rfl, rfl⟩ ?_
 rfl
def KE : dJ := (.seq (.ops [(o (.box 23 (t 0)) 2), (o (.mv (ci 0)) 4)]) (.seq (.seq (.ops [(o (.load true 3 (t 2)) 5), (o (.call 38 [(t 5)]) 6), (o (.un .not (t 6)) 7), (w 8 7), (g_ (.mv (t 1)) 9 8 false), (g_ (.add 1 (t 2)) 10 8 false), (g_ (.load false 1 (t 10)) 11 8 false), (g_ (.bin .sub 3 (t 11) (ci 1)) 12 8 false), (g_ (.call 63 [(t 9), (ci 0), (t 12)]) 13 8 false), (g_ (.un .not (t 13)) 14 8 false), (o (.pick (t 8) (cb true) (t 14)) 15)]) (.cond (t 15) (.seq (.ops [(o (.mv (ci 0)) 4)]) .ret) .skip)) (.seq (.ops [(o (.load true 3 (t 2)) 16), (o (.call 96 [(t 16)]) 17), (w 18 1), (o (.bin .mul 3 (ci 2) (t 18)) 19), (o (.bin .add 3 (t 17) (t 19)) 20), (w 4 20)]) .ret)))
theorem Tq : Fits Tryz.prog 59 2 KE [(.tmp 4)] := cu Tryz.func59 (by kernel_rfl) (by kernel_rfl) (by kernel_rfl)
theorem Ep (F : Nat) (a0 : bg) (a1 : Int) (r : Int) (h : sQ F a0 a1 = some r) : PC Tryz.prog 59 [S.agg [vi a0.ak, vi a0.au, vi a0.ay], (zi_ a1)] (zi_ r) := by
 unfold sQ at h
 refine fC Tq rfl rfl ?_
 intro C hP
 unfold KE; dsimp
 apply Eso
 refine W1 (eu rfl rfl rfl rfl) ?_
 apply WM
 refine Wk [1, 2] [2] ?_
 (try dsimp)
 apply bP
 apply Eso
 refine WQ qlA ?_
 obtain ⟨x1, x1h, h⟩ := aN h
 refine W1 (aF hP (nZ F a0 x1 x1h) rfl rfl rfl) ?_
 refine WQ (dM rfl) ?_
 apply WM
 apply aC
 rfl
 intro hB; (try simp only [hB, bss, ctt]); exact aI rfl
 apply aC
 rfl
 intro hB; (try simp only [hB, bss, ctt]); exact ah rfl rfl
 apply aC
 rfl
 intro hB; (try simp only [hB, bss, ctt]); exact aj rfl rfl rfl
 obtain ⟨g2, h⟩ := aV h
 apply aC
 rfl
 intro hB; (try simp only [hB, bss, ctt]); exact lK rfl rfl (g2 hB).1 (g2 hB).2
 obtain ⟨x3, x3h, h⟩ := aN h
 apply jk
 rfl
 intro hB; (try simp only [hB, bss, ctt]); exact aF hP (xM F a1 (0 : Int) (a0.au - (1 : Int)) x3 (jW x3h (bt hB))) rfl rfl rfl
 apply aC
 rfl
 intro hB; (try simp only [hB, bss, ctt]); exact dM rfl
 refine WQ (dS rfl rfl rfl) ?_
 refine Wk [1, 2, 15] [2] ?_
 (try dsimp)
 refine Ec h rfl (fun h hc4 => ?_) (fun h hc4 => ?_)
 apply Eso
 apply WM
 refine Wk [4] [] ?_
 (try dsimp)
 apply bI
 cases h
 (try simp only [qt, qb, qn])
 refine aT (xs := _) ⟨_, rfl, rfl⟩ ?_
 rfl
 apply bG
 refine bf [1, 2] [2] ?_
 (try dsimp)
 apply Eso
 refine WQ qlA ?_
 obtain ⟨x5, x5h, h⟩ := aN h
 refine W1 (aF hP (DI F a0 x5 x5h) rfl rfl rfl) ?_
 apply WM
 obtain ⟨g6, h⟩ := aV h
 refine WQ (nC rfl rfl g6.1 g6.2) ?_
 obtain ⟨g7, h⟩ := aV h
 refine WQ (cZ rfl rfl g7.1 g7.2) ?_
 apply WM
 refine Wk [4] [] ?_
 (try dsimp)
 apply bI
 cases h
 (try simp only [qt, qb, qn])
 refine aT (xs := _) ⟨_, rfl, rfl⟩ ?_
 rfl
def FQ : dJ := (.seq (.ops [(o (.mv cn) 0)]) (.seq (.ops [(o (.build [zi, zi] [(0, (1, (ci 0))), (1, (1, (ci 8)))]) 1), (o (.build [zi, zi] [(0, (1, (ci 8))), (1, (1, (ci 8)))]) 2), (o (.build [zi, zi] [(0, (1, (ci 16))), (1, (1, (ci 16)))]) 3), (o (.build [zi, zi] [(0, (1, (ci 32))), (1, (1, (ci 16)))]) 4), (o (.kK 2 221 4 [zi, zi, zi, zi, zi, zi, zi, zi] [(0, (2, (t 1))), (2, (2, (t 2))), (4, (2, (t 3))), (6, (2, (t 4)))]) 5), (w 0 5)]) .ret))
theorem O8 : Fits Tryz.prog 99 0 FQ [(.tmp 0)] := cu Tryz.func99 (by kernel_rfl) (by kernel_rfl) (by kernel_rfl)
theorem wV (F : Nat)  (r : (List aU)) (h : rD F  = some r) : PC Tryz.prog 99 [] (ss iH r) := by
 unfold rD at h
 refine fC O8 rfl rfl ?_
 intro C hP
 unfold FQ; dsimp
 apply Eso
 apply WM
 refine Wk [] [] ?_
 (try dsimp)
 apply Eso
 refine WQ (bV rfl rfl) ?_
 refine WQ (bV rfl rfl) ?_
 refine WQ (bV rfl rfl) ?_
 refine WQ (bV rfl rfl) ?_
 refine W1 (dY rfl rfl rfl rfl) ?_
 apply WM
 refine Wk [0] [5] ?_
 (try dsimp)
 refine fA (mM (r := 5) (g' := (⟨true, flat iH ([(⟨(0 : Int), (8 : Int)⟩ : aU), (⟨(8 : Int), (8 : Int)⟩ : aU), (⟨(16 : Int), (16 : Int)⟩ : aU), (⟨(32 : Int), (16 : Int)⟩ : aU)] : List aU)⟩ : Reg)) rfl rfl).b ?_
 (try dsimp)
 obtain ⟨g1, h⟩ := aV h
 refine fA (mV (i := 0) _ rfl g1).b ?_
 (try dsimp)
 refine fA (l7 (r := 5) rfl rfl).b ?_
 (try dsimp)
 apply bI
 cases h
 (try simp only [qt, qb, qn])
 refine aT (xs := _) ⟨_, rfl, rfl⟩ ?_
 rfl
def zn : dJ := (.seq (.ops [(o (.box 221 (t 0)) 1), (o (.mv (.const (.int .u64 0))) 2)]) (.seq (.draw [((o (.add 1 (t 1)) 3), []), ((o (.load false 1 (t 3)) 4), [0]), ((o (.bin .shl 42 (.const (.int .u64 1)) (t 4)) 5), [1]), ((o (.bin .sub 42 (t 5) (.const (.int .u64 1))) 6), [2]), ((o (.add 0 (t 1)) 7), []), ((o (.load false 1 (t 7)) 8), [4]), ((o (.bin .shl 42 (t 6) (t 8)) 9), [3, 5]), ((w 2 9), [6, 0, 1, 2, 3, 4, 5, 6])]) .ret))
theorem GH : Fits Tryz.prog 140 1 zn [(.tmp 2)] := cu Tryz.func140 (by kernel_rfl) (by kernel_rfl) (by kernel_rfl)
theorem rF (F : Nat) (a0 : aU) (r : Int) (h : iD F a0 = some r) : PC Tryz.prog 140 [S.agg [vi a0.fE, vi a0.Gw]] (zu_ r) := by
 unfold iD at h
 refine fC GH rfl rfl ?_
 intro C hP
 unfold zn; dsimp
 apply Eso
 refine W1 (eu rfl rfl rfl rfl) ?_
 apply WM
 refine Wk [1] [1] ?_
 (try dsimp)
 apply bP
 obtain ⟨g1, h⟩ := aV h
 obtain ⟨g2, h⟩ := aV h
 refine iY [0, 1, 2, 3, 4, 5, 6, 7] ?_
 refine XQ 0 rfl rfl rfl (ah rfl rfl) ?_
 refine XQ 1 rfl rfl rfl (aj rfl rfl rfl) ?_
 refine XQ 2 rfl rfl rfl (vU rfl rfl g1) ?_
 refine XQ 3 rfl rfl rfl (aB rfl rfl rfl) ?_
 refine XQ 4 rfl rfl rfl (ah rfl rfl) ?_
 refine XQ 5 rfl rfl rfl (aj rfl rfl rfl) ?_
 refine XQ 6 rfl rfl rfl (vU rfl rfl g2) ?_
 refine XQ 7 rfl rfl rfl (aI rfl) ?_
 refine ig rfl ?_
 refine bf [2] [] ?_
 (try dsimp)
 apply bI
 cases h
 (try simp only [qt, qb, qn])
 refine aT (xs := _) ⟨_, rfl, rfl⟩ ?_
 rfl
def Nl : dJ := (.seq (.ops [(o (.mv (.const (.int .u64 0))) 2), (o (.mv (cb false)) 3)]) (.seq (.ops [(o (.mv (.const (.int .u64 0))) 4)]) (.seq (.seq (.ops [(w 7 0), (o (.len false (t 7)) 8), (o (.mv (ci 0)) 9)]) (.block 0 (.loop (.seq (.ops [(o (.bin .lss 3 (t 9) (t 8)) 10)]) (.seq (.cond (t 10) .skip (.exit 0)) (.seq (.block 1 (.seq (.ops [(o (.gJ 2 (t 7) (t 9)) 11), (o (.load true 2 (t 11)) 12), (o (.jR [zi, zi]) 6), (n_ (.store 2 (t 6) (t 12)))]) (.seq (.seq (.ops [(o (.add 0 (t 6)) 13), (o (.load false 1 (t 13)) 14), (o (.bin .lss 3 (t 14) (ci 0)) 15), (w 16 15), (g_ (.add 0 (t 6)) 17 16 false), (g_ (.load false 1 (t 17)) 18 16 false), (g_ (.bin .geq 3 (t 18) (ci 64)) 19 16 false), (o (.pick (t 16) (cb true) (t 19)) 20), (w 21 20), (g_ (.add 1 (t 6)) 22 21 false), (g_ (.load false 1 (t 22)) 23 21 false), (g_ (.bin .lss 3 (t 23) (ci 1)) 24 21 false), (o (.pick (t 21) (cb true) (t 24)) 25), (w 26 25), (g_ (.add 1 (t 6)) 27 26 false), (g_ (.load false 1 (t 27)) 28 26 false), (g_ (.add 0 (t 6)) 29 26 false), (g_ (.load false 1 (t 29)) 30 26 false), (g_ (.bin .sub 3 (ci 64) (t 30)) 31 26 false), (g_ (.bin .gtr 3 (t 28) (t 31)) 32 26 false), (o (.pick (t 26) (cb true) (t 32)) 33), (w 34 33), (g_ (.mv (t 4)) 35 34 false), (g_ (.load true 2 (t 6)) 36 34 false), (g_ (.call 140 [(t 36)]) 37 34 false), (g_ (.bin .and 42 (t 35) (t 37)) 38 34 false), (g_ (.bin .neq 42 (t 38) (.const (.int .u64 0))) 39 34 false), (o (.pick (t 34) (cb true) (t 39)) 40)]) (.cond (t 40) (.seq (.ops [(o (.mv (.const (.int .u64 0))) 2), (o (.mv (cb false)) 3)]) .ret) .skip)) (.ops [(w 41 4), (o (.load true 2 (t 6)) 42), (o (.call 140 [(t 42)]) 43), (o (.bin .or 42 (t 41) (t 43)) 44), (w 4 44)])))) (.ops [(o (.bin .add 3 (t 9) (ci 1)) 45), (w 9 45)]))))))) (.seq (.ops [(w 46 4), (w 2 46), (o (.mv (cb true)) 3)]) .ret))))
theorem Vu : Fits Tryz.prog 159 1 Nl [(.tmp 2), (.tmp 3)] := cu Tryz.func159 (by kernel_rfl) (by kernel_rfl) (by kernel_rfl)
theorem Np (F : Nat) (a0 : (List aU)) (r : Int × Bool) (h : CY F a0 = some r) : PC Tryz.prog 159 [ss iH a0] (S.tup [(zu_ r.1), (zb_ r.2)]) := by
 unfold CY at h
 refine fC Vu rfl rfl ?_
 intro C hP
 unfold Nl; dsimp
 apply Eso
 apply WM
 apply WM
 refine Wk [0] [] ?_
 (try dsimp)
 apply Eso
 apply WM
 apply dn
 (try dsimp)
 obtain ⟨k2, k2d, h⟩ := fO h
 refine dV (α := Int) (fun (i : Int) => (⟨[(4, (zu_ i))], []⟩ : St)) (fun i => k2 i = some r) (fun i h => ?_) ?_
 let iv := i; change k2 i = some r at h; generalize i = v1 at h ⊢
 rw [k2d] at h; dsimp only at h
 (try dsimp)
 apply Eso
 apply WM
 apply WM
 apply WM
 refine Wk [2, 3] [] ?_
 (try dsimp)
 apply bI
 cases h
 (try simp only [qt, qb, qn])
 refine aT (xs := _) ⟨_, rfl, ⟨_, rfl, rfl⟩⟩ ?_
 rfl
 apply Eso
 apply WM
 refine WQ (bM rfl) ?_
 apply WM
 refine Wk [4, 7, 8, 9] [] ?_
 (try dsimp)
 apply bW
 (try dsimp)
 refine fD (α := Int × Int) (fun (i : Int × Int) => (⟨[(4, (zu_ i.1)), (7, ss iH a0), (8, (zi_ ((a0.length : Nat) : Int))), (9, (zi_ i.2))], []⟩ : St)) (fun n i => wU F a0 k2 n i.1 i.2 = some r) F ((0 : Int), (0 : Int)) h ?_ (fun n i h => ?_)
 exact (Le.b (bK ⟨rfl, rfl, rfl, rfl, trivial⟩ trivial))
 obtain ⟨v19, v20⟩ := i; dsimp only at h
 obtain _ | n21 := n
 cases h
 unfold wU at h
 (try dsimp)
 apply Eso
 refine WQ (aB rfl rfl rfl) ?_
 apply dn
 (try dsimp)
 apply bP
 refine Ec h rfl (fun h hc22 => ?_) (fun h hc22 => ?_)
 apply bG
 refine bf [4, 7, 8, 9] [] ?_
 (try dsimp)
 apply bP
 apply bW
 apply Eso
 obtain ⟨g23, h⟩ := aV h
 refine WQ (aX rfl rfl g23.1 g23.2) ?_
 refine WQ (dX (k := 2) rfl (fun _ => rfl) g23 0 rfl rfl rfl) ?_
 refine W1 (dw rfl rfl) ?_
 refine W1 dst ?_
 refine Wk [4, 6, 7, 8, 9] [6] ?_
 (try dsimp)
 apply bP
 apply Eso
 refine WQ (ah rfl rfl) ?_
 refine WQ (aj rfl rfl rfl) ?_
 refine WQ (aB rfl rfl rfl) ?_
 apply WM
 apply aC
 rfl
 intro hB; (try simp only [hB, bss, ctt]); exact ah rfl rfl
 apply aC
 rfl
 intro hB; (try simp only [hB, bss, ctt]); exact aj rfl rfl rfl
 apply aC
 rfl
 intro hB; (try simp only [hB, bss, ctt]); exact aB rfl rfl rfl
 refine WQ (dS rfl rfl rfl) ?_
 apply WM
 apply aC
 rfl
 intro hB; (try simp only [hB, bss, ctt]); exact ah rfl rfl
 apply aC
 rfl
 intro hB; (try simp only [hB, bss, ctt]); exact aj rfl rfl rfl
 apply aC
 rfl
 intro hB; (try simp only [hB, bss, ctt]); exact aB rfl rfl rfl
 refine WQ (dS rfl rfl rfl) ?_
 apply WM
 apply aC
 rfl
 intro hB; (try simp only [hB, bss, ctt]); exact ah rfl rfl
 apply aC
 rfl
 intro hB; (try simp only [hB, bss, ctt]); exact aj rfl rfl rfl
 apply aC
 rfl
 intro hB; (try simp only [hB, bss, ctt]); exact ah rfl rfl
 apply aC
 rfl
 intro hB; (try simp only [hB, bss, ctt]); exact aj rfl rfl rfl
 obtain ⟨g24, h⟩ := aV h
 apply aC
 rfl
 intro hB; (try simp only [hB, bss, ctt]); exact lK rfl rfl (g24 hB).1 (g24 hB).2
 apply aC
 rfl
 intro hB; (try simp only [hB, bss, ctt]); exact aB rfl rfl rfl
 refine WQ (dS rfl rfl rfl) ?_
 apply WM
 apply aC
 rfl
 intro hB; (try simp only [hB, bss, ctt]); exact aI rfl
 apply aC
 rfl
 intro hB; (try simp only [hB, bss, ctt]); exact qlA
 obtain ⟨x25, aaA, h⟩ := aN h
 apply jk
 rfl
 intro hB; (try simp only [hB, bss, ctt]); exact aF hP (rF F (nth a0 v20) x25 (jW aaA (bt hB))) rfl rfl rfl
 apply aC
 rfl
 intro hB; (try simp only [hB, bss, ctt]); exact aB rfl rfl rfl
 apply aC
 rfl
 intro hB; (try simp only [hB, bss, ctt]); exact aB rfl rfl rfl
 refine WQ (dS rfl rfl rfl) ?_
 refine Wk [4, 6, 7, 8, 9, 40] [6] ?_
 (try dsimp)
 refine Ec h rfl (fun h XP => ?_) (fun h XP => ?_)
 apply Eso
 apply WM
 apply WM
 refine Wk [2, 3] [] ?_
 (try dsimp)
 apply bI
 cases h
 (try simp only [qt, qb, qn])
 refine aT (xs := _) ⟨_, rfl, ⟨_, rfl, rfl⟩⟩ ?_
 rfl
 apply bG
 refine bf [4, 6, 7, 8, 9] [6] ?_
 (try dsimp)
 apply eP
 apply WM
 refine WQ qlA ?_
 obtain ⟨x27, adb, h⟩ := aN h
 refine W1 (aF hP (rF F (nth a0 v20) x27 adb) rfl rfl rfl) ?_
 refine WQ (aB rfl rfl rfl) ?_
 apply WM
 refine Wk [4, 7, 8, 9] [] ?_
 (try dsimp)
 apply eP
 obtain ⟨g28, h⟩ := aV h
 refine WQ (cZ rfl rfl g28.1 g28.2) ?_
 apply WM
 apply dn
 refine ⟨n21, ((ior .u64 v19 x27), (v20 + (1 : Int))), Nat.lt_succ_self _, h, ?_⟩
 exact (Le.b (bK ⟨rfl, rfl, rfl, rfl, trivial⟩ trivial))
 apply gV
 refine ⟨v19, h, ?_⟩
 exact (Le.b (bK ⟨rfl, trivial⟩ trivial))
end Go.V.P
