/- Walks: each function does what its model says. No premises. -/
import Derived.Test.YtopidcbmhdeclaaGreatP1
set_option linter.unusedVariables false
set_option linter.unusedSimpArgs false
set_option maxRecDepth 20000
set_option maxHeartbeats 4000000
namespace Go.V.P
open Go.V Go.Proofs
def CZ : cO := (q [o (.box 73 0) 3] (.seq (q [w 8 2, w 9 1, o (.SC 8 9) 10] (.cond 10 .ret .skip)) (q [w 11 2, w 12 1, n_ (.aas 11 12 (cb yy))] (q [o (.add 3 3) 13, o (.load nn 1 13) 14, o (.len nn 14) 15, o (.mv (ci 0)) 16] (.block 0 (.loop (q [o (.bin .lss 3 16 15) 17] (.seq (.cond 17 .skip (.exit 0)) (.seq (.block 1 (q [w 18 16, o (.fH 5 14 16) 19, o (.load yy 5 19) 20, o (.jm [zi, zi, zi, zi, zi]) 7, w 6 18, n_ (.store 5 7 20)] (q [o (.add 0 7) 21, o (.add 0 21) 22, o (.load nn 1 22) 23, o (.bin .eql 3 23 (ci 2)) 24, w 25 24, g_ (.add 4 3) 26 25 yy, g_ (.load nn 1 26) 27 25 yy, g_ (.mv 1) 28 25 yy, g_ (.fH 13 27 28) 29 25 yy, g_ (.load yy 13 29) 30 25 yy, g_ (.mv 6) 31 25 yy, g_ (.call 201 [30, 31]) 32 25 yy, o (.pick 25 32 (cb nn)) 33, w 34 33, g_ (.load yy 5 3) 35 34 yy, g_ (.add 0 7) 36 34 yy, g_ (.add 1 36) 37 34 yy, g_ (.load nn 1 37) 38 34 yy, g_ (.call 142 [35, 38]) 39 34 yy, o (.pick 34 39 (cb nn)) 40] (.cond 40 (.ops [o (.load yy 5 3) 41, o (.add 0 7) 42, o (.add 1 42) 43, o (.load nn 1 43) 44, w 45 2, o (.call 175 [41, 44, 45]) 46]) .skip)))) (.ops [o (.bin .add 3 16 (ci 1)) 47, w 16 47]))))))))))
theorem La : Fits Tryz.prog 175 3 CZ [] := fk Tryz.func175
theorem Bd (a0 : aI) (a1 : Int) : ∀ x ∈ [S.agg [.v (.int .i64 a0.bH.ak), .v (.int .i64 a0.bH.ay), .v (.int .i64 a0.bH.aA), .sl (flat aK a0.ay) a0.ay.length, .sl (flat aS a0.aA) a0.aA.length], S.one (.v (.int .i64 a1))], Qg x := by
 simp [Qg, Y9, Lc (e := aK) (fun _ => rfl) (fun _ => rfl), Lc (e := aS) (fun _ => rfl) (fun _ => rfl)]
theorem zS (F : Nat) : ∀ (D : Nat) (a0 : aI) (a1 : Int) (a2 : (List Int)) (r : List Int), lK F D a0 a1 a2 = some r → MC Tryz.prog 175 [S.agg [vi a0.bH.ak, vi a0.bH.ay, vi a0.bH.aA, sl aK a0.ay, sl aS a0.aA], (zi_ a1)] a2 r
| 0, a0, a1, a2, r, h => by cases h
| D + 1, a0, a1, a2, r, h => by
 have ih := zS F D
 unfold lK at h; dsimp only at h
 generalize hrc : (fun a0 a1 a2 => lK F D a0 a1 a2) = rc at h
 replace ih : ∀ a0 a1 a2 r, rc a0 a1 a2 = some r → _ := fun a0 a1 a2 r h => ih a0 a1 a2 r (by rw [← hrc] at h; exact h)
 refine ac0 La rfl ?_
 intro C b hP hE
 unfold CZ; dsimp
 apply Eso
 refine W1 dbx ?_
 refine Wk [1, 2, 3, 1000] [3] ?_
 (try dsimp)
 apply bG
 apply Eso
 apply WM
 apply WM
 refine WQ (Ld rfl rfl rfl) ?_
 refine Wk [1, 2, 3, 10, 1000] [3] ?_
 (try dsimp)
 refine Ec h rfl (fun h hc1 => ?_) (fun h hc1 => ?_)
 apply bD
 cases h
 exact ⟨.inr rfl, rfl⟩
 apply bf
 refine aX [1, 2, 3, 1000] [3] ?_
 (try dsimp)
 apply Eso
 apply WM
 apply WM
 refine W1 (Xm rfl rfl rfl rfl hc1 (.inl hE) rfl) ?_
 refine Wk [1, 2, 3, 1000] [3] ?_
 (try dsimp)
 apply Eso
 refine WQ qap ?_
 refine WQ ql1 ?_
 refine WQ qls ?_
 apply WM
 refine Wk [1, 2, 3, 14, 15, 16, 1000] [3] ?_
 (try dsimp)
 apply bT
 (try dsimp)
 refine eG (fun (i : Int × (List Int)) => ⟨[(1, zi_ a1), (2, S.one (.v (.map (some b)))), (3, S.one (.ptr 3 0)), (14, ss aK a0.ay), (15, (zi_ ((a0.ay.length : Nat) : Int))), (16, zi_ i.1), (1000, S.one (.uO b i.2))], [(3, ⟨true, [vi a0.bH.ak, vi a0.bH.ay, vi a0.bH.aA, sl aK a0.ay, sl aS a0.aA]⟩)]⟩) (fun n i => jI F a0 a1 rc n i.1 i.2 = some r) F ((0 : Int), (a2 ++ [a1])) h ?_ (fun n i h => ?_)
 exact LB
 obtain ⟨v24, v25⟩ := i; dsimp only at h
 obtain _ | n26 := n
 cases h
 unfold jI at h
 (try dsimp)
 apply Eso
 refine WQ qi ?_
 apply bW
 (try dsimp)
 apply bG
 refine Ec h rfl (fun h hc27 => ?_) (fun h hc27 => ?_)
 apply bf
 refine aX [1, 2, 3, 14, 15, 16, 1000] [3] ?_
 (try dsimp)
 obtain ⟨k29, ad9, h⟩ := eX h
 refine dJ (fun (i : (List Int)) => ⟨[(1, zi_ a1), (2, S.one (.v (.map (some b)))), (3, S.one (.ptr 3 0)), (14, ss aK a0.ay), (15, (zi_ ((a0.ay.length : Nat) : Int))), (16, zi_ v24), (1000, S.one (.uO b i))], [(3, ⟨true, [vi a0.bH.ak, vi a0.bH.ay, vi a0.bH.aA, sl aK a0.ay, sl aS a0.aA]⟩)]⟩) (fun i => k29 i = some r) (fun i h => ?_) ?_
 let iv := i; change k29 i = some r at h; generalize i = v28 at h ⊢
 rw [ad9] at h; dsimp only at h
 (try dsimp)
 apply dO
 obtain ⟨g30, h⟩ := aQ h
 refine WQ (qad g30) ?_
 apply WM
 apply bW
 refine ⟨n26, ((v24 + (1 : Int)), v28), Nat.lt_succ_self _, h, ?_⟩
 exact LB
 apply bT
 apply Eso
 apply WM
 obtain ⟨g31, h⟩ := aQ h
 refine WQ (qis g31) ?_
 refine WQ (qAF 5 g31 0) ?_
 refine W1 dnv ?_
 apply WM
 refine W1 dst ?_
 refine Wk [1, 2, 3, 6, 7, 14, 15, 16, 1000] [3, 7] ?_
 (try dsimp)
 apply Eso
 refine WQ qap ?_
 refine WQ qap ?_
 refine WQ ql1 ?_
 refine WQ qi ?_
 apply WM
 apply aF
 rfl
 intro b
 try rw [b]
 exact qap
 apply aF
 rfl
 intro b
 try rw [b]
 exact ql1
 apply aF
 rfl
 intro b
 try rw [b]
 exact qm
 obtain ⟨g32, h⟩ := aQ h
 apply aF
 rfl
 intro b
 try rw [b]
 exact qis (g32 b)
 apply aF
 rfl
 intro b
 try rw [b]
 exact qAF 13 (g32 b) 0
 apply aF
 rfl
 intro b
 try rw [b]
 exact qm
 obtain ⟨x33, Za, h⟩ := aG h
 apply iM
 rfl
 intro hB; (try rw [hB]); exact dc1 hP (Jh F (nth a0.aA a1) v24 x33 (jA Za (bt hB)))
 refine WQ qan ?_
 apply WM
 apply aF
 rfl
 intro b
 try rw [b]
 exact qlA
 apply aF
 rfl
 intro b
 try rw [b]
 exact qap
 apply aF
 rfl
 intro b
 try rw [b]
 exact qap
 apply aF
 rfl
 intro b
 try rw [b]
 exact ql1
 obtain ⟨x34, Qh, h⟩ := aG h
 apply iM
 rfl
 intro hB; (try rw [hB]); exact dc1 hP (sS F a0 ((nth a0.ay v24).gY.iG) x34 (jA Qh (bt hB)))
 refine WQ qan ?_
 refine Wk [1, 2, 3, 7, 14, 15, 16, 40, 1000] [3, 7] ?_
 (try dsimp)
 refine Ec h rfl (fun h UN => ?_) (fun h UN => ?_)
 apply dO
 refine WQ qlA ?_
 refine WQ qap ?_
 refine WQ qap ?_
 refine WQ ql1 ?_
 apply WM
 obtain ⟨x36, Zb, h⟩ := aG h
 refine W1 (Lh hP (ih a0 ((nth a0.ay v24).gY.iG) v25 x36 Zb) rfl rfl (Bd _ _) rfl (.inl hE) rfl) ?_
 apply bW
 refine ⟨x36, h, ?_⟩
 exact LB
 apply bf
 refine ⟨v25, h, ?_⟩
 exact LB
 apply gy
 cases h
 exact ⟨.inl rfl, rfl⟩
theorem Lj (F : Nat) (a0 : aI) (a1 : Int) (a2 : (List Int)) (r : List Int) (h : xQ F a0 a1 a2 = some r) : MC Tryz.prog 175 [S.agg [vi a0.bH.ak, vi a0.bH.ay, vi a0.bH.aA, sl aK a0.ay, sl aS a0.aA], (zi_ a1)] a2 r := zS F F a0 a1 a2 r h
def vg : cO := (q [o (.box 122 0) 2, o (.mv (cb nn)) 3] (q [o (.load yy 13 2) 4, o (.load nn 1 1) 5, o (.call 201 [4, 5]) 6, w 3 6] .ret))
theorem BQ : Fits Tryz.prog 203 2 vg [(.tmp 3)] := fk Tryz.func203
theorem BR (F : Nat) (a0 : aH) (a1 : Int) (r : Bool) (h : lJ F a0 a1 = some r) : PC Tryz.prog 203 [S.agg [vi a0.xType, vi a0.iY, vi a0.jw, vi a0.mM, vi a0.nK, vi a0.eH, vi a0.gI, vb a0.qJ, vu a0.lD, vu a0.dn.c0, vu a0.dn.c1, vu a0.dn.c2, vu a0.dn.c3], S.one (.psl [vi a1] 0)] (zb_ r) := by
 unfold lJ at h
 refine eu BQ rfl rfl ?_
 intro C hP
 unfold vg; dsimp
 apply Eso
 refine W1 dbx ?_
 apply WM
 refine Wk [1, 2] [2] ?_
 apply Eso
 refine WQ qlA ?_
 refine WQ (C9 rfl rfl) ?_
 obtain ⟨x1, x1h, h⟩ := aG h
 refine W1 (dc1 hP (Jh F a0 a1 x1 x1h)) ?_
 apply WM
 refine Wk [3] [] ?_
 apply bD
 cases h
 exact fe
def pX : cO := (q [o (.mv (ci 0)) 4] (.seq (q [w 6 0, o (.len nn 6) 7, o (.mv (ci 0)) 8] (.block 0 (.loop (q [o (.bin .lss 3 8 7) 9] (.seq (.cond 9 .skip (.exit 0)) (.seq (.block 1 (q [w 10 8, w 5 10] (q [w 11 1, w 12 0, w 13 5, o (.fH 13 12 13) 14, o (.load yy 13 14) 15, o (.V6 11 [15]) 16] (.cond 16 (q [w 17 5, w 4 17] .ret) .skip)))) (.ops [o (.bin .add 3 8 (ci 1)) 18, w 8 18]))))))) (q [o (.mv (.const (.int .i64 (-1)))) 4] .ret)))
theorem vN : Fits Tryz.prog 202 2 pX [(.tmp 4)] := fk Tryz.func202
theorem vO (F : Nat) (a0 : (List aH)) (a1 : (aH → Option (Bool))) (a1f : Nat) (a1c : List T) (a1p : Ji Tryz.prog a1f = true) (a1h : ∀ (t : aH) (r : Bool), a1 t = some r → PC Tryz.prog a1f [S.agg [vi t.xType, vi t.iY, vi t.jw, vi t.mM, vi t.nK, vi t.eH, vi t.gI, vb t.qJ, vu t.lD, vu t.dn.c0, vu t.dn.c1, vu t.dn.c2, vu t.dn.c3], S.one (.psl a1c 0)] (zb_ r)) (r : Int) (h : jY F a0 a1 = some r) : PC Tryz.prog 202 [ss aS a0, S.one (.clo a1f a1c)] (zi_ r) := by
 unfold jY at h
 refine eu vN rfl rfl ?_
 intro C hP
 unfold pX; dsimp
 apply Eso
 apply WM
 refine Wk [0, 1] [] ?_
 obtain ⟨k1, k1d, h⟩ := eX h
 refine dJ (fun (i : Unit) => ⟨[], []⟩) (fun i => k1 () = some r) (fun i h => ?_) ?_
 rw [k1d] at h; dsimp only at h
 apply Eso
 apply WM
 apply bW
 apply bD
 cases h
 exact fe
 apply Eso
 apply WM
 refine WQ qls ?_
 apply WM
 refine Wk [0, 1, 7, 8] [] ?_
 apply bT
 refine eG (fun (i : Int) => ⟨[(0, ss aS a0), (1, S.one (.clo a1f a1c)), (7, (zi_ ((a0.length : Nat) : Int))), (8, zi_ i)], []⟩) (fun n i => dV F a0 a1 k1 n i = some r) F (0 : Int) h ?_ (fun n i h => ?_)
 exact LB
 generalize i = v13 at h ⊢
 obtain _ | n14 := n
 cases h
 unfold dV at h
 apply Eso
 refine WQ qi ?_
 apply bW
 apply bG
 refine Ec h rfl (fun h UO => ?_) (fun h UO => ?_)
 apply bf
 refine aX [0, 1, 7, 8] [] ?_
 apply bG
 apply bT
 apply Eso
 apply WM
 apply WM
 refine Wk [0, 1, 5, 7, 8] [] ?_
 apply Eso
 apply WM
 apply WM
 apply WM
 obtain ⟨g16, h⟩ := aQ h
 refine WQ (qis g16) ?_
 refine WQ (qAF 13 g16 0) ?_
 obtain ⟨x17, JL, h⟩ := aG h
 refine W1 (UQ hP a1p (a1h _ _ JL) rfl rfl rfl rfl rfl) ?_
 refine Wk [0, 1, 5, 7, 8, 16] [] ?_
 refine Ec h rfl (fun h hc18 => ?_) (fun h hc18 => ?_)
 apply Eso
 apply WM
 apply WM
 refine Wk [4] [] ?_
 apply bD
 cases h
 exact fe
 apply bf
 refine aX [0, 1, 7, 8] [] ?_
 apply dO
 obtain ⟨g19, h⟩ := aQ h
 refine WQ (qad g19) ?_
 apply WM
 apply bW
 refine ⟨n14, (v13 + (1 : Int)), Nat.lt_succ_self _, h, ?_⟩
 exact LB
 apply gy
 refine ⟨(), h, ?_⟩
 exact LB
def wV : cO := (q [o (.box 73 0) 2, o (.box 3 1) 3, o (.mv (ci 0)) 4] (q [o (.add 4 2) 5, o (.load nn 1 5) 6, o (.mkf 203 [3]) 7, o (.call 202 [6, 7]) 8, w 4 8] .ret))
theorem Eu : Fits Tryz.prog 176 2 wV [(.tmp 4)] := fk Tryz.func176
theorem Ew (F : Nat) (a0 : aI) (a1 : Int) (r : Int) (h : mX F a0 a1 = some r) : PC Tryz.prog 176 [S.agg [vi a0.bH.ak, vi a0.bH.ay, vi a0.bH.aA, sl aK a0.ay, sl aS a0.aA], (zi_ a1)] (zi_ r) := by
 unfold mX at h
 refine eu Eu rfl rfl ?_
 intro C hP
 unfold wV; dsimp
 apply Eso
 refine W1 dbx ?_
 refine W1 dbx ?_
 apply WM
 refine Wk [2, 3] [2, 3] ?_
 apply Eso
 refine WQ qap ?_
 refine WQ ql1 ?_
 refine W1 (Does.ghost (abR (i := 3) (r := 3) rfl rfl rfl rfl).b ((Zc rfl).does)) ?_
 obtain ⟨x1, x1h, h⟩ := aG h
 refine W1 (dc1 hP (vO F a0.aA (fun t => lJ F t a1) 203 [vi a1] (by kernel_rfl) (fun t r h => BR F t a1 r h) x1 x1h)) ?_
 apply WM
 refine Wk [4] [] ?_
 apply bD
 cases h
 exact fe
def wF : cO := (q [o (.box 73 0) 3, o (.mv (cb nn)) 6] (.seq (q [o (.load yy 5 3) 8, w 9 1, o (.call 142 [8, 9]) 10, o (.un .not 10) 11, w 12 11, g_ (.add 4 3) 13 12 nn, g_ (.load nn 1 13) 14 12 nn, g_ (.mv 1) 15 12 nn, g_ (.fH 13 14 15) 16 12 nn, g_ (.add 0 16) 17 12 nn, g_ (.load nn 1 17) 18 12 nn, g_ (.bin .neq 3 18 (ci 2)) 19 12 nn, o (.pick 12 (cb yy) 19) 20] (.cond 20 (q [o (.mv (cb nn)) 6] .ret) .skip)) (q [o .V7 21, w 7 21] (q [o (.load yy 5 3) 22, w 23 1, w 24 7, o (.call 175 [22, 23, 24]) 25] (q [w 26 7, o (.load yy 5 3) 27, w 28 2, o (.call 176 [27, 28]) 29, o (.SC 26 29) 30, w 6 30] .ret)))))
theorem Dc : Fits Tryz.prog 144 3 wF [(.tmp 6)] := fk Tryz.func144
theorem Df (F : Nat) (a0 : aI) (a1 : Int) (a2 : Int) (r : Bool) (h : lZ F a0 a1 a2 = some r) : PC Tryz.prog 144 [S.agg [vi a0.bH.ak, vi a0.bH.ay, vi a0.bH.aA, sl aK a0.ay, sl aS a0.aA], (zi_ a1), (zi_ a2)] (zb_ r) := by
 unfold lZ at h
 refine eu Dc rfl rfl ?_
 intro C hP
 unfold wF; dsimp
 apply Eso
 refine W1 dbx ?_
 apply WM
 refine Wk [1, 2, 3] [3] ?_
 (try dsimp)
 apply bG
 apply Eso
 refine WQ qlA ?_
 apply WM
 obtain ⟨x1, x1h, h⟩ := aG h
 refine W1 (dc1 hP (sS F a0 a1 x1 x1h)) ?_
 refine WQ qno ?_
 apply WM
 apply aF
 rfl
 intro b
 try rw [b]
 exact qap
 apply aF
 rfl
 intro b
 try rw [b]
 exact ql1
 apply aF
 rfl
 intro b
 try rw [b]
 exact qm
 obtain ⟨g2, h⟩ := aQ h
 apply aF
 rfl
 intro b
 try rw [b]
 exact qis (g2 b)
 apply aF
 rfl
 intro b
 try rw [b]
 exact sJ rfl
 apply aF
 rfl
 intro b
 try rw [b]
 exact q1F 13 (g2 b) 0
 apply aF
 rfl
 intro b
 try rw [b]
 exact qi
 refine WQ qor ?_
 refine Wk [1, 2, 3, 20] [3] ?_
 (try dsimp)
 refine Ec h rfl (fun h hc3 => ?_) (fun h hc3 => ?_)
 apply Eso
 apply WM
 refine Wk [6] [] ?_
 (try dsimp)
 apply bD
 cases h
 exact fe
 apply bf
 refine aX [1, 2, 3] [3] ?_
 (try dsimp)
 apply Eso
 refine aat UR ?_
 rintro _ ⟨b, hb, rfl⟩
 apply WM
 refine Wk [1, 2, 3, 7, 1000] [3] ?_
 (try dsimp)
 apply Eso
 refine WQ qlA ?_
 apply WM
 apply WM
 obtain ⟨x4, x4h, h⟩ := aG h
 refine W1 (Lh hP (Lj F a0 a1 ([] : List Int) x4 x4h) rfl rfl (Bd _ _) rfl (.inr hb) rfl) ?_
 refine Wk [2, 3, 7, 1000] [3] ?_
 (try dsimp)
 apply Eso
 apply WM
 refine WQ qlA ?_
 apply WM
 obtain ⟨x5, x5h, h⟩ := aG h
 refine W1 (dc1 hP (Ew F a0 a2 x5 x5h)) ?_
 refine WQ (Ld rfl rfl rfl) ?_
 apply WM
 refine Wk [6, 1000] [] ?_
 (try dsimp)
 apply bD
 cases h
 exact fe
def yc : cO := (q [o (.box 73 0) 1, o (.mv (cb nn)) 2] (.seq (q [o (.add 3 1) 5, o (.load nn 1 5) 6, o (.len nn 6) 7, o (.mv (ci 0)) 8] (.block 0 (.loop (q [o (.bin .lss 3 8 7) 9] (.seq (.cond 9 .skip (.exit 0)) (.seq (.block 1 (q [w 10 8, o (.fH 5 6 8) 11, o (.load yy 5 11) 12, o (.jm [zi, zi, zi, zi, zi]) 4, w 3 10, n_ (.store 5 4 12)] (q [o (.add 0 4) 13, o (.add 0 13) 14, o (.load nn 1 14) 15, o (.bin .eql 3 15 (ci 2)) 16, w 17 16, g_ (.load yy 5 1) 18 17 yy, g_ (.add 0 4) 19 17 yy, g_ (.add 1 19) 20 17 yy, g_ (.load nn 1 20) 21 17 yy, g_ (.mv 3) 22 17 yy, g_ (.call 144 [18, 21, 22]) 23 17 yy, o (.pick 17 23 (cb nn)) 24] (.cond 24 (q [o (.mv (cb yy)) 2] .ret) .skip)))) (.ops [o (.bin .add 3 8 (ci 1)) 25, w 8 25]))))))) (q [o (.mv (cb nn)) 2] .ret)))
theorem Fq : Fits Tryz.prog 113 1 yc [(.tmp 2)] := fk Tryz.func113
theorem Fv (F : Nat) (a0 : aI) (r : Bool) (h : kW F a0 = some r) : PC Tryz.prog 113 [S.agg [vi a0.bH.ak, vi a0.bH.ay, vi a0.bH.aA, sl aK a0.ay, sl aS a0.aA]] (zb_ r) := by
 unfold kW at h
 refine eu Fq rfl rfl ?_
 intro C hP
 unfold yc; dsimp
 apply Eso
 refine W1 dbx ?_
 apply WM
 refine Wk [1] [1] ?_
 (try dsimp)
 obtain ⟨k1, k1d, h⟩ := eX h
 refine dJ (fun (i : Unit) => ⟨[], []⟩) (fun i => k1 () = some r) (fun i h => ?_) ?_
 rw [k1d] at h; dsimp only at h
 (try dsimp)
 apply Eso
 apply WM
 apply bW
 (try dsimp)
 apply bD
 cases h
 exact fe
 apply Eso
 refine WQ qap ?_
 refine WQ ql1 ?_
 refine WQ qls ?_
 apply WM
 refine Wk [1, 6, 7, 8] [1] ?_
 (try dsimp)
 apply bT
 (try dsimp)
 refine eG (fun (i : Int) => ⟨[(1, S.one (.ptr 1 0)), (6, ss aK a0.ay), (7, (zi_ ((a0.ay.length : Nat) : Int))), (8, zi_ i)], [(1, ⟨true, [vi a0.bH.ak, vi a0.bH.ay, vi a0.bH.aA, sl aK a0.ay, sl aS a0.aA]⟩)]⟩) (fun n i => fQ F a0 k1 n i = some r) F (0 : Int) h ?_ (fun n i h => ?_)
 exact LB
 generalize i = v13 at h ⊢
 obtain _ | n14 := n
 cases h
 unfold fQ at h
 (try dsimp)
 apply Eso
 refine WQ qi ?_
 apply bW
 (try dsimp)
 apply bG
 refine Ec h rfl (fun h UO => ?_) (fun h UO => ?_)
 apply bf
 refine aX [1, 6, 7, 8] [1] ?_
 (try dsimp)
 apply bG
 apply bT
 apply Eso
 apply WM
 obtain ⟨g16, h⟩ := aQ h
 refine WQ (qis g16) ?_
 refine WQ (qAF 5 g16 0) ?_
 refine W1 dnv ?_
 apply WM
 refine W1 dst ?_
 refine Wk [1, 3, 4, 6, 7, 8] [1, 4] ?_
 (try dsimp)
 apply Eso
 refine WQ qap ?_
 refine WQ qap ?_
 refine WQ ql1 ?_
 refine WQ qi ?_
 apply WM
 apply aF
 rfl
 intro b
 try rw [b]
 exact qlA
 apply aF
 rfl
 intro b
 try rw [b]
 exact qap
 apply aF
 rfl
 intro b
 try rw [b]
 exact qap
 apply aF
 rfl
 intro b
 try rw [b]
 exact ql1
 apply aF
 rfl
 intro b
 try rw [b]
 exact qm
 obtain ⟨x17, JL, h⟩ := aG h
 apply iM
 rfl
 intro hB; (try rw [hB]); exact dc1 hP (Df F a0 ((nth a0.ay v13).gY.iG) v13 x17 (jA JL (bt hB)))
 refine WQ qan ?_
 refine Wk [1, 6, 7, 8, 24] [1] ?_
 (try dsimp)
 refine Ec h rfl (fun h hc18 => ?_) (fun h hc18 => ?_)
 apply Eso
 apply WM
 refine Wk [2] [] ?_
 (try dsimp)
 apply bD
 cases h
 exact fe
 apply bf
 refine aX [1, 6, 7, 8] [1] ?_
 (try dsimp)
 apply dO
 obtain ⟨g19, h⟩ := aQ h
 refine WQ (qad g19) ?_
 apply WM
 apply bW
 refine ⟨n14, (v13 + (1 : Int)), Nat.lt_succ_self _, h, ?_⟩
 exact LB
 apply gy
 refine ⟨(), h, ?_⟩
 exact LB
def Dh : cO := (q [o (.box 73 0) 1, o (.jm [.nil]) 2] (q [o (.jm [.nil]) 3] (.seq (q [o (.add 3 1) 6, o (.load nn 1 6) 7, o (.len nn 7) 8, o (.mv (ci 0)) 9] (.block 0 (.loop (q [o (.bin .lss 3 9 8) 10] (.seq (.cond 10 .skip (.exit 0)) (.seq (.block 1 (q [o (.fH 5 7 9) 11, o (.load yy 5 11) 12, o (.jm [zi, zi, zi, zi, zi]) 5, n_ (.store 5 5 12)] (.seq (q [o (.add 0 5) 13, o (.load yy 4 13) 14, o (.call 141 [14]) 15] (.cond 15 (.ops [o (.add 4 5) 16, n_ (.store 1 16 (.const (.int .i64 (-2))))]) .skip)) (.ops [o (.add 0 3) 17, o (.load nn 1 17) 18, o (.add 4 5) 19, o (.load nn 1 19) 20, o (.iW 1 3 1 [zi] [(0, (1, 20))]) 21, o (.app 47 3 1 8 18 21) 22, o (.add 0 3) 23, n_ (.store 1 23 22)])))) (.ops [o (.bin .add 3 9 (ci 1)) 24, w 9 24]))))))) (q [o (.load yy 1 3) 25, n_ (.store 1 2 25)] .ret))))
theorem Ll : Fits Tryz.prog 115 1 Dh [(.cell true 1 2)] := fk Tryz.func115
theorem Lm (F : Nat) (a0 : aI) (r : iF) (h : lU F a0 = some r) : PC Tryz.prog 115 [S.agg [vi a0.bH.ak, vi a0.bH.ay, vi a0.bH.aA, sl aK a0.ay, sl aS a0.aA]] (S.agg [sl aT r.xUp]) := by
 unfold lU at h
 refine eu Ll rfl rfl ?_
 intro C hP
 unfold Dh; dsimp
 apply Eso
 refine W1 dbx ?_
 refine W1 dnv ?_
 refine Wk [1, 2] [1, 2] ?_
 (try dsimp)
 apply Eso
 refine W1 dnv ?_
 apply bW
 (try dsimp)
 obtain ⟨k2, k2d, h⟩ := eX h
 refine dJ (fun (i : (List Int)) => ⟨[(2, S.one (.ptr 2 0)), (3, S.one (.ptr 3 0))], [(2, ⟨true, [.nil]⟩), (3, ⟨false, [.own 1022 0 i.length (some (1, 3))]⟩), (1022, ⟨true, flat aT i⟩)]⟩) (fun i => k2 i = some r) (fun i h => ?_) ?_
 let iv := i; change k2 i = some r at h; generalize i = v1 at h ⊢
 rw [k2d] at h; dsimp only at h
 (try dsimp)
 apply Eso
 refine WQ qlA ?_
 refine W1 dst ?_
 refine Wk [2] [2, 1022] ?_
 (try dsimp)
 refine dR (kY (r := 1022) rfl rfl).b ?_
 (try dsimp)
 apply bD
 cases h
 exact fe
 apply Eso
 refine WQ qap ?_
 refine WQ ql1 ?_
 refine WQ qls ?_
 apply WM
 refine Wk [2, 3, 7, 8, 9] [2, 3] ?_
 (try dsimp)
 apply bT
 (try dsimp)
 refine eG (fun (i : Int × (List Int)) => ⟨[(2, S.one (.ptr 2 0)), (3, S.one (.ptr 3 0)), (7, ss aK a0.ay), (8, (zi_ ((a0.ay.length : Nat) : Int))), (9, zi_ i.1)], [(2, ⟨true, [.nil]⟩), (3, ⟨false, [.own 1022 0 i.2.length (some (1, 3))]⟩), (1022, ⟨true, flat aT i.2⟩)]⟩) (fun n i => iw F a0 k2 n i.1 i.2 = some r) F ((0 : Int), ([] : List Int)) h ?_ (fun n i h => ?_)
 refine fM (rM (q := 3) (j := 0) (r := 1022) 1 3 rfl rfl rfl rfl) ?_
 exact LB
 obtain ⟨v21, v22⟩ := i; dsimp only at h
 obtain _ | n23 := n
 cases h
 unfold iw at h
 (try dsimp)
 apply Eso
 refine WQ qi ?_
 apply bW
 (try dsimp)
 apply bG
 refine Ec h rfl (fun h hc24 => ?_) (fun h hc24 => ?_)
 apply bf
 refine aX [2, 3, 7, 8, 9] [2, 3, 1022] ?_
 (try dsimp)
 apply bG
 apply bT
 apply Eso
 obtain ⟨g25, h⟩ := aQ h
 refine WQ (qis g25) ?_
 refine WQ (qAF 5 g25 0) ?_
 refine W1 dnv ?_
 refine W1 dst ?_
 refine Wk [2, 3, 5, 7, 8, 9] [2, 3, 5, 1022] ?_
 (try dsimp)
 obtain ⟨k27, aea, h⟩ := eX h
 refine dJ (fun (i : Int) => ⟨[(2, S.one (.ptr 2 0)), (3, S.one (.ptr 3 0)), (5, S.one (.ptr 5 0)), (7, ss aK a0.ay), (8, (zi_ ((a0.ay.length : Nat) : Int))), (9, zi_ v21)], [(2, ⟨true, [.nil]⟩), (3, ⟨false, [.own 1022 0 v22.length (some (1, 3))]⟩), (5, ⟨true, [vi (nth a0.ay v21).gY.xType, vi (nth a0.ay v21).gY.iG, vi (nth a0.ay v21).gY.kS, vi (nth a0.ay v21).gY.gI, vi i]⟩), (1022, ⟨true, flat aT v22⟩)]⟩) (fun i => k27 i = some r) (fun i h => ?_) ?_
 let iv := i; change k27 i = some r at h; generalize i = v26 at h ⊢
 rw [aea] at h; dsimp only at h
 (try dsimp)
 apply dO
 refine WQ qap ?_
 refine WQ ql1 ?_
 refine WQ qap ?_
 refine WQ ql1 ?_
 refine W1 dbs ?_
 obtain ⟨g28, h⟩ := aQ h
 refine W1 (dY (e := aT) rfl rfl (fun _ => rfl) (fun _ => rfl) rfl (Src.lit (e := aT) ([v26] : List Int) rfl (fun _ => rfl) rfl rfl) g28 rfl) ?_
 refine WQ qap ?_
 refine W1 dst ?_
 refine Wk [2, 3, 7, 8, 9] [2, 3, 1022] ?_
 (try dsimp)
 apply dO
 obtain ⟨g29, h⟩ := aQ h
 refine WQ (qad g29) ?_
 apply WM
 apply bW
 refine ⟨n23, ((v21 + (1 : Int)), (v22 ++ ([v26] : List Int))), Nat.lt_succ_self _, h, ?_⟩
 exact LB
 apply Eso
 refine WQ qap ?_
 refine WQ qlA ?_
 obtain ⟨x30, Zd, h⟩ := aG h
 refine W1 (dc1 hP (qB F ((nth a0.ay v21).gY) x30 Zd)) ?_
 refine Wk [2, 3, 5, 7, 8, 9, 15] [2, 3, 5, 1022] ?_
 (try dsimp)
 refine Ec h rfl (fun h hc31 => ?_) (fun h hc31 => ?_)
 apply dO
 refine WQ qap ?_
 refine W1 dst ?_
 apply bW
 refine ⟨(-2 : Int), h, ?_⟩
 exact LB
 apply bf
 refine ⟨(nth a0.ay v21).xUp, h, ?_⟩
 exact LB
 apply gy
 refine ⟨v22, h, ?_⟩
 exact LB
def yg : cO := (q [o (.box 185 0) 2, o (.mv (cb nn)) 4] (q [w 5 1, o (.bin .geq 3 5 (ci 0)) 6, w 7 6, g_ (.mv 1) 8 7 yy, g_ (.add 0 2) 9 7 yy, g_ (.load nn 1 9) 10 7 yy, g_ (.len nn 10) 11 7 yy, g_ (.bin .lss 3 8 11) 12 7 yy, o (.pick 7 12 (cb nn)) 13, w 14 13, g_ (.add 0 2) 15 14 yy, g_ (.load nn 1 15) 16 14 yy, g_ (.mv 1) 17 14 yy, g_ (.fH 1 16 17) 18 14 yy, g_ (.load nn 1 18) 19 14 yy, g_ (.bin .neq 3 19 (.const (.int .i64 (-2)))) 20 14 yy, o (.pick 14 20 (cb nn)) 21, w 4 21] .ret))
theorem Fz : Fits Tryz.prog 145 2 yg [(.tmp 4)] := fk Tryz.func145
theorem yh (F : Nat) (a0 : iF) (a1 : Int) (r : Bool) (h : iD F a0 a1 = some r) : PC Tryz.prog 145 [S.agg [sl aT a0.xUp], (zi_ a1)] (zb_ r) := by
 unfold iD at h
 refine eu Fz rfl rfl ?_
 intro C hP
 unfold yg; dsimp
 apply Eso
 refine W1 dbx ?_
 apply WM
 refine Wk [1, 2] [2] ?_
 apply Eso
 apply WM
 refine WQ qi ?_
 apply WM
 apply aF
 rfl
 intro b
 try rw [b]
 exact qm
 apply aF
 rfl
 intro b
 try rw [b]
 exact qap
 apply aF
 rfl
 intro b
 try rw [b]
 exact ql1
 apply aF
 rfl
 intro b
 try rw [b]
 exact qls
 apply aF
 rfl
 intro b
 try rw [b]
 exact qi
 refine WQ qan ?_
 apply WM
 apply aF
 rfl
 intro b
 try rw [b]
 exact qap
 apply aF
 rfl
 intro b
 try rw [b]
 exact ql1
 apply aF
 rfl
 intro b
 try rw [b]
 exact qm
 obtain ⟨g1, h⟩ := aQ h
 apply aF
 rfl
 intro b
 try rw [b]
 exact qis (g1 b)
 apply aF
 rfl
 intro b
 try rw [b]
 exact q1F 1 (g1 b) 0
 apply aF
 rfl
 intro b
 try rw [b]
 exact qi
 refine WQ qan ?_
 apply WM
 refine Wk [4] [] ?_
 apply bD
 cases h
 exact fe
def EJ : cO := (q [o (.box 185 0) 1, o (.mv (cb nn)) 2] (.seq (q [o (.add 0 1) 8, o (.load nn 1 8) 9, o (.len nn 9) 10, o (.bin .gtr 3 10 (ci 96)) 11] (.cond 11 (q [o (.mv (cb nn)) 2] .ret) .skip)) (.seq (q [o (.add 0 1) 12, o (.load nn 1 12) 13, o (.len nn 13) 14, o (.mv (ci 0)) 15] (.block 0 (.loop (q [o (.bin .lss 3 15 14) 16] (.seq (.cond 16 .skip (.exit 0)) (.seq (.block 1 (q [o (.fH 1 13 15) 17, o (.load nn 1 17) 18, w 4 18] (q [w 19 4, o (.bin .neq 3 19 (.const (.int .i64 (-2)))) 20, w 21 20, g_ (.mv 4) 22 21 yy, g_ (.bin .neq 3 22 (.const (.int .i64 (-1)))) 23 21 yy, o (.pick 21 23 (cb nn)) 24, w 25 24, g_ (.load yy 1 1) 26 25 yy, g_ (.mv 4) 27 25 yy, g_ (.call 145 [26, 27]) 28 25 yy, g_ (.un .not 28) 29 25 yy, o (.pick 25 29 (cb nn)) 30] (.cond 30 (q [o (.mv (cb nn)) 2] .ret) .skip)))) (.ops [o (.bin .add 3 15 (ci 1)) 31, w 15 31]))))))) (.seq (q [o (.add 0 1) 32, o (.load nn 1 32) 33, o (.len nn 33) 34, o (.mv (ci 0)) 35] (.block 2 (.loop (q [o (.bin .lss 3 35 34) 36] (.seq (.cond 36 .skip (.exit 2)) (.seq (.block 3 (q [w 37 35, w 5 37] (q [o (.mv (ci 0)) 6] (q [w 38 5, w 7 38] (.block 4 (.loop (.seq (q [o (.load yy 1 1) 39, w 40 7, o (.call 145 [39, 40]) 41] (.cond 41 .skip (.exit 4))) (.seq (.block 5 (.seq (q [w 47 6, o (.add 0 1) 48, o (.load nn 1 48) 49, o (.len nn 49) 50, o (.bin .gtr 3 47 50) 51] (.cond 51 (q [o (.mv (cb nn)) 2] .ret) .skip)) (.ops [w 52 6, o (.bin .add 3 52 (ci 1)) 53, w 6 53]))) (.ops [o (.add 0 1) 42, o (.load nn 1 42) 43, w 44 7, o (.fH 1 43 44) 45, o (.load nn 1 45) 46, w 7 46]))))))))) (.ops [o (.bin .add 3 35 (ci 1)) 54, w 35 54]))))))) (q [o (.mv (cb yy)) 2] .ret)))))
theorem Oe : Fits Tryz.prog 114 1 EJ [(.tmp 2)] := fk Tryz.func114
theorem Og (F : Nat) (a0 : iF) (r : Bool) (h : oP F a0 = some r) : PC Tryz.prog 114 [S.agg [sl aT a0.xUp]] (zb_ r) := by
 unfold oP at h
 refine eu Oe rfl rfl ?_
 intro C hP
 unfold EJ; dsimp
 apply Eso
 refine W1 dbx ?_
 apply WM
 refine Wk [1] [1] ?_
 (try dsimp)
 apply bG
 apply Eso
 refine WQ qap ?_
 refine WQ ql1 ?_
 refine WQ qls ?_
 refine WQ qi ?_
 refine Wk [1, 11] [1] ?_
 (try dsimp)
 refine Ec h rfl (fun h hc1 => ?_) (fun h hc1 => ?_)
 apply Eso
 apply WM
 refine Wk [2] [] ?_
 (try dsimp)
 apply bD
 cases h
 exact fe
 apply bf
 refine aX [1] [1] ?_
 (try dsimp)
 obtain ⟨k2, k2d, h⟩ := eX h
 refine dJ (fun (i : Unit) => ⟨[(1, S.one (.ptr 1 0))], [(1, ⟨true, [sl aT a0.xUp]⟩)]⟩) (fun i => k2 () = some r) (fun i h => ?_) ?_
 rw [k2d] at h; dsimp only at h
 (try dsimp)
 obtain ⟨k3, k3d, h⟩ := eX h
 refine dJ (fun (i : Unit) => ⟨[], []⟩) (fun i => k3 () = some r) (fun i h => ?_) ?_
 rw [k3d] at h; dsimp only at h
 (try dsimp)
 apply Eso
 apply WM
 apply bW
 (try dsimp)
 apply bD
 cases h
 exact fe
 apply Eso
 refine WQ qap ?_
 refine WQ ql1 ?_
 refine WQ qls ?_
 apply WM
 refine Wk [1, 34, 35] [1] ?_
 (try dsimp)
 apply bT
 (try dsimp)
 refine eG (fun (i : Int) => ⟨[(1, S.one (.ptr 1 0)), (34, (zi_ ((a0.xUp.length : Nat) : Int))), (35, zi_ i)], [(1, ⟨true, [sl aT a0.xUp]⟩)]⟩) (fun n i => iU F a0 k3 n i = some r) F (0 : Int) h ?_ (fun n i h => ?_)
 exact LB
 generalize i = v51 at h ⊢
 obtain _ | n52 := n
 cases h
 unfold iU at h
 (try dsimp)
 apply Eso
 refine WQ qi ?_
 apply bW
 (try dsimp)
 apply bG
 refine Ec h rfl (fun h aeb => ?_) (fun h aeb => ?_)
 apply bf
 refine aX [1, 34, 35] [1] ?_
 (try dsimp)
 obtain ⟨k54, aec, h⟩ := eX h
 refine dJ (fun (i : Unit) => ⟨[(1, S.one (.ptr 1 0)), (34, (zi_ ((a0.xUp.length : Nat) : Int))), (35, zi_ v51)], [(1, ⟨true, [sl aT a0.xUp]⟩)]⟩) (fun i => k54 () = some r) (fun i h => ?_) ?_
 rw [aec] at h; dsimp only at h
 (try dsimp)
 apply dO
 obtain ⟨g55, h⟩ := aQ h
 refine WQ (qad g55) ?_
 apply WM
 apply bW
 refine ⟨n52, (v51 + (1 : Int)), Nat.lt_succ_self _, h, ?_⟩
 exact LB
 apply bT
 apply Eso
 apply WM
 apply WM
 refine Wk [1, 5, 34, 35] [1] ?_
 (try dsimp)
 apply Eso
 apply WM
 apply bW
 (try dsimp)
 apply Eso
 apply WM
 apply WM
 refine Wk [1, 6, 7, 34, 35] [1] ?_
 (try dsimp)
 apply bT
 (try dsimp)
 refine eG (fun (i : Int × Int) => ⟨[(1, S.one (.ptr 1 0)), (6, zi_ i.1), (7, zi_ i.2), (34, (zi_ ((a0.xUp.length : Nat) : Int))), (35, zi_ v51)], [(1, ⟨true, [sl aT a0.xUp]⟩)]⟩) (fun n i => fG F a0 k54 n i.1 i.2 = some r) F ((0 : Int), v51) h ?_ (fun n i h => ?_)
 exact LB
 obtain ⟨v68, v69⟩ := i; dsimp only at h
 obtain _ | n70 := n
 cases h
 unfold fG at h
 (try dsimp)
 apply bG
 apply Eso
 refine WQ qlA ?_
 apply WM
 obtain ⟨x71, aed, h⟩ := aG h
 refine W1 (dc1 hP (yh F a0 v69 x71 aed)) ?_
 refine Wk [1, 6, 7, 34, 35, 41] [1] ?_
 (try dsimp)
 refine Ec h rfl (fun h Ze => ?_) (fun h Ze => ?_)
 apply bf
 refine aX [1, 6, 7, 34, 35] [1] ?_
 (try dsimp)
 apply bG
 apply bT
 apply bG
 apply Eso
 apply WM
 refine WQ qap ?_
 refine WQ ql1 ?_
 refine WQ qls ?_
 refine WQ qi ?_
 refine Wk [1, 6, 7, 34, 35, 51] [1] ?_
 (try dsimp)
 refine Ec h rfl (fun h abS => ?_) (fun h abS => ?_)
 apply Eso
 apply WM
 refine Wk [2] [] ?_
 (try dsimp)
 apply bD
 cases h
 exact fe
 apply bf
 refine aX [1, 6, 7, 34, 35] [1] ?_
 (try dsimp)
 apply dO
 apply WM
 obtain ⟨g74, h⟩ := aQ h
 refine WQ (qad g74) ?_
 apply WM
 refine Wk [1, 6, 7, 34, 35] [1] ?_
 (try dsimp)
 apply dO
 refine WQ qap ?_
 refine WQ ql1 ?_
 apply WM
 obtain ⟨g75, h⟩ := aQ h
 refine WQ (qis g75) ?_
 refine WQ (q1F 1 g75 0) ?_
 apply WM
 apply bW
 refine ⟨n70, ((v68 + (1 : Int)), (nth a0.xUp v69)), Nat.lt_succ_self _, h, ?_⟩
 exact LB
 apply gy
 refine ⟨(), h, ?_⟩
 exact LB
 apply gy
 refine ⟨(), h, ?_⟩
 exact LB
 apply Eso
 refine WQ qap ?_
 refine WQ ql1 ?_
 refine WQ qls ?_
 apply WM
 refine Wk [1, 13, 14, 15] [1] ?_
 (try dsimp)
 apply bT
 (try dsimp)
 refine eG (fun (i : Int) => ⟨[(1, S.one (.ptr 1 0)), (13, ss aT a0.xUp), (14, (zi_ ((a0.xUp.length : Nat) : Int))), (15, zi_ i)], [(1, ⟨true, [sl aT a0.xUp]⟩)]⟩) (fun n i => iT F a0 k2 n i = some r) F (0 : Int) h ?_ (fun n i h => ?_)
 exact LB
 generalize i = v87 at h ⊢
 obtain _ | n88 := n
 cases h
 unfold iT at h
 (try dsimp)
 apply Eso
 refine WQ qi ?_
 apply bW
 (try dsimp)
 apply bG
 refine Ec h rfl (fun h abT => ?_) (fun h abT => ?_)
 apply bf
 refine aX [1, 13, 14, 15] [1] ?_
 (try dsimp)
 apply bG
 apply bT
 apply Eso
 obtain ⟨g90, h⟩ := aQ h
 refine WQ (qis g90) ?_
 refine WQ (q1F 1 g90 0) ?_
 apply WM
 refine Wk [1, 4, 13, 14, 15] [1] ?_
 (try dsimp)
 apply Eso
 apply WM
 refine WQ qi ?_
 apply WM
 apply aF
 rfl
 intro b
 try rw [b]
 exact qm
 apply aF
 rfl
 intro b
 try rw [b]
 exact qi
 refine WQ qan ?_
 apply WM
 apply aF
 rfl
 intro b
 try rw [b]
 exact qlA
 apply aF
 rfl
 intro b
 try rw [b]
 exact qm
 obtain ⟨x91, abU, h⟩ := aG h
 apply iM
 rfl
 intro hB; (try rw [hB]); exact dc1 hP (yh F a0 (nth a0.xUp v87) x91 (jA abU (bt hB)))
 apply aF
 rfl
 intro b
 try rw [b]
 exact qno
 refine WQ qan ?_
 refine Wk [1, 13, 14, 15, 30] [1] ?_
 (try dsimp)
 refine Ec h rfl (fun h Zf => ?_) (fun h Zf => ?_)
 apply Eso
 apply WM
 refine Wk [2] [] ?_
 (try dsimp)
 apply bD
 cases h
 exact fe
 apply bf
 refine aX [1, 13, 14, 15] [1] ?_
 (try dsimp)
 apply dO
 obtain ⟨g93, h⟩ := aQ h
 refine WQ (qad g93) ?_
 apply WM
 apply bW
 refine ⟨n88, (v87 + (1 : Int)), Nat.lt_succ_self _, h, ?_⟩
 exact LB
 apply gy
 refine ⟨(), h, ?_⟩
 exact LB
def Lp : cO := (q [o (.mv (ci 0)) 2] (.seq (q [w 3 0, o (.call 152 [3]) 4, o (.un .not 4) 5] (.cond 5 (q [o (.mv (ci 0)) 2] .ret) .skip)) (q [w 6 0, w 2 6] .ret)))
theorem UU : Fits Tryz.prog 223 1 Lp [(.tmp 2)] := fk Tryz.func223
theorem Lr (F : Nat) (a0 : Int) (r : Int) (h : vI F a0 = some r) : PC Tryz.prog 223 [(zi_ a0)] (zi_ r) := by
 unfold vI at h
 refine eu UU rfl rfl ?_
 intro C hP
 unfold Lp; dsimp
 apply Eso
 apply WM
 refine Wk [0] [] ?_
 apply bG
 apply Eso
 apply WM
 obtain ⟨x1, x1h, h⟩ := aG h
 refine W1 (dc1 hP (Gy F a0 x1 x1h)) ?_
 refine WQ qno ?_
 refine Wk [0, 5] [] ?_
 refine Ec h rfl (fun h hc2 => ?_) (fun h hc2 => ?_)
 apply Eso
 apply WM
 refine Wk [2] [] ?_
 apply bD
 cases h
 exact fe
 apply bf
 refine aX [0] [] ?_
 apply Eso
 apply WM
 apply WM
 refine Wk [2] [] ?_
 apply bD
 cases h
 exact fe
def GI : cO := (q [o (.mv (ci 0)) 4] (q [w 5 0, o (.call 223 [5]) 6, w 7 1, o (.call 223 [7]) 8, o (.bin .andNot 3 6 8) 9, w 4 9] .ret))
theorem Qi : Fits Tryz.prog 204 2 GI [(.tmp 4)] := fk Tryz.func204
theorem Qj (F : Nat) (a0 : Int) (a1 : Int) (r : Int) (h : xk F a0 a1 = some r) : PC Tryz.prog 204 [(zi_ a0), (zi_ a1)] (zi_ r) := by
 unfold xk at h
 refine eu Qi rfl rfl ?_
 intro C hP
 unfold GI; dsimp
 apply Eso
 apply WM
 refine Wk [0, 1] [] ?_
 apply Eso
 apply WM
 obtain ⟨x1, x1h, h⟩ := aG h
 refine W1 (dc1 hP (Lr F a0 x1 x1h)) ?_
 apply WM
 obtain ⟨x2, x2h, h⟩ := aG h
 refine W1 (dc1 hP (Lr F a1 x2 x2h)) ?_
 refine WQ qi ?_
 apply WM
 refine Wk [4] [] ?_
 apply bD
 cases h
 exact fe
def Di : cO := (q [o (.mv (cb nn)) 4] (q [w 5 0, w 6 1, o (.call 204 [5, 6]) 7, o (.bin .eql 3 7 (ci 0)) 8, w 4 8] .ret))
theorem Ls : Fits Tryz.prog 177 2 Di [(.tmp 4)] := fk Tryz.func177
theorem Lu (F : Nat) (a0 : Int) (a1 : Int) (r : Bool) (h : rF F a0 a1 = some r) : PC Tryz.prog 177 [(zi_ a0), (zi_ a1)] (zb_ r) := by
 unfold rF at h
 refine eu Ls rfl rfl ?_
 intro C hP
 unfold Di; dsimp
 apply Eso
 apply WM
 refine Wk [0, 1] [] ?_
 apply Eso
 apply WM
 apply WM
 obtain ⟨x1, x1h, h⟩ := aG h
 refine W1 (dc1 hP (Qj F a0 a1 x1 x1h)) ?_
 refine WQ qi ?_
 apply WM
 refine Wk [4] [] ?_
 apply bD
 cases h
 exact fe
def LC : cO := (q [o (.box 126 0) 2, o (.box 126 1) 3, o (.mv (cb nn)) 4] (.seq (q [o (.load yy 4 2) 5, o (.call 141 [5]) 6] (.cond 6 (q [o (.mv (cb yy)) 4] .ret) .skip)) (q [o (.add 0 2) 7, o (.load nn 1 7) 8, o (.add 0 3) 9, o (.load nn 1 9) 10, o (.bin .eql 3 8 10) 11, w 12 11, g_ (.add 1 2) 13 12 yy, g_ (.load nn 1 13) 14 12 yy, g_ (.add 1 3) 15 12 yy, g_ (.load nn 1 15) 16 12 yy, g_ (.bin .eql 3 14 16) 17 12 yy, o (.pick 12 17 (cb nn)) 18, w 19 18, g_ (.add 2 2) 20 19 yy, g_ (.load nn 1 20) 21 19 yy, g_ (.add 2 3) 22 19 yy, g_ (.load nn 1 22) 23 19 yy, g_ (.call 177 [21, 23]) 24 19 yy, o (.pick 19 24 (cb nn)) 25, w 26 25, g_ (.add 3 3) 27 26 yy, g_ (.load nn 1 27) 28 26 yy, g_ (.bin .eql 3 28 (ci 0)) 29 26 yy, g_ (.mv 29) 30 26 yy, g_ (.add 3 3) 31 30 nn, g_ (.load nn 1 31) 32 30 nn, g_ (.add 3 2) 33 30 nn, g_ (.load nn 1 33) 34 30 nn, g_ (.bin .eql 3 32 34) 35 30 nn, g_ (.pick 30 (cb yy) 35) 36 26 yy, o (.pick 26 36 (cb nn)) 37, w 4 37] .ret)))
theorem UW : Fits Tryz.prog 146 2 LC [(.tmp 4)] := fk Tryz.func146
theorem UY (F : Nat) (a0 : dS) (a1 : dS) (r : Bool) (h : vH F a0 a1 = some r) : PC Tryz.prog 146 [S.agg [vi a0.xType, vi a0.iG, vi a0.kS, vi a0.gI], S.agg [vi a1.xType, vi a1.iG, vi a1.kS, vi a1.gI]] (zb_ r) := by
 unfold vH at h
 refine eu UW rfl rfl ?_
 intro C hP
 unfold LC; dsimp
 apply Eso
 refine W1 dbx ?_
 refine W1 dbx ?_
 apply WM
 refine Wk [2, 3] [2, 3] ?_
 (try dsimp)
 apply bG
 apply Eso
 refine WQ qlA ?_
 obtain ⟨x1, x1h, h⟩ := aG h
 refine W1 (dc1 hP (qB F a0 x1 x1h)) ?_
 refine Wk [2, 3, 6] [2, 3] ?_
 (try dsimp)
 refine Ec h rfl (fun h hc2 => ?_) (fun h hc2 => ?_)
 apply Eso
 apply WM
 refine Wk [4] [] ?_
 (try dsimp)
 apply bD
 cases h
 exact fe
 apply bf
 refine aX [2, 3] [2, 3] ?_
 (try dsimp)
 apply Eso
 refine WQ qap ?_
 refine WQ ql1 ?_
 refine WQ qap ?_
 refine WQ ql1 ?_
 refine WQ qi ?_
 apply WM
 apply aF
 rfl
 intro b
 try rw [b]
 exact qap
 apply aF
 rfl
 intro b
 try rw [b]
 exact ql1
 apply aF
 rfl
 intro b
 try rw [b]
 exact qap
 apply aF
 rfl
 intro b
 try rw [b]
 exact ql1
 apply aF
 rfl
 intro b
 try rw [b]
 exact qi
 refine WQ qan ?_
 apply WM
 apply aF
 rfl
 intro b
 try rw [b]
 exact qap
 apply aF
 rfl
 intro b
 try rw [b]
 exact ql1
 apply aF
 rfl
 intro b
 try rw [b]
 exact qap
 apply aF
 rfl
 intro b
 try rw [b]
 exact ql1
 obtain ⟨x3, x3h, h⟩ := aG h
 apply iM
 rfl
 intro hB; (try rw [hB]); exact dc1 hP (Lu F a0.kS a1.kS x3 (jA x3h (bt hB)))
 refine WQ qan ?_
 apply WM
 apply aF
 rfl
 intro b
 try rw [b]
 exact qap
 apply aF
 rfl
 intro b
 try rw [b]
 exact ql1
 apply aF
 rfl
 intro b
 try rw [b]
 exact qi
 apply aF
 rfl
 intro b
 try rw [b]
 exact qm
 apply kJ
 rfl
 intro hA hB; (try simp only [hA, hB, bss, Bool.and_true, Bool.true_and, ctt]); exact (qap).does
 apply kJ
 rfl
 intro hA hB; (try simp only [hA, hB, bss, Bool.and_true, Bool.true_and, ctt]); exact (ql1).does
 apply kJ
 rfl
 intro hA hB; (try simp only [hA, hB, bss, Bool.and_true, Bool.true_and, ctt]); exact (qap).does
 apply kJ
 rfl
 intro hA hB; (try simp only [hA, hB, bss, Bool.and_true, Bool.true_and, ctt]); exact (ql1).does
 apply kJ
 rfl
 intro hA hB; (try simp only [hA, hB, bss, Bool.and_true, Bool.true_and, ctt]); exact (qi).does
 apply aF
 rfl
 intro b
 try rw [b]
 exact qor
 refine WQ qan ?_
 apply WM
 refine Wk [4] [] ?_
 (try dsimp)
 apply bD
 cases h
 exact fe
def vk : cO := (q [o (.box 73 0) 1, o (.mv (cb nn)) 2] (.seq (q [o (.add 3 1) 7, o (.load nn 1 7) 8, o (.len nn 8) 9, o (.mv (ci 0)) 10] (.block 0 (.loop (q [o (.bin .lss 3 10 9) 11] (.seq (.cond 11 .skip (.exit 0)) (.seq (.block 1 (q [o (.fH 5 8 10) 12, o (.load yy 5 12) 13, o (.jm [zi, zi, zi, zi, zi]) 4, n_ (.store 5 4 13)] (q [o (.add 4 4) 14, o (.load nn 1 14) 15, w 5 15] (q [o (.add 3 1) 16, o (.load nn 1 16) 17, o (.len nn 17) 18, o (.mv (ci 0)) 19] (.block 2 (.loop (q [o (.bin .lss 3 19 18) 20] (.seq (.cond 20 .skip (.exit 2)) (.seq (.block 3 (.seq (q [w 21 5, o (.bin .lss 3 21 (ci 0)) 22] (.cond 22 (.exit 2) .skip)) (q [o (.add 3 1) 23, o (.load nn 1 23) 24, w 25 5, o (.fH 5 24 25) 26, o (.load yy 5 26) 27, o (.jm [zi, zi, zi, zi, zi]) 6, n_ (.store 5 6 27)] (.seq (q [o (.add 0 4) 28, o (.load yy 4 28) 29, o (.add 0 6) 30, o (.load yy 4 30) 31, o (.call 146 [29, 31]) 32, o (.un .not 32) 33, w 34 33, g_ (.add 0 6) 35 34 yy, g_ (.add 0 35) 36 34 yy, g_ (.load nn 1 36) 37 34 yy, g_ (.bin .neq 3 37 (ci 1)) 38 34 yy, g_ (.mv 38) 39 34 yy, g_ (.add 0 4) 40 39 nn, g_ (.add 1 40) 41 39 nn, g_ (.load nn 1 41) 42 39 nn, g_ (.add 0 6) 43 39 nn, g_ (.add 1 43) 44 39 nn, g_ (.load nn 1 44) 45 39 nn, g_ (.bin .eql 3 42 45) 46 39 nn, g_ (.pick 39 (cb yy) 46) 47 34 yy, o (.pick 34 47 (cb nn)) 48] (.cond 48 (q [o (.mv (cb nn)) 2] .ret) .skip)) (.ops [o (.add 4 6) 49, o (.load nn 1 49) 50, w 5 50]))))) (.ops [o (.bin .add 3 19 (ci 1)) 51, w 19 51])))))))))) (.ops [o (.bin .add 3 10 (ci 1)) 52, w 10 52]))))))) (q [o (.mv (cb yy)) 2] .ret)))
theorem BU : Fits Tryz.prog 116 1 vk [(.tmp 2)] := fk Tryz.func116
theorem BX (F : Nat) (a0 : aI) (r : Bool) (h : jG F a0 = some r) : PC Tryz.prog 116 [S.agg [vi a0.bH.ak, vi a0.bH.ay, vi a0.bH.aA, sl aK a0.ay, sl aS a0.aA]] (zb_ r) := by
 unfold jG at h
 refine eu BU rfl rfl ?_
 intro C hP
 unfold vk; dsimp
 apply Eso
 refine W1 dbx ?_
 apply WM
 refine Wk [1] [1] ?_
 (try dsimp)
 obtain ⟨k1, k1d, h⟩ := eX h
 refine dJ (fun (i : Unit) => ⟨[], []⟩) (fun i => k1 () = some r) (fun i h => ?_) ?_
 rw [k1d] at h; dsimp only at h
 (try dsimp)
 apply Eso
 apply WM
 apply bW
 (try dsimp)
 apply bD
 cases h
 exact fe
 apply Eso
 refine WQ qap ?_
 refine WQ ql1 ?_
 refine WQ qls ?_
 apply WM
 refine Wk [1, 8, 9, 10] [1] ?_
 (try dsimp)
 apply bT
 (try dsimp)
 refine eG (fun (i : Int) => ⟨[(1, S.one (.ptr 1 0)), (8, ss aK a0.ay), (9, (zi_ ((a0.ay.length : Nat) : Int))), (10, zi_ i)], [(1, ⟨true, [vi a0.bH.ak, vi a0.bH.ay, vi a0.bH.aA, sl aK a0.ay, sl aS a0.aA]⟩)]⟩) (fun n i => dX F a0 k1 n i = some r) F (0 : Int) h ?_ (fun n i h => ?_)
 exact LB
 generalize i = v57 at h ⊢
 obtain _ | n58 := n
 cases h
 unfold dX at h
 (try dsimp)
 apply Eso
 refine WQ qi ?_
 apply bW
 (try dsimp)
 apply bG
 refine Ec h rfl (fun h aee => ?_) (fun h aee => ?_)
 apply bf
 refine aX [1, 8, 9, 10] [1] ?_
 (try dsimp)
 obtain ⟨k60, aef, h⟩ := eX h
 refine dJ (fun (i : Unit) => ⟨[(1, S.one (.ptr 1 0)), (8, ss aK a0.ay), (9, (zi_ ((a0.ay.length : Nat) : Int))), (10, zi_ v57)], [(1, ⟨true, [vi a0.bH.ak, vi a0.bH.ay, vi a0.bH.aA, sl aK a0.ay, sl aS a0.aA]⟩)]⟩) (fun i => k60 () = some r) (fun i h => ?_) ?_
 rw [aef] at h; dsimp only at h
 (try dsimp)
 apply dO
 obtain ⟨g61, h⟩ := aQ h
 refine WQ (qad g61) ?_
 apply WM
 apply bW
 refine ⟨n58, (v57 + (1 : Int)), Nat.lt_succ_self _, h, ?_⟩
 exact LB
 apply bT
 apply Eso
 obtain ⟨g62, h⟩ := aQ h
 refine WQ (qis g62) ?_
 refine WQ (qAF 5 g62 0) ?_
 refine W1 dnv ?_
 refine W1 dst ?_
 refine Wk [1, 4, 8, 9, 10] [1, 4] ?_
 (try dsimp)
 apply Eso
 refine WQ qap ?_
 refine WQ ql1 ?_
 apply WM
 refine Wk [1, 4, 5, 8, 9, 10] [1, 4] ?_
 (try dsimp)
 apply Eso
 refine WQ qap ?_
 refine WQ ql1 ?_
 refine WQ qls ?_
 apply WM
 refine Wk [1, 4, 5, 8, 9, 10, 18, 19] [1, 4] ?_
 (try dsimp)
 apply bT
 (try dsimp)
 refine eG (fun (i : Int × Int) => ⟨[(1, S.one (.ptr 1 0)), (4, S.one (.ptr 4 0)), (5, zi_ i.1), (8, ss aK a0.ay), (9, (zi_ ((a0.ay.length : Nat) : Int))), (10, zi_ v57), (18, (zi_ ((a0.ay.length : Nat) : Int))), (19, zi_ i.2)], [(1, ⟨true, [vi a0.bH.ak, vi a0.bH.ay, vi a0.bH.aA, sl aK a0.ay, sl aS a0.aA]⟩), (4, ⟨true, [vi (nth a0.ay v57).gY.xType, vi (nth a0.ay v57).gY.iG, vi (nth a0.ay v57).gY.kS, vi (nth a0.ay v57).gY.gI, vi (nth a0.ay v57).xUp]⟩)]⟩) (fun n i => dQ F a0 v57 k60 n i.1 i.2 = some r) F ((nth a0.ay v57).xUp, (0 : Int)) h ?_ (fun n i h => ?_)
 exact LB
 obtain ⟨v77, v78⟩ := i; dsimp only at h
 obtain _ | n79 := n
 cases h
 unfold dQ at h
 (try dsimp)
 apply Eso
 refine WQ qi ?_
 apply bW
 (try dsimp)
 apply bG
 refine Ec h rfl (fun h abV => ?_) (fun h abV => ?_)
 apply bf
 refine aX [1, 4, 5, 8, 9, 10, 18, 19] [1, 4] ?_
 (try dsimp)
 apply bG
 apply bT
 apply bG
 apply Eso
 apply WM
 refine WQ qi ?_
 refine Wk [1, 4, 5, 8, 9, 10, 18, 19, 22] [1, 4] ?_
 (try dsimp)
 refine Ec h rfl (fun h aeg => ?_) (fun h aeg => ?_)
 apply gy
 refine ⟨(), h, ?_⟩
 exact LB
 apply bf
 refine aX [1, 4, 5, 8, 9, 10, 18, 19] [1, 4] ?_
 (try dsimp)
 apply Eso
 refine WQ qap ?_
 refine WQ ql1 ?_
 apply WM
 obtain ⟨g82, h⟩ := aQ h
 refine WQ (qis g82) ?_
 refine WQ (qAF 5 g82 0) ?_
 refine W1 dnv ?_
 refine W1 dst ?_
 refine Wk [1, 4, 6, 8, 9, 10, 18, 19] [1, 4, 6] ?_
 (try dsimp)
 apply bG
 apply Eso
 refine WQ qap ?_
 refine WQ qlA ?_
 refine WQ qap ?_
 refine WQ qlA ?_
 obtain ⟨x83, aeh, h⟩ := aG h
 refine W1 (dc1 hP (UY F ((nth a0.ay v57).gY) ((nth a0.ay v77).gY) x83 aeh)) ?_
 refine WQ qno ?_
 apply WM
 apply aF
 rfl
 intro b
 try rw [b]
 exact qap
 apply aF
 rfl
 intro b
 try rw [b]
 exact qap
 apply aF
 rfl
 intro b
 try rw [b]
 exact ql1
 apply aF
 rfl
 intro b
 try rw [b]
 exact qi
 apply aF
 rfl
 intro b
 try rw [b]
 exact qm
 apply kJ
 rfl
 intro hA hB; (try simp only [hA, hB, bss, Bool.and_true, Bool.true_and, ctt]); exact (qap).does
 apply kJ
 rfl
 intro hA hB; (try simp only [hA, hB, bss, Bool.and_true, Bool.true_and, ctt]); exact (qap).does
 apply kJ
 rfl
 intro hA hB; (try simp only [hA, hB, bss, Bool.and_true, Bool.true_and, ctt]); exact (ql1).does
 apply kJ
 rfl
 intro hA hB; (try simp only [hA, hB, bss, Bool.and_true, Bool.true_and, ctt]); exact (qap).does
 apply kJ
 rfl
 intro hA hB; (try simp only [hA, hB, bss, Bool.and_true, Bool.true_and, ctt]); exact (qap).does
 apply kJ
 rfl
 intro hA hB; (try simp only [hA, hB, bss, Bool.and_true, Bool.true_and, ctt]); exact (ql1).does
 apply kJ
 rfl
 intro hA hB; (try simp only [hA, hB, bss, Bool.and_true, Bool.true_and, ctt]); exact (qi).does
 apply aF
 rfl
 intro b
 try rw [b]
 exact qor
 refine WQ qan ?_
 refine Wk [1, 4, 6, 8, 9, 10, 18, 19, 48] [1, 4, 6] ?_
 (try dsimp)
 refine Ec h rfl (fun h abW => ?_) (fun h abW => ?_)
 apply Eso
 apply WM
 refine Wk [2] [] ?_
 (try dsimp)
 apply bD
 cases h
 exact fe
 apply bf
 refine aX [1, 4, 6, 8, 9, 10, 18, 19] [1, 4, 6] ?_
 (try dsimp)
 apply dO
 refine WQ qap ?_
 refine WQ ql1 ?_
 apply WM
 refine Wk [1, 4, 5, 8, 9, 10, 18, 19] [1, 4] ?_
 (try dsimp)
 apply dO
 obtain ⟨g85, h⟩ := aQ h
 refine WQ (qad g85) ?_
 apply WM
 apply bW
 refine ⟨n79, ((nth a0.ay v77).xUp, (v78 + (1 : Int))), Nat.lt_succ_self _, h, ?_⟩
 exact LB
 apply gy
 refine ⟨(), h, ?_⟩
 exact LB
 apply gy
 refine ⟨(), h, ?_⟩
 exact LB
def GK : cO := (q [o (.box 73 0) 1, o (.mv (cb nn)) 2] (.seq (q [o (.add 0 1) 3, o (.load yy 3 3) 4, o (.call 52 [4]) 5, o (.un .not 5) 6, w 7 6, g_ (.add 3 1) 8 7 nn, g_ (.load nn 1 8) 9 7 nn, g_ (.len nn 9) 10 7 nn, g_ (.add 0 1) 11 7 nn, g_ (.add 1 11) 12 7 nn, g_ (.load nn 1 12) 13 7 nn, g_ (.bin .neq 3 10 13) 14 7 nn, o (.pick 7 (cb yy) 14) 15, w 16 15, g_ (.add 4 1) 17 16 nn, g_ (.load nn 1 17) 18 16 nn, g_ (.len nn 18) 19 16 nn, g_ (.add 0 1) 20 16 nn, g_ (.add 2 20) 21 16 nn, g_ (.load nn 1 21) 22 16 nn, g_ (.bin .neq 3 19 22) 23 16 nn, o (.pick 16 (cb yy) 23) 24] (.cond 24 (q [o (.mv (cb nn)) 2] .ret) .skip)) (q [o (.load yy 5 1) 25, o (.call 110 [25]) 26, w 27 26, g_ (.load yy 5 1) 28 27 yy, g_ (.call 111 [28]) 29 27 yy, o (.pick 27 29 (cb nn)) 30, w 31 30, g_ (.load yy 5 1) 32 31 yy, g_ (.call 112 [32]) 33 31 yy, o (.pick 31 33 (cb nn)) 34, w 35 34, g_ (.load yy 5 1) 36 35 yy, g_ (.call 113 [36]) 37 35 yy, g_ (.un .not 37) 38 35 yy, o (.pick 35 38 (cb nn)) 39, w 40 39, g_ (.load yy 5 1) 41 40 yy, g_ (.call 115 [41]) 42 40 yy, g_ (.call 114 [42]) 43 40 yy, o (.pick 40 43 (cb nn)) 44, w 45 44, g_ (.load yy 5 1) 46 45 yy, g_ (.call 116 [46]) 47 45 yy, o (.pick 45 47 (cb nn)) 48, w 2 48] .ret)))
theorem Qk : Fits Tryz.prog 73 1 GK [(.tmp 2)] := fk Tryz.func73
theorem GL (F : Nat) (a0 : aI) (r : Bool) (h : oH F a0 = some r) : PC Tryz.prog 73 [S.agg [vi a0.bH.ak, vi a0.bH.ay, vi a0.bH.aA, sl aK a0.ay, sl aS a0.aA]] (zb_ r) := by
 unfold oH at h
 refine eu Qk rfl rfl ?_
 intro C hP
 unfold GK; dsimp
 apply Eso
 refine W1 dbx ?_
 apply WM
 refine Wk [1] [1] ?_
 (try dsimp)
 apply bG
 apply Eso
 refine WQ qap ?_
 refine WQ qlA ?_
 obtain ⟨x1, x1h, h⟩ := aG h
 refine W1 (dc1 hP (nR F a0.bH x1 x1h)) ?_
 refine WQ qno ?_
 apply WM
 apply aF
 rfl
 intro b
 try rw [b]
 exact qap
 apply aF
 rfl
 intro b
 try rw [b]
 exact ql1
 apply aF
 rfl
 intro b
 try rw [b]
 exact qls
 apply aF
 rfl
 intro b
 try rw [b]
 exact qap
 apply aF
 rfl
 intro b
 try rw [b]
 exact qap
 apply aF
 rfl
 intro b
 try rw [b]
 exact ql1
 apply aF
 rfl
 intro b
 try rw [b]
 exact qi
 refine WQ qor ?_
 apply WM
 apply aF
 rfl
 intro b
 try rw [b]
 exact qap
 apply aF
 rfl
 intro b
 try rw [b]
 exact ql1
 apply aF
 rfl
 intro b
 try rw [b]
 exact qls
 apply aF
 rfl
 intro b
 try rw [b]
 exact qap
 apply aF
 rfl
 intro b
 try rw [b]
 exact qap
 apply aF
 rfl
 intro b
 try rw [b]
 exact ql1
 apply aF
 rfl
 intro b
 try rw [b]
 exact qi
 refine WQ qor ?_
 refine Wk [1, 24] [1] ?_
 (try dsimp)
 refine Ec h rfl (fun h hc2 => ?_) (fun h hc2 => ?_)
 apply Eso
 apply WM
 refine Wk [2] [] ?_
 (try dsimp)
 apply bD
 cases h
 exact fe
 apply bf
 refine aX [1] [1] ?_
 (try dsimp)
 apply Eso
 refine WQ qlA ?_
 obtain ⟨x3, x3h, h⟩ := aG h
 refine W1 (dc1 hP (Fp F a0 x3 x3h)) ?_
 apply WM
 apply aF
 rfl
 intro b
 try rw [b]
 exact qlA
 obtain ⟨x4, x4h, h⟩ := aG h
 apply iM
 rfl
 intro hB; (try rw [hB]); exact dc1 hP (CX F a0 x4 (jA x4h (bt hB)))
 refine WQ qan ?_
 apply WM
 apply aF
 rfl
 intro b
 try rw [b]
 exact qlA
 obtain ⟨x5, x5h, h⟩ := aG h
 apply iM
 rfl
 intro hB; (try rw [hB]); exact dc1 hP (Et F a0 x5 (jA x5h (bt hB)))
 refine WQ qan ?_
 apply WM
 apply aF
 rfl
 intro b
 try rw [b]
 exact qlA
 obtain ⟨x6, x6h, h⟩ := aG h
 apply iM
 rfl
 intro hB; (try rw [hB]); exact dc1 hP (Fv F a0 x6 (jA x6h (bt hB)))
 apply aF
 rfl
 intro b
 try rw [b]
 exact qno
 refine WQ qan ?_
 apply WM
 apply aF
 rfl
 intro b
 try rw [b]
 exact qlA
 obtain ⟨x7, x7h, h⟩ := aG h
 apply iM
 rfl
 intro hB; (try rw [hB]); exact dc1 hP (Lm F a0 x7 (jA x7h (bt hB)))
 obtain ⟨x8, x8h, h⟩ := aG h
 apply iM
 rfl
 intro hB; (try rw [hB]); exact dc1 hP (Og F x7 x8 (jA x8h (bt hB)))
 refine WQ qan ?_
 apply WM
 apply aF
 rfl
 intro b
 try rw [b]
 exact qlA
 obtain ⟨x9, x9h, h⟩ := aG h
 apply iM
 rfl
 intro hB; (try rw [hB]); exact dc1 hP (BX F a0 x9 (jA x9h (bt hB)))
 refine WQ qan ?_
 apply WM
 refine Wk [2] [] ?_
 (try dsimp)
 apply bD
 cases h
 exact fe
def EK : cO := (q [o (.box 30 0) 1, o (.mv (ci 0)) 2] (q [o (.add 0 1) 3, o (.load nn 1 3) 4, o (.bin .mul 3 4 (ci 1208)) 5, o (.bin .add 3 (ci 16) 5) 6, w 2 6] .ret))
theorem Oh : Fits Tryz.prog 54 1 EK [(.tmp 2)] := fk Tryz.func54
theorem EL (F : Nat) (a0 : aJ) (r : Int) (h : qQ F a0 = some r) : PC Tryz.prog 54 [S.agg [vi a0.ak, vi a0.ay, vi a0.aA]] (zi_ r) := by
 unfold qQ at h
 refine eu Oh rfl rfl ?_
 intro C hP
 unfold EK; dsimp
 apply Eso
 refine W1 dbx ?_
 apply WM
 refine Wk [1] [1] ?_
 apply Eso
 refine WQ qap ?_
 refine WQ ql1 ?_
 obtain ⟨g1, h⟩ := aQ h
 refine WQ (qmu g1) ?_
 obtain ⟨g2, h⟩ := aQ h
 refine WQ (qad g2) ?_
 apply WM
 refine Wk [2] [] ?_
 apply bD
 cases h
 exact fe
def Dj : cO := (q [o (.box 30 0) 1, o (.mv (ci 0)) 2] (.seq (.draw [((o (.load yy 3 1) 3), []), ((o (.call 54 [3]) 4), [0]), ((o (.add 1 1) 5), []), ((o (.load nn 1 5) 6), [2]), ((o (.bin .mul 3 (ci 2) 6) 7), [3]), ((o (.bin .add 3 4 7) 8), [1, 4]), ((w 2 8), [5, 1, 0, 1, 2, 3, 4, 5])]) .ret))
theorem LD : Fits Tryz.prog 55 1 Dj [(.tmp 2)] := fk Tryz.func55
theorem Dk (F : Nat) (a0 : aJ) (r : Int) (h : pJ F a0 = some r) : PC Tryz.prog 55 [S.agg [vi a0.ak, vi a0.ay, vi a0.aA]] (zi_ r) := by
 unfold pJ at h
 refine eu LD rfl rfl ?_
 intro C hP
 unfold Dj; dsimp
 apply Eso
 refine W1 dbx ?_
 apply WM
 refine Wk [1] [1] ?_
 apply bG
 obtain ⟨x1, x1h, h⟩ := aG h
 obtain ⟨g2, h⟩ := aQ h
 obtain ⟨g3, h⟩ := aQ h
 refine ig [0, 2, 3, 4, 5, 6] ?_
 refine XQ 0 rfl rfl rfl qlA ?_
 refine XQ 2 rfl rfl rfl qap ?_
 refine XQ 3 rfl rfl rfl ql1 ?_
 refine XQ 4 rfl rfl rfl (qmu g2) ?_
 refine X1 rfl (XK rfl (dc1 hP (EL F a0 x1 x1h)) ?_)
 refine XQ 5 rfl rfl rfl (qad g3) ?_
 refine XQ 6 rfl rfl rfl qm ?_
 refine dL rfl ?_
 refine aX [2] [] ?_
 apply bD
 cases h
 exact fe
def LG : cO := (q [o (.box 30 0) 1, o (.mv (ci 0)) 2] (.seq (q [o (.load yy 3 1) 3, o (.call 52 [3]) 4, o (.un .not 4) 5] (.cond 5 (q [o (.mv (ci 0)) 2] .ret) .skip)) (.seq (.draw [((o (.load yy 3 1) 6), []), ((o (.call 55 [6]) 7), [0]), ((o (.add 2 1) 8), []), ((o (.load nn 1 8) 9), [2]), ((o (.bin .mul 3 (ci 8) 9) 10), [3]), ((o (.bin .add 3 7 10) 11), [1, 4]), ((w 2 11), [5, 1, 0, 1, 2, 3, 4, 5])]) .ret)))
theorem UZ : Fits Tryz.prog 22 1 LG [(.tmp 2)] := fk Tryz.func22
theorem yj (F : Nat) (a0 : aJ) (r : Int) (h : qA F a0 = some r) : PC Tryz.prog 22 [S.agg [vi a0.ak, vi a0.ay, vi a0.aA]] (zi_ r) := by
 unfold qA at h
 refine eu UZ rfl rfl ?_
 intro C hP
 unfold LG; dsimp
 apply Eso
 refine W1 dbx ?_
 apply WM
 refine Wk [1] [1] ?_
 apply bG
 apply Eso
 refine WQ qlA ?_
 obtain ⟨x1, x1h, h⟩ := aG h
 refine W1 (dc1 hP (nR F a0 x1 x1h)) ?_
 refine WQ qno ?_
 refine Wk [1, 5] [1] ?_
 refine Ec h rfl (fun h hc2 => ?_) (fun h hc2 => ?_)
 apply Eso
 apply WM
 refine Wk [2] [] ?_
 apply bD
 cases h
 exact fe
 apply bf
 refine aX [1] [1] ?_
 apply bG
 obtain ⟨x3, x3h, h⟩ := aG h
 obtain ⟨g4, h⟩ := aQ h
 obtain ⟨g5, h⟩ := aQ h
 refine ig [0, 2, 3, 4, 5, 6] ?_
 refine XQ 0 rfl rfl rfl qlA ?_
 refine XQ 2 rfl rfl rfl qap ?_
 refine XQ 3 rfl rfl rfl ql1 ?_
 refine XQ 4 rfl rfl rfl (qmu g4) ?_
 refine X1 rfl (XK rfl (dc1 hP (Dk F a0 x3 x3h)) ?_)
 refine XQ 5 rfl rfl rfl (qad g5) ?_
 refine XQ 6 rfl rfl rfl qm ?_
 refine dL rfl ?_
 refine aX [2] [] ?_
 apply bD
 cases h
 exact fe
def LH : cO := (q [o (.box 30 0) 1, o (.mv (ci 0)) 2] (.seq (q [o (.load yy 3 1) 3, o (.call 52 [3]) 4, o (.un .not 4) 5] (.cond 5 (q [o (.mv (ci 0)) 2] .ret) .skip)) (q [o (.load yy 3 1) 6, o (.call 22 [6]) 7, o (.bin .quo 3 7 (ci 8)) 8, o (.bin .add 3 8 (ci 1)) 9, w 2 9] .ret)))
theorem U0 : Fits Tryz.prog 74 1 LH [(.tmp 2)] := fk Tryz.func74
theorem FB (F : Nat) (a0 : aJ) (r : Int) (h : tV F a0 = some r) : PC Tryz.prog 74 [S.agg [vi a0.ak, vi a0.ay, vi a0.aA]] (zi_ r) := by
 unfold tV at h
 refine eu U0 rfl rfl ?_
 intro C hP
 unfold LH; dsimp
 apply Eso
 refine W1 dbx ?_
 apply WM
 refine Wk [1] [1] ?_
 apply bG
 apply Eso
 refine WQ qlA ?_
 obtain ⟨x1, x1h, h⟩ := aG h
 refine W1 (dc1 hP (nR F a0 x1 x1h)) ?_
 refine WQ qno ?_
 refine Wk [1, 5] [1] ?_
 refine Ec h rfl (fun h hc2 => ?_) (fun h hc2 => ?_)
 apply Eso
 apply WM
 refine Wk [2] [] ?_
 apply bD
 cases h
 exact fe
 apply bf
 refine aX [1] [1] ?_
 apply Eso
 refine WQ qlA ?_
 obtain ⟨x3, x3h, h⟩ := aG h
 refine W1 (dc1 hP (yj F a0 x3 x3h)) ?_
 refine WQ qi ?_
 obtain ⟨g4, h⟩ := aQ h
 refine WQ (qad g4) ?_
 apply WM
 refine Wk [2] [] ?_
 apply bD
 cases h
 exact fe
def LJ : cO := (q [o (.mv (.const (.float .f64 0))) 2] (q [w 3 0, o (.Bf 226 [3]) 4, o (.bin .andNot 22 4 (.const (.int .u64 9223372036854775808))) 5, o (.Bf 249 [5]) 6, w 2 6] .ret))
theorem U1 : Fits Tryz.prog 247 1 LJ [(.tmp 2)] := fk Tryz.func247
theorem U2 (F : Nat) (a0 : Value) (r : Value) (h : Fe F a0 = some r) : PC Tryz.prog 247 [S.one (.v a0)] (S.one (.v r)) := by
 unfold Fe at h
 refine eu U1 rfl rfl ?_
 intro C hP
 unfold LJ; dsimp
 apply Eso
 apply WM
 refine Wk [0] [] ?_
 apply Eso
 apply WM
 obtain ⟨x1, x1h, h⟩ := aG h
 refine WQ (qC (vs := [a0]) hP rfl (X_i x1h) rfl) ?_
 refine WQ qi ?_
 obtain ⟨x2, x2h, h⟩ := aG h
 refine WQ (qC (vs := [(.int .u64 (Jb .u64 x1 (9223372036854775808 : Int)))]) hP rfl (Ql x2h) (Qm x2h)) ?_
 apply WM
 refine Wk [2] [] ?_
 apply bD
 cases h
 exact fe
def Bg : cO := (q [o (.mv (.const (.float .f64 0))) 4] (q [w 5 0, o (.Bf 226 [5]) 6, o (.bin .andNot 22 6 (.const (.int .u64 9223372036854775808))) 7, w 8 1, o (.Bf 226 [8]) 9, o (.bin .and 22 9 (.const (.int .u64 9223372036854775808))) 10, o (.bin .or 22 7 10) 11, o (.Bf 249 [11]) 12, w 4 12] .ret))
theorem JM : Fits Tryz.prog 248 2 Bg [(.tmp 4)] := fk Tryz.func248
theorem JO (F : Nat) (a0 : Value) (a1 : Value) (r : Value) (h : wM F a0 a1 = some r) : PC Tryz.prog 248 [S.one (.v a0), S.one (.v a1)] (S.one (.v r)) := by
 unfold wM at h
 refine eu JM rfl rfl ?_
 intro C hP
 unfold Bg; dsimp
 apply Eso
 apply WM
 refine Wk [0, 1] [] ?_
 apply Eso
 apply WM
 obtain ⟨x1, x1h, h⟩ := aG h
 refine WQ (qC (vs := [a0]) hP rfl (X_i x1h) rfl) ?_
 refine WQ qi ?_
 apply WM
 obtain ⟨x2, x2h, h⟩ := aG h
 refine WQ (qC (vs := [a1]) hP rfl (X_i x2h) rfl) ?_
 refine WQ qi ?_
 refine WQ qi ?_
 obtain ⟨x3, x3h, h⟩ := aG h
 refine WQ (qC (vs := [(.int .u64 (ior .u64 (Jb .u64 x1 (9223372036854775808 : Int)) (tN .u64 x2 (9223372036854775808 : Int))))]) hP rfl (Ql x3h) (Qm x3h)) ?_
 apply WM
 refine Wk [4] [] ?_
 apply bD
 cases h
 exact fe
def GN : cO := (q [o (.mv (.const (.float .f64 0))) 2] (.seq (q [w 5 0, o (.call 247 [5]) 6, o (.bin .lss 244 6 (.const (.float .f64 4607182418800017408))) 7] (.cond 7 (q [w 8 0, o (.call 248 [.const (.float .f64 0), 8]) 9, w 2 9] .ret) .skip)) (q [w 10 0, o (.Bf 226 [10]) 11, w 3 11] (q [w 12 3, o (.bin .shr 22 12 (.const (.int .u64 52))) 13, o (.bin .and 102 13 (.const (.int .u64 2047))) 14, o (.bin .sub 102 14 (.const (.int .u64 1023))) 15, w 4 15] (.seq (q [w 16 4, o (.bin .lss 102 16 (.const (.int .u64 52))) 17] (.cond 17 (.ops [w 18 3, w 19 4, o (.bin .sub 102 (.const (.int .u64 52)) 19) 20, o (.bin .shl 22 (.const (.int .u64 1)) 20) 21, o (.bin .sub 22 21 (.const (.int .u64 1))) 22, o (.bin .andNot 22 18 22) 23, w 3 23]) .skip)) (q [w 24 3, o (.Bf 249 [24]) 25, w 2 25] .ret))))))
theorem Qn : Fits Tryz.prog 225 1 GN [(.tmp 2)] := fk Tryz.func225
theorem aau (F : Nat) (a0 : Value) (r : Value) (h : Gv F a0 = some r) : PC Tryz.prog 225 [S.one (.v a0)] (S.one (.v r)) := by
 unfold Gv at h
 refine eu Qn rfl rfl ?_
 intro C hP
 unfold GN; dsimp
 apply Eso
 apply WM
 refine Wk [0] [] ?_
 apply bG
 apply Eso
 apply WM
 obtain ⟨x1, x1h, h⟩ := aG h
 refine W1 (dc1 hP (U2 F a0 x1 x1h)) ?_
 obtain ⟨x2, x2h, h⟩ := aG h
 refine WQ (GR hP rfl rfl (X_b x2h) rfl) ?_
 refine Wk [0, 7] [] ?_
 refine Ec h rfl (fun h hc3 => ?_) (fun h hc3 => ?_)
 apply Eso
 apply WM
 obtain ⟨x4, x4h, h⟩ := aG h
 refine W1 (dc1 hP (JO F (.float .f64 0 : Value) a0 x4 x4h)) ?_
 apply WM
 refine Wk [2] [] ?_
 apply bD
 cases h
 exact fe
 apply bf
 refine aX [0] [] ?_
 apply Eso
 apply WM
 obtain ⟨x5, x5h, h⟩ := aG h
 refine WQ (qC (vs := [a0]) hP rfl (X_i x5h) rfl) ?_
 apply WM
 refine Wk [3] [] ?_
 apply Eso
 apply WM
 refine WQ (yt rfl rfl (by decide)) ?_
 refine WQ qi ?_
 refine WQ qi ?_
 apply WM
 refine Wk [3, 4] [] ?_
 obtain ⟨k7, k7d, h⟩ := eX h
 refine dJ (fun (i : Int) => ⟨[(3, zu_ i)], []⟩) (fun i => k7 i = some r) (fun i h => ?_) ?_
 let iv := i; change k7 i = some r at h; generalize i = v6 at h ⊢
 rw [k7d] at h; dsimp only at h
 apply Eso
 apply WM
 obtain ⟨x8, x8h, h⟩ := aG h
 refine WQ (qC (vs := [(.int .u64 v6)]) hP rfl (Ql x8h) (Qm x8h)) ?_
 apply WM
 refine Wk [2] [] ?_
 apply bD
 cases h
 exact fe
 apply Eso
 apply WM
 refine WQ qi ?_
 refine Wk [3, 4, 17] [] ?_
 refine Ec h rfl (fun h hc9 => ?_) (fun h hc9 => ?_)
 apply dO
 apply WM
 apply WM
 refine WQ qi ?_
 obtain ⟨g10, h⟩ := aQ h
 refine WQ (wC rfl rfl g10) ?_
 refine WQ qi ?_
 refine WQ qi ?_
 apply WM
 apply bW
 refine ⟨(Jb .u64 x5 (IntKind.u64.wrap ((pF .u64 (1 : Int) (IntKind.u64.wrap ((52 : Int) - (IntKind.u64.wrap ((tN .u64 (kL .u64 x5 (52 : Int)) (2047 : Int)) - (1023 : Int)))))) - (1 : Int)))), h, ?_⟩
 exact LB
 apply bf
 refine ⟨x5, h, ?_⟩
 exact LB
def GU : cO := (q [o (.mv (.const (.float .f64 0))) 2] (.seq (.cond (cb yy) (q [w 3 0, o (.Bf 224 [3]) 4, w 2 4] .ret) .skip) (q [w 5 0, o (.call 225 [5]) 6, w 2 6] .ret)))
theorem Qo : Fits Tryz.prog 205 1 GU [(.tmp 2)] := fk Tryz.func205
theorem Qp (F : Nat) (a0 : Value) (r : Value) (h : xg F a0 = some r) : PC Tryz.prog 205 [S.one (.v a0)] (S.one (.v r)) := by
 unfold xg at h
 refine eu Qo rfl rfl ?_
 intro C hP
 unfold GU; dsimp
 apply Eso
 apply WM
 refine Wk [0] [] ?_
 apply bG
 refine FC rfl (fun hc1 => ?_) (fun hc1 => ?_)
 apply Eso
 apply WM
 obtain ⟨x2, x2h, h⟩ := aG h
 refine WQ (qC (vs := [a0]) hP rfl (Ql x2h) (Qm x2h)) ?_
 apply WM
 refine Wk [2] [] ?_
 apply bD
 cases h
 exact fe
 cases hc1
def Dl : cO := (q [o (.mv (cb nn)) 2] (q [w 3 0, o (.Bf 226 [3]) 4, o (.jd .i64 4) 5, o (.bin .lss 2 5 (ci 0)) 6, w 2 6] .ret))
theorem LK : Fits Tryz.prog 206 1 Dl [(.tmp 2)] := fk Tryz.func206
theorem LM (F : Nat) (a0 : Value) (r : Bool) (h : qW F a0 = some r) : PC Tryz.prog 206 [S.one (.v a0)] (zb_ r) := by
 unfold qW at h
 refine eu LK rfl rfl ?_
 intro C hP
 unfold Dl; dsimp
 apply Eso
 apply WM
 refine Wk [0] [] ?_
 apply Eso
 apply WM
 obtain ⟨x1, x1h, h⟩ := aG h
 refine WQ (qC (vs := [a0]) hP rfl (X_i x1h) rfl) ?_
 refine WQ qcv ?_
 refine WQ qi ?_
 apply WM
 refine Wk [2] [] ?_
 apply bD
 cases h
 exact fe
def EM : cO := (q [o (.mv (ci 0)) 2, o (.mv (cb nn)) 3] (.seq (q [w 4 0, o (.bin .geq 244 4 (.const (.float .f64 14010698440749613056))) 5, w 6 5, g_ (.mv 0) 7 6 yy, g_ (.bin .leq 244 7 (.const (.float .f64 4787326403894837248))) 8 6 yy, o (.pick 6 8 (cb nn)) 9, o (.un .not 9) 10, w 11 10, g_ (.mv 0) 12 11 nn, g_ (.mv 0) 13 11 nn, g_ (.call 205 [13]) 14 11 nn, g_ (.bin .neq 244 12 14) 15 11 nn, o (.pick 11 (cb yy) 15) 16, w 17 16, g_ (.mv 0) 18 17 nn, g_ (.bin .eql 244 18 (.const (.float .f64 0))) 19 17 nn, g_ (.mv 19) 20 17 nn, g_ (.mv 0) 21 20 yy, g_ (.call 206 [21]) 22 20 yy, g_ (.pick 20 22 (cb nn)) 23 17 nn, o (.pick 17 (cb yy) 23) 24] (.cond 24 (q [o (.mv (ci 0)) 2, o (.mv (cb nn)) 3] .ret) .skip)) (q [w 25 0, o (.conv 244 2 25) 26, w 2 26, o (.mv (cb yy)) 3] .ret)))
theorem Oi : Fits Tryz.prog 178 1 EM [(.tmp 2), (.tmp 3)] := fk Tryz.func178
theorem EN (F : Nat) (a0 : Value) (r : Int × Bool) (h : qP F a0 = some r) : PC Tryz.prog 178 [S.one (.v a0)] (S.tup [(zi_ r.1), (zb_ r.2)]) := by
 unfold qP at h
 refine eu Oi rfl rfl ?_
 intro C hP
 unfold EM; dsimp
 apply Eso
 apply WM
 apply WM
 refine Wk [0] [] ?_
 (try dsimp)
 apply bG
 apply Eso
 apply WM
 obtain ⟨x1, x1h, h⟩ := aG h
 refine WQ (GR hP rfl rfl (X_b x1h) rfl) ?_
 apply WM
 apply aF
 rfl
 intro b
 try rw [b]
 exact qm
 obtain ⟨x2, x2h, h⟩ := aG h
 apply aF
 rfl
 intro b
 try rw [b]
 exact GR hP rfl rfl (X_b (jA x2h (bt b))) rfl
 refine WQ qan ?_
 refine WQ qno ?_
 apply WM
 apply aF
 rfl
 intro b
 try rw [b]
 exact qm
 apply aF
 rfl
 intro b
 try rw [b]
 exact qm
 obtain ⟨x3, x3h, h⟩ := aG h
 apply iM
 rfl
 intro hB; (try rw [hB]); exact dc1 hP (Qp F a0 x3 (jA x3h (bt hB)))
 obtain ⟨x4, x4h, h⟩ := aG h
 apply aF
 rfl
 intro b
 try rw [b]
 exact GR hP rfl rfl (X_b (jA x4h (bt b))) rfl
 refine WQ qor ?_
 apply WM
 apply aF
 rfl
 intro b
 try rw [b]
 exact qm
 obtain ⟨x5, x5h, h⟩ := aG h
 apply aF
 rfl
 intro b
 try rw [b]
 exact GR hP rfl rfl (X_b (jA x5h (bt b))) rfl
 apply aF
 rfl
 intro b
 try rw [b]
 exact qm
 apply kJ
 rfl
 intro hA hB; (try simp only [hA, hB, bss, Bool.and_true, Bool.true_and, ctt]); exact (qm).does
 obtain ⟨x6, x6h, h⟩ := aG h
 apply kJ
 rfl
 intro hA hB; (try simp only [hA, hB, bss, Bool.and_true, Bool.true_and, ctt]); exact dc1 hP (LM F a0 x6 (jA x6h (bt2 hA hB)))
 apply aF
 rfl
 intro b
 try rw [b]
 exact qan
 refine WQ qor ?_
 refine Wk [0, 24] [] ?_
 (try dsimp)
 refine Ec h rfl (fun h hc7 => ?_) (fun h hc7 => ?_)
 apply Eso
 apply WM
 apply WM
 refine Wk [2, 3] [] ?_
 (try dsimp)
 apply bD
 cases h
 exact fe
 apply bf
 refine aX [0] [] ?_
 (try dsimp)
 apply Eso
 apply WM
 obtain ⟨x8, x8h, h⟩ := aG h
 refine WQ (Qq hP rfl (X_i x8h) rfl) ?_
 apply WM
 apply WM
 refine Wk [2, 3] [] ?_
 (try dsimp)
 apply bD
 cases h
 exact fe
def EO : cO := (q [o (.mv (ci 0)) 2, o (.mv (ci 0)) 3, o (.mv (cb nn)) 4] (q [w 8 0, o (.bi .real #[188] 244 #[nn] [8]) 9, o (.call 178 [9]) 10, w 7 10, o (.ext 0 7) 11, o (.ext 1 7) 12, w 2 11, w 5 12] (q [w 14 0, o (.bi .imag #[188] 244 #[nn] [14]) 15, o (.call 178 [15]) 16, w 13 16, o (.ext 0 13) 17, o (.ext 1 13) 18, w 3 17, w 6 18] (.seq (q [w 19 5, o (.un .not 19) 20, w 21 20, g_ (.mv 6) 22 21 nn, g_ (.un .not 22) 23 21 nn, o (.pick 21 (cb yy) 23) 24] (.cond 24 (q [o (.mv (ci 0)) 2, o (.mv (ci 0)) 3, o (.mv (cb nn)) 4] .ret) .skip)) (q [w 25 2, w 26 3, w 2 25, w 3 26, o (.mv (cb yy)) 4] .ret)))))
theorem Oj : Fits Tryz.prog 147 1 EO [(.tmp 2), (.tmp 3), (.tmp 4)] := fk Tryz.func147
theorem zy (F : Nat) (a0 : Value) (r : Int × Int × Bool) (h : ny F a0 = some r) : PC Tryz.prog 147 [S.one (.v a0)] (S.tup [(zi_ r.1), (zi_ r.2.1), (zb_ r.2.2)]) := by
 unfold ny at h
 refine eu Oj rfl rfl ?_
 intro C hP
 unfold EO; dsimp
 apply Eso
 apply WM
 apply WM
 apply WM
 refine Wk [0] [] ?_
 apply Eso
 apply WM
 obtain ⟨x1, x1h, h⟩ := aG h
 refine WQ (Ed (vs := [a0]) hP rfl (Ql x1h) (Qm x1h)) ?_
 obtain ⟨x2, x2h, h⟩ := aG h
 refine W1 (dc1 hP (EN F x1 x2 x2h)) ?_
 apply WM
 refine WQ qx ?_
 refine WQ qx ?_
 apply WM
 apply WM
 refine Wk [0, 2, 5] [] ?_
 apply Eso
 apply WM
 obtain ⟨x3, x3h, h⟩ := aG h
 refine WQ (Ed (vs := [a0]) hP rfl (Ql x3h) (Qm x3h)) ?_
 obtain ⟨x4, x4h, h⟩ := aG h
 refine W1 (dc1 hP (EN F x3 x4 x4h)) ?_
 apply WM
 refine WQ qx ?_
 refine WQ qx ?_
 apply WM
 apply WM
 refine Wk [2, 3, 5, 6] [] ?_
 apply bG
 apply Eso
 apply WM
 refine WQ qno ?_
 apply WM
 apply aF
 rfl
 intro b
 try rw [b]
 exact qm
 apply aF
 rfl
 intro b
 try rw [b]
 exact qno
 refine WQ qor ?_
 refine Wk [2, 3, 24] [] ?_
 refine Ec h rfl (fun h hc5 => ?_) (fun h hc5 => ?_)
 apply Eso
 apply WM
 apply WM
 apply WM
 refine Wk [2, 3, 4] [] ?_
 apply bD
 cases h
 exact fe
 apply bf
 refine aX [2, 3] [] ?_
 apply Eso
 apply WM
 apply WM
 apply WM
 apply WM
 apply WM
 refine Wk [2, 3, 4] [] ?_
 apply bD
 cases h
 exact fe
def LP : cO := (q [o (.mv (cb nn)) 2] (q [w 3 0, o (.bin .geq 2 3 (.const (.int .i64 (-1099511627776)))) 4, w 5 4, g_ (.mv 0) 6 5 yy, g_ (.bin .leq 2 6 (ci 1099511627776)) 7 5 yy, o (.pick 5 7 (cb nn)) 8, w 2 8] .ret))
theorem U3 : Fits Tryz.prog 179 1 LP [(.tmp 2)] := fk Tryz.func179
theorem LQ (F : Nat) (a0 : Int) (r : Bool) (h : xI F a0 = some r) : PC Tryz.prog 179 [(zi_ a0)] (zb_ r) := by
 unfold xI at h
 refine eu U3 rfl rfl ?_
 intro C hP
 unfold LP; dsimp
 apply Eso
 apply WM
 refine Wk [0] [] ?_
 apply Eso
 apply WM
 refine WQ qi ?_
 apply WM
 apply aF
 rfl
 intro b
 try rw [b]
 exact qm
 apply aF
 rfl
 intro b
 try rw [b]
 exact qi
 refine WQ qan ?_
 apply WM
 refine Wk [2] [] ?_
 apply bD
 cases h
 exact fe
def LU : cO := (q [o (.mv (.const (.complex .f64 0 0))) 4, o (.mv (cb nn)) 5] (.seq (q [w 6 0, o (.call 179 [6]) 7, o (.un .not 7) 8, w 9 8, g_ (.mv 1) 10 9 nn, g_ (.call 179 [10]) 11 9 nn, g_ (.un .not 11) 12 9 nn, o (.pick 9 (cb yy) 12) 13] (.cond 13 (q [o (.mv (.const (.complex .f64 0 0))) 4, o (.mv (cb nn)) 5] .ret) .skip)) (q [w 14 0, o (.conv 2 244 14) 15, w 16 1, o (.conv 2 244 16) 17, o (.bi .complex #[244, 244] 188 #[nn, nn] [15, 17]) 18, w 4 18, o (.mv (cb yy)) 5] .ret)))
theorem U4 : Fits Tryz.prog 149 2 LU [(.tmp 4), (.tmp 5)] := fk Tryz.func149
theorem LV (F : Nat) (a0 : Int) (a1 : Int) (r : Value × Bool) (h : qX F a0 a1 = some r) : PC Tryz.prog 149 [(zi_ a0), (zi_ a1)] (S.tup [S.one (.v r.1), (zb_ r.2)]) := by
 unfold qX at h
 refine eu U4 rfl rfl ?_
 intro C hP
 unfold LU; dsimp
 apply Eso
 apply WM
 apply WM
 refine Wk [0, 1] [] ?_
 apply bG
 apply Eso
 apply WM
 obtain ⟨x1, x1h, h⟩ := aG h
 refine W1 (dc1 hP (LQ F a0 x1 x1h)) ?_
 refine WQ qno ?_
 apply WM
 apply aF
 rfl
 intro b
 try rw [b]
 exact qm
 obtain ⟨x2, x2h, h⟩ := aG h
 apply iM
 rfl
 intro hB; (try rw [hB]); exact dc1 hP (LQ F a1 x2 (jA x2h (bt hB)))
 apply aF
 rfl
 intro b
 try rw [b]
 exact qno
 refine WQ qor ?_
 refine Wk [0, 1, 13] [] ?_
 refine Ec h rfl (fun h hc3 => ?_) (fun h hc3 => ?_)
 apply Eso
 apply WM
 apply WM
 refine Wk [4, 5] [] ?_
 apply bD
 cases h
 exact fe
 apply bf
 refine aX [0, 1] [] ?_
 apply Eso
 apply WM
 obtain ⟨x4, x4h, h⟩ := aG h
 refine WQ (Qq hP rfl (Ql x4h) (Qm x4h)) ?_
 apply WM
 obtain ⟨x5, x5h, h⟩ := aG h
 refine WQ (Qq hP rfl (Ql x5h) (Qm x5h)) ?_
 obtain ⟨x6, x6h, h⟩ := aG h
 refine WQ (Ed (vs := [x4, x5]) hP rfl (Ql x6h) (Qm x6h)) ?_
 apply WM
 apply WM
 refine Wk [4, 5] [] ?_
 apply bD
 cases h
 exact fe
def GV : cO := (q [o (.mv (.const (.complex .f64 0 0))) 4] (q [w 9 0, o (.call 147 [9]) 10, w 8 10, o (.ext 0 8) 11, o (.ext 1 8) 12, o (.ext 2 8) 13, w 5 11, w 6 12, w 7 13] (.seq (q [w 14 7, o (.un .not 14) 15] (.cond 15 (q [o (.mv (.const (.complex .f64 0 0))) 4] .ret) .skip)) (.seq (q [w 16 1, o (.bin .rem 3 16 (ci 4)) 17, o (.bin .add 3 17 (ci 4)) 18, o (.bin .rem 3 18 (ci 4)) 19, o (.mv (ci 0)) 20] (.block 0 (.loop (q [o (.bin .lss 3 20 19) 21] (.seq (.cond 21 .skip (.exit 0)) (.seq (.block 1 (.ops [w 22 6, o (.un .neg 22) 23, w 24 5, w 5 23, w 6 24])) (.ops [o (.bin .add 3 20 (ci 1)) 25, w 20 25]))))))) (q [w 27 5, w 28 6, o (.call 149 [27, 28]) 29, w 26 29, o (.ext 0 26) 30, o (.ext 1 26) 31, w 0 30] (q [w 32 0, w 4 32] .ret))))))
theorem Qr : Fits Tryz.prog 148 2 GV [(.tmp 4)] := fk Tryz.func148
theorem Qs (F : Nat) (a0 : Value) (a1 : Int) (r : Value) (h : uG F a0 a1 = some r) : PC Tryz.prog 148 [S.one (.v a0), (zi_ a1)] (S.one (.v r)) := by
 unfold uG at h
 refine eu Qr rfl rfl ?_
 intro C hP
 unfold GV; dsimp
 apply Eso
 apply WM
 refine Wk [0, 1] [] ?_
 (try dsimp)
 apply Eso
 apply WM
 obtain ⟨x1, x1h, h⟩ := aG h
 refine W1 (dc1 hP (zy F a0 x1 x1h)) ?_
 apply WM
 refine WQ qx ?_
 refine WQ qx ?_
 refine WQ qx ?_
 apply WM
 apply WM
 apply WM
 refine Wk [1, 5, 6, 7] [] ?_
 (try dsimp)
 apply bG
 apply Eso
 apply WM
 refine WQ qno ?_
 refine Wk [1, 5, 6, 15] [] ?_
 (try dsimp)
 refine Ec h rfl (fun h hc2 => ?_) (fun h hc2 => ?_)
 apply Eso
 apply WM
 refine Wk [4] [] ?_
 (try dsimp)
 apply bD
 cases h
 exact fe
 apply bf
 refine aX [1, 5, 6] [] ?_
 (try dsimp)
 obtain ⟨k5, k5d, h⟩ := eX h
 refine dJ (fun (i : Int × Int) => ⟨[(5, zi_ i.1), (6, zi_ i.2)], []⟩) (fun i => k5 i.1 i.2 = some r) (fun i h => ?_) ?_
 obtain ⟨v3, v4⟩ := i
 rw [k5d] at h; dsimp only at h
 (try dsimp)
 apply Eso
 apply WM
 apply WM
 obtain ⟨x6, x6h, h⟩ := aG h
 refine W1 (dc1 hP (LV F v3 v4 x6 x6h)) ?_
 apply WM
 refine WQ qx ?_
 refine WQ qx ?_
 apply WM
 refine Wk [0] [] ?_
 (try dsimp)
 apply Eso
 apply WM
 apply WM
 refine Wk [4] [] ?_
 (try dsimp)
 apply bD
 cases h
 exact fe
 apply Eso
 apply WM
 refine WQ qi ?_
 obtain ⟨g7, h⟩ := aQ h
 refine WQ (qad g7) ?_
 refine WQ qi ?_
 apply WM
 refine Wk [5, 6, 19, 20] [] ?_
 (try dsimp)
 apply bT
 (try dsimp)
 refine eG (fun (i : Int × Int × Int) => ⟨[(5, zi_ i.1), (6, zi_ i.2.1), (19, (zi_ (Int.tmod ((Int.tmod a1 4) + (4 : Int)) 4))), (20, zi_ i.2.2)], []⟩) (fun n i => mP F a1 k5 n i.1 i.2.1 i.2.2 = some r) F (x1.1, x1.2.1, (0 : Int)) h ?_ (fun n i h => ?_)
 exact LB
 obtain ⟨v17, v18, v19⟩ := i; dsimp only at h
 obtain _ | n20 := n
 cases h
 unfold mP at h
 (try dsimp)
 apply Eso
 refine WQ qi ?_
 apply bW
 (try dsimp)
 apply bG
 refine Ec h rfl (fun h hc21 => ?_) (fun h hc21 => ?_)
 apply bf
 refine aX [5, 6, 19, 20] [] ?_
 (try dsimp)
 apply bG
 apply bT
 apply dO
 apply WM
 obtain ⟨g22, h⟩ := aQ h
 refine WQ (Zg rfl g22.1 g22.2) ?_
 apply WM
 apply WM
 apply WM
 refine Wk [5, 6, 19, 20] [] ?_
 (try dsimp)
 apply dO
 obtain ⟨g23, h⟩ := aQ h
 refine WQ (qad g23) ?_
 apply WM
 apply bW
 refine ⟨n20, ((-v18), v17, (v19 + (1 : Int))), Nat.lt_succ_self _, h, ?_⟩
 exact LB
 apply gy
 refine ⟨(v17, v18), h, ?_⟩
 exact LB
def GX : cO := (q [o (.mv (ci 0)) 2] (q [w 3 0, o (.bin .rem 2 3 (ci 1000003)) 4, o (.bin .add 2 4 (ci 1000003)) 5, o (.bin .rem 2 5 (ci 1000003)) 6, w 2 6] .ret))
theorem Qu : Fits Tryz.prog 150 1 GX [(.tmp 2)] := fk Tryz.func150
theorem GY (F : Nat) (a0 : Int) (r : Int) (h : rW F a0 = some r) : PC Tryz.prog 150 [(zi_ a0)] (zi_ r) := by
 unfold rW at h
 refine eu Qu rfl rfl ?_
 intro C hP
 unfold GX; dsimp
 apply Eso
 apply WM
 refine Wk [0] [] ?_
 apply Eso
 apply WM
 refine WQ qi ?_
 obtain ⟨g1, h⟩ := aQ h
 refine WQ (qad g1) ?_
 refine WQ qi ?_
 apply WM
 refine Wk [2] [] ?_
 apply bD
 cases h
 exact fe
def GZ : cO := (q [o (.mv (.const (.complex .f64 0 0))) 2] (q [o (.mv (.const (.complex .f64 0 0))) 3] (.seq (q [w 9 0, o (.len nn 9) 10, o (.mv (ci 0)) 11] (.block 0 (.loop (q [o (.bin .lss 3 11 10) 12] (.seq (.cond 12 .skip (.exit 0)) (.seq (.block 1 (q [o (.fH 1 9 11) 13, o (.load nn 1 13) 14, w 5 14] (q [w 16 3, o (.call 148 [16, ci 1]) 17, o (.call 147 [17]) 18, w 15 18, o (.ext 0 15) 19, o (.ext 1 15) 20, o (.ext 2 15) 21, w 6 19, w 7 20, w 8 21] (q [w 22 6, w 23 5, o (.jd .u16 23) 24, o (.jd .i64 24) 25, w 26 5, o (.bin .shr 22 26 (.const (.int .u64 32))) 27, o (.jd .u16 27) 28, o (.jd .i64 28) 29, o (.bin .sub 2 25 29) 30, o (.bin .add 2 22 30) 31, w 6 31] (q [w 32 7, w 33 5, o (.bin .shr 22 33 (.const (.int .u64 16))) 34, o (.jd .u16 34) 35, o (.jd .i64 35) 36, w 37 5, o (.bin .shr 22 37 (.const (.int .u64 48))) 38, o (.jd .u16 38) 39, o (.jd .i64 39) 40, o (.bin .sub 2 36 40) 41, o (.bin .add 2 32 41) 42, w 7 42] (.ops [w 44 6, o (.call 150 [44]) 45, w 46 7, o (.call 150 [46]) 47, o (.call 149 [45, 47]) 48, w 43 48, o (.ext 0 43) 49, o (.ext 1 43) 50, w 3 49])))))) (.ops [o (.bin .add 3 11 (ci 1)) 51, w 11 51]))))))) (q [w 52 3, w 2 52] .ret))))
theorem Qv : Fits Tryz.prog 118 1 GZ [(.tmp 2)] := fk Tryz.func118
theorem Qw (F : Nat) (a0 : (List Int)) (r : Value) (h : uH F a0 = some r) : PC Tryz.prog 118 [ss dh a0] (S.one (.v r)) := by
 unfold uH at h
 refine eu Qv rfl rfl ?_
 intro C hP
 unfold GZ; dsimp
 apply Eso
 apply WM
 refine Wk [0] [] ?_
 (try dsimp)
 apply Eso
 apply WM
 apply bW
 (try dsimp)
 obtain ⟨k2, k2d, h⟩ := eX h
 refine dJ (fun (i : Value) => ⟨[(3, S.one (.v i))], []⟩) (fun i => k2 i = some r) (fun i h => ?_) ?_
 let iv := i; change k2 i = some r at h; generalize i = v1 at h ⊢
 rw [k2d] at h; dsimp only at h
 (try dsimp)
 apply Eso
 apply WM
 apply WM
 refine Wk [2] [] ?_
 (try dsimp)
 apply bD
 cases h
 exact fe
 apply Eso
 apply WM
 refine WQ qls ?_
 apply WM
 refine Wk [3, 9, 10, 11] [] ?_
 (try dsimp)
 apply bT
 (try dsimp)
 refine eG (fun (i : Value × Int) => ⟨[(3, S.one (.v i.1)), (9, ss dh a0), (10, (zi_ ((a0.length : Nat) : Int))), (11, zi_ i.2)], []⟩) (fun n i => oz F a0 k2 n i.1 i.2 = some r) F ((.complex .f64 0 0 : Value), (0 : Int)) h ?_ (fun n i h => ?_)
 exact LB
 obtain ⟨v29, v30⟩ := i; dsimp only at h
 obtain _ | n31 := n
 cases h
 unfold oz at h
 (try dsimp)
 apply Eso
 refine WQ qi ?_
 apply bW
 (try dsimp)
 apply bG
 refine Ec h rfl (fun h hc32 => ?_) (fun h hc32 => ?_)
 apply bf
 refine aX [3, 9, 10, 11] [] ?_
 (try dsimp)
 apply bG
 apply bT
 apply Eso
 obtain ⟨g33, h⟩ := aQ h
 refine WQ (qis g33) ?_
 refine WQ (q1F 1 g33 0) ?_
 apply WM
 refine Wk [3, 5, 9, 10, 11] [] ?_
 (try dsimp)
 apply Eso
 apply WM
 obtain ⟨x34, Qh, h⟩ := aG h
 refine W1 (dc1 hP (Qs F v29 (1 : Int) x34 Qh)) ?_
 obtain ⟨x35, abX, h⟩ := aG h
 refine W1 (dc1 hP (zy F x34 x35 abX)) ?_
 apply WM
 refine WQ qx ?_
 refine WQ qx ?_
 refine WQ qx ?_
 apply WM
 apply WM
 apply WM
 refine Wk [5, 6, 7, 9, 10, 11] [] ?_
 (try dsimp)
 apply Eso
 apply WM
 apply WM
 refine WQ qcv ?_
 refine WQ qcv ?_
 apply WM
 refine WQ (yt rfl rfl (by decide)) ?_
 refine WQ qcv ?_
 refine WQ qcv ?_
 obtain ⟨g36, h⟩ := aQ h
 refine WQ (qsu g36) ?_
 obtain ⟨g37, h⟩ := aQ h
 refine WQ (qad g37) ?_
 apply WM
 refine Wk [5, 6, 7, 9, 10, 11] [] ?_
 (try dsimp)
 apply Eso
 apply WM
 apply WM
 refine WQ (yt rfl rfl (by decide)) ?_
 refine WQ qcv ?_
 refine WQ qcv ?_
 apply WM
 refine WQ (yt rfl rfl (by decide)) ?_
 refine WQ qcv ?_
 refine WQ qcv ?_
 obtain ⟨g38, h⟩ := aQ h
 refine WQ (qsu g38) ?_
 obtain ⟨g39, h⟩ := aQ h
 refine WQ (qad g39) ?_
 apply WM
 refine Wk [6, 7, 9, 10, 11] [] ?_
 (try dsimp)
 apply dO
 apply WM
 obtain ⟨x40, Zh, h⟩ := aG h
 refine W1 (yu hP (GY F (x35.1 + ((IntKind.i64.wrap (IntKind.u16.wrap (nth a0 v30))) - (IntKind.i64.wrap (IntKind.u16.wrap (kL .u64 (nth a0 v30) (32 : Int)))))) x40 Zh) rfl rfl rfl) ?_
 apply WM
 obtain ⟨x41, Y7, h⟩ := aG h
 refine W1 (yu hP (GY F (x35.2.1 + ((IntKind.i64.wrap (IntKind.u16.wrap (kL .u64 (nth a0 v30) (16 : Int)))) - (IntKind.i64.wrap (IntKind.u16.wrap (kL .u64 (nth a0 v30) (48 : Int)))))) x41 Y7) rfl rfl rfl) ?_
 obtain ⟨x42, abK, h⟩ := aG h
 refine W1 (dc1 hP (LV F x40 x41 x42 abK)) ?_
 apply WM
 refine WQ qx ?_
 refine WQ qx ?_
 apply WM
 refine Wk [3, 9, 10, 11] [] ?_
 (try dsimp)
 apply dO
 obtain ⟨g43, h⟩ := aQ h
 refine WQ (qad g43) ?_
 apply WM
 apply bW
 refine ⟨n31, (x42.1, (v30 + (1 : Int))), Nat.lt_succ_self _, h, ?_⟩
 exact LB
 apply gy
 refine ⟨v29, h, ?_⟩
 exact LB
def G5 : cO := (q [o (.mv (.const (.int .u64 0))) 2, o (.mv (cb nn)) 3] (q [w 8 0, o (.call 147 [8]) 9, w 7 9, o (.ext 0 7) 10, o (.ext 1 7) 11, o (.ext 2 7) 12, w 4 10, w 5 11, w 6 12] (.seq (q [w 13 6, o (.un .not 13) 14, w 15 14, g_ (.mv 4) 16 15 nn, g_ (.bin .lss 2 16 (ci 0)) 17 15 nn, o (.pick 15 (cb yy) 17) 18, w 19 18, g_ (.mv 4) 20 19 nn, g_ (.bin .gtr 2 20 (ci 4294967295)) 21 19 nn, o (.pick 19 (cb yy) 21) 22, w 23 22, g_ (.mv 5) 24 23 nn, g_ (.bin .lss 2 24 (ci 0)) 25 23 nn, o (.pick 23 (cb yy) 25) 26, w 27 26, g_ (.mv 5) 28 27 nn, g_ (.bin .gtr 2 28 (ci 4294967295)) 29 27 nn, o (.pick 27 (cb yy) 29) 30] (.cond 30 (q [o (.mv (.const (.int .u64 0))) 2, o (.mv (cb nn)) 3] .ret) .skip)) (q [w 31 5, o (.jd .u64 31) 32, o (.bin .shl 22 32 (.const (.int .u64 32))) 33, w 34 4, o (.jd .u64 34) 35, o (.bin .or 22 33 35) 36, w 2 36, o (.mv (cb yy)) 3] .ret))))
theorem Qx : Fits Tryz.prog 117 1 G5 [(.tmp 2), (.tmp 3)] := fk Tryz.func117
theorem Qy (F : Nat) (a0 : Value) (r : Int × Bool) (h : uI F a0 = some r) : PC Tryz.prog 117 [S.one (.v a0)] (S.tup [(zu_ r.1), (zb_ r.2)]) := by
 unfold uI at h
 refine eu Qx rfl rfl ?_
 intro C hP
 unfold G5; dsimp
 apply Eso
 apply WM
 apply WM
 refine Wk [0] [] ?_
 (try dsimp)
 apply Eso
 apply WM
 obtain ⟨x1, x1h, h⟩ := aG h
 refine W1 (dc1 hP (zy F a0 x1 x1h)) ?_
 apply WM
 refine WQ qx ?_
 refine WQ qx ?_
 refine WQ qx ?_
 apply WM
 apply WM
 apply WM
 refine Wk [4, 5, 6] [] ?_
 (try dsimp)
 apply bG
 apply Eso
 apply WM
 refine WQ qno ?_
 apply WM
 apply aF
 rfl
 intro b
 try rw [b]
 exact qm
 apply aF
 rfl
 intro b
 try rw [b]
 exact qi
 refine WQ qor ?_
 apply WM
 apply aF
 rfl
 intro b
 try rw [b]
 exact qm
 apply aF
 rfl
 intro b
 try rw [b]
 exact qi
 refine WQ qor ?_
 apply WM
 apply aF
 rfl
 intro b
 try rw [b]
 exact qm
 apply aF
 rfl
 intro b
 try rw [b]
 exact qi
 refine WQ qor ?_
 apply WM
 apply aF
 rfl
 intro b
 try rw [b]
 exact qm
 apply aF
 rfl
 intro b
 try rw [b]
 exact qi
 refine WQ qor ?_
 refine Wk [4, 5, 30] [] ?_
 (try dsimp)
 refine Ec h rfl (fun h hc2 => ?_) (fun h hc2 => ?_)
 apply Eso
 apply WM
 apply WM
 refine Wk [2, 3] [] ?_
 (try dsimp)
 apply bD
 cases h
 exact fe
 apply bf
 refine aX [4, 5] [] ?_
 (try dsimp)
 apply Eso
 apply WM
 refine WQ qcv ?_
 refine WQ (wC rfl rfl (by decide)) ?_
 apply WM
 refine WQ qcv ?_
 refine WQ qi ?_
 apply WM
 apply WM
 refine Wk [2, 3] [] ?_
 (try dsimp)
 apply bD
 cases h
 exact fe
def Jj : cO := (q [o (.box 149 0) 1, o (.mv cn) 2] (.seq (q [o (.add 0 1) 6, o (.load yy 3 6) 7, o (.call 52 [7]) 8, o (.un .not 8) 9] (.cond 9 (q [o (.mv cn) 2] .ret) .skip)) (q [o (.add 0 1) 10, o (.add 0 10) 11, o (.load nn 1 11) 12, o (.jd .u64 12) 13, o (.add 0 1) 14, o (.add 1 14) 15, o (.load nn 1 15) 16, o (.jd .u64 16) 17, o (.add 0 1) 18, o (.add 2 18) 19, o (.load nn 1 19) 20, o (.jd .u64 20) 21, o (.add 3 1) 22, o (.load nn 1 22) 23, o (.iW 1 22 7 [zu, zu, zu, zu, zu, zu, zu] [(0, (1, (.const (.int .u64 8243106252149764145)))), (1, (1, 13)), (2, (1, 17)), (3, (1, 21)), (4, (1, 23)), (5, (1, (.const (.int .u64 0)))), (6, (1, (.const (.int .u64 0))))]) 24, w 3 24] (q [w 26 3, o (.call 118 [26]) 27, o (.call 117 [27]) 28, w 25 28, o (.ext 0 25) 29, o (.ext 1 25) 30, w 4 29, w 5 30] (q [w 31 3, w 32 4, o (.iW 1 22 1 [zu] [(0, (1, 32))]) 33, o (.app 34 22 1 8 31 33) 34, w 2 34] .ret)))))
theorem SE : Fits Tryz.prog 75 1 Jj [(.tmp 2)] := fk Tryz.func75
theorem Dn (F : Nat) (a0 : dK) (r : (List Int)) (h : pY F a0 = some r) : PC Tryz.prog 75 [S.agg [vi a0.bH.ak, vi a0.bH.ay, vi a0.bH.aA, vu a0.uj]] (ss dh r) := by
 unfold pY at h
 refine eu SE rfl rfl ?_
 intro C hP
 unfold Jj; dsimp
 apply Eso
 refine W1 dbx ?_
 apply WM
 refine Wk [1] [1] ?_
 apply bG
 apply Eso
 refine WQ qap ?_
 refine WQ qlA ?_
 obtain ⟨x1, x1h, h⟩ := aG h
 refine W1 (dc1 hP (nR F a0.bH x1 x1h)) ?_
 refine WQ qno ?_
 refine Wk [1, 9] [1] ?_
 refine Ec h rfl (fun h hc2 => ?_) (fun h hc2 => ?_)
 apply Eso
 apply WM
 refine Wk [2] [] ?_
 refine dR (Ee (i := 2) rfl).b ?_
 apply bD
 cases h
 exact fe
 apply bf
 refine aX [1] [1] ?_
 apply Eso
 refine WQ qap ?_
 refine WQ qap ?_
 refine WQ ql1 ?_
 refine WQ qcv ?_
 refine WQ qap ?_
 refine WQ qap ?_
 refine WQ ql1 ?_
 refine WQ qcv ?_
 refine WQ qap ?_
 refine WQ qap ?_
 refine WQ ql1 ?_
 refine WQ qcv ?_
 refine WQ qap ?_
 refine WQ ql1 ?_
 refine W1 dbs ?_
 apply WM
 refine Wk [3] [24] ?_
 apply Eso
 apply WM
 obtain ⟨x3, x3h, h⟩ := aG h
 refine W1 (nU hP (Qw F ([(8243106252149764145 : Int), (IntKind.u64.wrap a0.bH.ak), (IntKind.u64.wrap a0.bH.ay), (IntKind.u64.wrap a0.bH.aA), a0.uj, (0 : Int), (0 : Int)] : List Int) x3 x3h) rfl rfl) ?_
 obtain ⟨x4, x4h, h⟩ := aG h
 refine W1 (dc1 hP (Qy F x3 x4 x4h)) ?_
 apply WM
 refine WQ qx ?_
 refine WQ qx ?_
 apply WM
 apply WM
 refine Wk [3, 4] [24] ?_
 apply Eso
 apply WM
 apply WM
 refine W1 dbs ?_
 obtain ⟨g5, h⟩ := aQ h
 refine W1 (Does.ghost (fK (r := 24) (g' := ⟨true, flat dh ([(8243106252149764145 : Int), (IntKind.u64.wrap a0.bH.ak), (IntKind.u64.wrap a0.bH.ay), (IntKind.u64.wrap a0.bH.aA), a0.uj, (0 : Int), (0 : Int)] : List Int)⟩) rfl rfl).b (dY (e := dh) rfl rfl (fun _ => rfl) (fun _ => rfl) rfl (Src.lit (e := dh) ([x4.1] : List Int) rfl (fun _ => rfl) rfl rfl) g5 rfl)) ?_
 apply WM
 refine Wk [2] [24] ?_
 refine dR (kY (r := 24) rfl rfl).b ?_
 apply bD
 cases h
 exact fe
def LW : cO := (q [o (.box 30 0) 2, o (.mv (ci 0)) 4] (.seq (q [o (.load yy 3 2) 5, o (.call 52 [5]) 6, o (.un .not 6) 7, w 8 7, g_ (.mv 1) 9 8 nn, g_ (.add 1 2) 10 8 nn, g_ (.load nn 1 10) 11 8 nn, g_ (.bin .sub 3 11 (ci 1)) 12 8 nn, g_ (.call 53 [9, ci 0, 12]) 13 8 nn, g_ (.un .not 13) 14 8 nn, o (.pick 8 (cb yy) 14) 15] (.cond 15 (q [o (.mv (ci 0)) 4] .ret) .skip)) (q [o (.load yy 3 2) 16, o (.call 54 [16]) 17, w 18 1, o (.bin .mul 3 (ci 2) 18) 19, o (.bin .add 3 17 19) 20, w 4 20] .ret)))
theorem U5 : Fits Tryz.prog 21 2 LW [(.tmp 4)] := fk Tryz.func21
theorem FD (F : Nat) (a0 : aJ) (a1 : Int) (r : Int) (h : tX F a0 a1 = some r) : PC Tryz.prog 21 [S.agg [vi a0.ak, vi a0.ay, vi a0.aA], (zi_ a1)] (zi_ r) := by
 unfold tX at h
 refine eu U5 rfl rfl ?_
 intro C hP
 unfold LW; dsimp
 apply Eso
 refine W1 dbx ?_
 apply WM
 refine Wk [1, 2] [2] ?_
 apply bG
 apply Eso
 refine WQ qlA ?_
 obtain ⟨x1, x1h, h⟩ := aG h
 refine W1 (dc1 hP (nR F a0 x1 x1h)) ?_
 refine WQ qno ?_
 apply WM
 apply aF
 rfl
 intro b
 try rw [b]
 exact qm
 apply aF
 rfl
 intro b
 try rw [b]
 exact qap
 apply aF
 rfl
 intro b
 try rw [b]
 exact ql1
 obtain ⟨g2, h⟩ := aQ h
 apply aF
 rfl
 intro b
 try rw [b]
 exact qsu (g2 b)
 obtain ⟨x3, x3h, h⟩ := aG h
 apply iM
 rfl
 intro hB; (try rw [hB]); exact dc1 hP (xY F a1 (0 : Int) (a0.ay - (1 : Int)) x3 (jA x3h (bt hB)))
 apply aF
 rfl
 intro b
 try rw [b]
 exact qno
 refine WQ qor ?_
 refine Wk [1, 2, 15] [2] ?_
 refine Ec h rfl (fun h hc4 => ?_) (fun h hc4 => ?_)
 apply Eso
 apply WM
 refine Wk [4] [] ?_
 apply bD
 cases h
 exact fe
 apply bf
 refine aX [1, 2] [2] ?_
 apply Eso
 refine WQ qlA ?_
 obtain ⟨x5, x5h, h⟩ := aG h
 refine W1 (dc1 hP (EL F a0 x5 x5h)) ?_
 apply WM
 obtain ⟨g6, h⟩ := aQ h
 refine WQ (qmu g6) ?_
 obtain ⟨g7, h⟩ := aQ h
 refine WQ (qad g7) ?_
 apply WM
 refine Wk [4] [] ?_
 apply bD
 cases h
 exact fe
def G6 : cO := (q [o (.mv cn) 0] (q [o (.build [zi, zi] [(0, (1, (ci 0))), (1, (1, (ci 8)))]) 1, o (.build [zi, zi] [(0, (1, (ci 8))), (1, (1, (ci 8)))]) 2, o (.build [zi, zi] [(0, (1, (ci 16))), (1, (1, (ci 16)))]) 3, o (.build [zi, zi] [(0, (1, (ci 32))), (1, (1, (ci 16)))]) 4, o (.iW 2 193 4 [zi, zi, zi, zi, zi, zi, zi, zi] [(0, (2, 1)), (2, (2, 2)), (4, (2, 3)), (6, (2, 4))]) 5, w 0 5] .ret))
theorem Qz : Fits Tryz.prog 120 0 G6 [(.tmp 0)] := fk Tryz.func120
theorem xB (F : Nat)  (r : (List aU)) (h : sD F  = some r) : PC Tryz.prog 120 [] (ss gZ r) := by
 unfold sD at h
 refine eu Qz rfl rfl ?_
 intro C hP
 unfold G6; dsimp
 apply Eso
 apply WM
 refine Wk [] [] ?_
 apply Eso
 refine WQ qbu ?_
 refine WQ qbu ?_
 refine WQ qbu ?_
 refine WQ qbu ?_
 refine W1 dbs ?_
 apply WM
 refine Wk [0] [5] ?_
 refine dR (fK (r := 5) (g' := ⟨true, flat gZ ([(⟨(0 : Int), (8 : Int)⟩ : aU), (⟨(8 : Int), (8 : Int)⟩ : aU), (⟨(16 : Int), (16 : Int)⟩ : aU), (⟨(32 : Int), (16 : Int)⟩ : aU)] : List aU)⟩) rfl rfl).b ?_
 obtain ⟨g1, h⟩ := aQ h
 refine dR (jM (i := 0) _ rfl g1).b ?_
 refine dR (kY (r := 5) rfl rfl).b ?_
 apply bD
 cases h
 exact fe
def zT : cO := (q [o (.box 193 0) 1, o (.mv (.const (.int .u64 0))) 2] (.seq (.draw [((o (.add 1 1) 3), []), ((o (.load nn 1 3) 4), [0]), ((o (.bin .shl 22 (.const (.int .u64 1)) 4) 5), [1]), ((o (.bin .sub 22 5 (.const (.int .u64 1))) 6), [2]), ((o (.add 0 1) 7), []), ((o (.load nn 1 7) 8), [4]), ((o (.bin .shl 22 6 8) 9), [3, 5]), ((w 2 9), [6, 0, 1, 2, 3, 4, 5, 6])]) .ret))
theorem Ip : Fits Tryz.prog 124 1 zT [(.tmp 2)] := fk Tryz.func124
theorem sK (F : Nat) (a0 : aU) (r : Int) (h : gW F a0 = some r) : PC Tryz.prog 124 [S.agg [vi a0.eH, vi a0.Ik]] (zu_ r) := by
 unfold gW at h
 refine eu Ip rfl rfl ?_
 intro C hP
 unfold zT; dsimp
 apply Eso
 refine W1 dbx ?_
 apply WM
 refine Wk [1] [1] ?_
 apply bG
 obtain ⟨g1, h⟩ := aQ h
 obtain ⟨g2, h⟩ := aQ h
 refine ig [0, 1, 2, 3, 4, 5, 6, 7] ?_
 refine XQ 0 rfl rfl rfl qap ?_
 refine XQ 1 rfl rfl rfl ql1 ?_
 refine XQ 2 rfl rfl rfl (wC rfl rfl g1) ?_
 refine XQ 3 rfl rfl rfl qi ?_
 refine XQ 4 rfl rfl rfl qap ?_
 refine XQ 5 rfl rfl rfl ql1 ?_
 refine XQ 6 rfl rfl rfl (wC rfl rfl g2) ?_
 refine XQ 7 rfl rfl rfl qm ?_
 refine dL rfl ?_
 refine aX [2] [] ?_
 apply bD
 cases h
 exact fe
def OO : cO := (q [o (.mv (.const (.int .u64 0))) 2, o (.mv (cb nn)) 3] (q [o (.mv (.const (.int .u64 0))) 4] (.seq (q [w 7 0, o (.len nn 7) 8, o (.mv (ci 0)) 9] (.block 0 (.loop (q [o (.bin .lss 3 9 8) 10] (.seq (.cond 10 .skip (.exit 0)) (.seq (.block 1 (q [o (.fH 2 7 9) 11, o (.load yy 2 11) 12, o (.jm [zi, zi]) 6, n_ (.store 2 6 12)] (.seq (q [o (.add 0 6) 13, o (.load nn 1 13) 14, o (.bin .lss 3 14 (ci 0)) 15, w 16 15, g_ (.add 0 6) 17 16 nn, g_ (.load nn 1 17) 18 16 nn, g_ (.bin .geq 3 18 (ci 64)) 19 16 nn, o (.pick 16 (cb yy) 19) 20, w 21 20, g_ (.add 1 6) 22 21 nn, g_ (.load nn 1 22) 23 21 nn, g_ (.bin .lss 3 23 (ci 1)) 24 21 nn, o (.pick 21 (cb yy) 24) 25, w 26 25, g_ (.add 1 6) 27 26 nn, g_ (.load nn 1 27) 28 26 nn, g_ (.add 0 6) 29 26 nn, g_ (.load nn 1 29) 30 26 nn, g_ (.bin .sub 3 (ci 64) 30) 31 26 nn, g_ (.bin .gtr 3 28 31) 32 26 nn, o (.pick 26 (cb yy) 32) 33, w 34 33, g_ (.mv 4) 35 34 nn, g_ (.load yy 2 6) 36 34 nn, g_ (.call 124 [36]) 37 34 nn, g_ (.bin .and 22 35 37) 38 34 nn, g_ (.bin .neq 22 38 (.const (.int .u64 0))) 39 34 nn, o (.pick 34 (cb yy) 39) 40] (.cond 40 (q [o (.mv (.const (.int .u64 0))) 2, o (.mv (cb nn)) 3] .ret) .skip)) (.ops [w 41 4, o (.load yy 2 6) 42, o (.call 124 [42]) 43, o (.bin .or 22 41 43) 44, w 4 44])))) (.ops [o (.bin .add 3 9 (ci 1)) 45, w 9 45]))))))) (q [w 46 4, w 2 46, o (.mv (cb yy)) 3] .ret))))
theorem Xn : Fits Tryz.prog 155 1 OO [(.tmp 2), (.tmp 3)] := fk Tryz.func155
theorem OQ (F : Nat) (a0 : (List aU)) (r : Int × Bool) (h : Eb F a0 = some r) : PC Tryz.prog 155 [ss gZ a0] (S.tup [(zu_ r.1), (zb_ r.2)]) := by
 unfold Eb at h
 refine eu Xn rfl rfl ?_
 intro C hP
 unfold OO; dsimp
 apply Eso
 apply WM
 apply WM
 refine Wk [0] [] ?_
 (try dsimp)
 apply Eso
 apply WM
 apply bW
 (try dsimp)
 obtain ⟨k2, k2d, h⟩ := eX h
 refine dJ (fun (i : Int) => ⟨[(4, zu_ i)], []⟩) (fun i => k2 i = some r) (fun i h => ?_) ?_
 let iv := i; change k2 i = some r at h; generalize i = v1 at h ⊢
 rw [k2d] at h; dsimp only at h
 (try dsimp)
 apply Eso
 apply WM
 apply WM
 apply WM
 refine Wk [2, 3] [] ?_
 (try dsimp)
 apply bD
 cases h
 exact fe
 apply Eso
 apply WM
 refine WQ qls ?_
 apply WM
 refine Wk [4, 7, 8, 9] [] ?_
 (try dsimp)
 apply bT
 (try dsimp)
 refine eG (fun (i : Int × Int) => ⟨[(4, zu_ i.1), (7, ss gZ a0), (8, (zi_ ((a0.length : Nat) : Int))), (9, zi_ i.2)], []⟩) (fun n i => xA F a0 k2 n i.1 i.2 = some r) F ((0 : Int), (0 : Int)) h ?_ (fun n i h => ?_)
 exact LB
 obtain ⟨v19, v20⟩ := i; dsimp only at h
 obtain _ | n21 := n
 cases h
 unfold xA at h
 (try dsimp)
 apply Eso
 refine WQ qi ?_
 apply bW
 (try dsimp)
 apply bG
 refine Ec h rfl (fun h hc22 => ?_) (fun h hc22 => ?_)
 apply bf
 refine aX [4, 7, 8, 9] [] ?_
 (try dsimp)
 apply bG
 apply bT
 apply Eso
 obtain ⟨g23, h⟩ := aQ h
 refine WQ (qis g23) ?_
 refine WQ (qAF 2 g23 0) ?_
 refine W1 dnv ?_
 refine W1 dst ?_
 refine Wk [4, 6, 7, 8, 9] [6] ?_
 (try dsimp)
 apply bG
 apply Eso
 refine WQ qap ?_
 refine WQ ql1 ?_
 refine WQ qi ?_
 apply WM
 apply aF
 rfl
 intro b
 try rw [b]
 exact qap
 apply aF
 rfl
 intro b
 try rw [b]
 exact ql1
 apply aF
 rfl
 intro b
 try rw [b]
 exact qi
 refine WQ qor ?_
 apply WM
 apply aF
 rfl
 intro b
 try rw [b]
 exact qap
 apply aF
 rfl
 intro b
 try rw [b]
 exact ql1
 apply aF
 rfl
 intro b
 try rw [b]
 exact qi
 refine WQ qor ?_
 apply WM
 apply aF
 rfl
 intro b
 try rw [b]
 exact qap
 apply aF
 rfl
 intro b
 try rw [b]
 exact ql1
 apply aF
 rfl
 intro b
 try rw [b]
 exact qap
 apply aF
 rfl
 intro b
 try rw [b]
 exact ql1
 obtain ⟨g24, h⟩ := aQ h
 apply aF
 rfl
 intro b
 try rw [b]
 exact qsu (g24 b)
 apply aF
 rfl
 intro b
 try rw [b]
 exact qi
 refine WQ qor ?_
 apply WM
 apply aF
 rfl
 intro b
 try rw [b]
 exact qm
 apply aF
 rfl
 intro b
 try rw [b]
 exact qlA
 obtain ⟨x25, Xo, h⟩ := aG h
 apply iM
 rfl
 intro hB; (try rw [hB]); exact dc1 hP (sK F (nth a0 v20) x25 (jA Xo (bt hB)))
 apply aF
 rfl
 intro b
 try rw [b]
 exact qi
 apply aF
 rfl
 intro b
 try rw [b]
 exact qi
 refine WQ qor ?_
 refine Wk [4, 6, 7, 8, 9, 40] [6] ?_
 (try dsimp)
 refine Ec h rfl (fun h abY => ?_) (fun h abY => ?_)
 apply Eso
 apply WM
 apply WM
 refine Wk [2, 3] [] ?_
 (try dsimp)
 apply bD
 cases h
 exact fe
 apply bf
 refine aX [4, 6, 7, 8, 9] [6] ?_
 (try dsimp)
 apply dO
 apply WM
 refine WQ qlA ?_
 obtain ⟨x27, abZ, h⟩ := aG h
 refine W1 (dc1 hP (sK F (nth a0 v20) x27 abZ)) ?_
 refine WQ qi ?_
 apply WM
 refine Wk [4, 7, 8, 9] [] ?_
 (try dsimp)
 apply dO
 obtain ⟨g28, h⟩ := aQ h
 refine WQ (qad g28) ?_
 apply WM
 apply bW
 refine ⟨n21, ((ior .u64 v19 x27), (v20 + (1 : Int))), Nat.lt_succ_self _, h, ?_⟩
 exact LB
 apply gy
 refine ⟨v19, h, ?_⟩
 exact LB
def LX : cO := (q [o (.mv (cb nn)) 2] (q [w 6 0, o (.call 155 [6]) 7, w 5 7, o (.ext 0 5) 8, o (.ext 1 5) 9, w 3 8, w 4 9] (q [w 10 4, w 2 10] .ret)))
theorem U6 : Fits Tryz.prog 123 1 LX [(.tmp 2)] := fk Tryz.func123
theorem LY (F : Nat) (a0 : (List aU)) (r : Bool) (h : fE F a0 = some r) : PC Tryz.prog 123 [ss gZ a0] (zb_ r) := by
 unfold fE at h
 refine eu U6 rfl rfl ?_
 intro C hP
 unfold LX; dsimp
 apply Eso
 apply WM
 refine Wk [0] [] ?_
 apply Eso
 apply WM
 obtain ⟨x1, x1h, h⟩ := aG h
 refine W1 (dc1 hP (OQ F a0 x1 x1h)) ?_
 apply WM
 refine WQ qx ?_
 refine WQ qx ?_
 apply WM
 apply WM
 refine Wk [4] [] ?_
 apply Eso
 apply WM
 apply WM
 refine Wk [2] [] ?_
 apply bD
 cases h
 exact fe
end Go.V.P
