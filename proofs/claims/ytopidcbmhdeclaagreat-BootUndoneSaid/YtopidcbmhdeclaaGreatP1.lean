/- Walks: each function does what its model says. No premises. -/
import Derived.Test.YtopidcbmhdeclaaGreatP0
set_option linter.unusedVariables false
set_option linter.unusedSimpArgs false
set_option maxRecDepth 20000
set_option maxHeartbeats 4000000
namespace Go.V.P
open Go.V Go.Proofs
def Jc : cO := (q [o (.jm [zi, zi, zi]) 0] (q [o (.build [zi, zi, zi] [(0, (1, (ci 2))), (1, (1, (ci 32))), (2, (1, (ci 16)))]) 1, n_ (.store 3 0 1)] .ret))
theorem RY : Fits Tryz.prog 11 0 Jc [(.cell true 3 0)] := fk Tryz.func11
theorem yT (F : Nat)  (r : aJ) (h : ql F  = some r) : PC Tryz.prog 11 [] (S.agg [vi r.ak, vi r.ay, vi r.aA]) := by
 unfold ql at h
 refine eu RY rfl rfl ?_
 intro C hP
 unfold Jc; dsimp
 apply Eso
 refine W1 dnv ?_
 apply bW
 apply Eso
 refine WQ qbu ?_
 refine W1 dst ?_
 refine Wk [0] [0] ?_
 apply bD
 cases h
 exact fe
def Jd : cO := (q [o (.box 122 0) 1, o (.jm [zi, zi, zi, zi, zi, zi, zi, zb, zu, zu, zu, zu, zu]) 2] (.seq (q [o (.add 0 1) 3, o (.load nn 1 3) 4] (.block 0 (q [o (.bin .eql 3 4 (ci 1)) 6, w 5 6] (.cond 5 (q [o (.add 0 1) 7, o (.load nn 1 7) 8, o (.add 3 1) 9, o (.load nn 1 9) 10, o (.add 4 1) 11, o (.load nn 1 11) 12, o (.build [zi, zi, zi, zi, zi, zi, zi, zb, zu, zu, zu, zu, zu] [(0, (1, 8)), (3, (1, 10)), (4, (1, 12))]) 13, n_ (.store 13 2 13)] .ret) (q [o (.bin .eql 3 4 (ci 2)) 15, w 14 15] (.cond 14 (q [o (.add 0 1) 16, o (.load nn 1 16) 17, o (.add 1 1) 18, o (.load nn 1 18) 19, o (.add 2 1) 20, o (.load nn 1 20) 21, o (.build [zi, zi, zi, zi, zi, zi, zi, zb, zu, zu, zu, zu, zu] [(0, (1, 17)), (1, (1, 19)), (2, (1, 21))]) 22, n_ (.store 13 2 22)] .ret) (q [o (.bin .eql 3 4 (ci 3)) 24, w 23 24] (.cond 23 (.seq (q [o (.add 7 1) 25, o (.load nn 1 25) 26, o (.un .not 26) 27] (.cond 27 (q [o (.add 0 1) 28, o (.load nn 1 28) 29, o (.build [zi, zi, zi, zi, zi, zi, zi, zb, zu, zu, zu, zu, zu] [(0, (1, 29))]) 30, n_ (.store 13 2 30)] .ret) .skip)) (q [o (.add 0 1) 31, o (.load nn 1 31) 32, o (.add 8 1) 33, o (.load nn 1 33) 34, o (.add 6 1) 35, o (.load nn 1 35) 36, o (.add 5 1) 37, o (.load nn 1 37) 38, o (.build [zi, zi, zi, zi, zi, zi, zi, zb, zu, zu, zu, zu, zu] [(0, (1, 32)), (7, (1, (cb yy))), (8, (1, 34)), (6, (1, 36)), (5, (1, 38))]) 39, n_ (.store 13 2 39)] .ret)) (q [o (.bin .eql 3 4 (ci 4)) 41, w 40 41] (.cond 40 (q [o (.add 0 1) 42, o (.load nn 1 42) 43, o (.add 8 1) 44, o (.load nn 1 44) 45, o (.build [zi, zi, zi, zi, zi, zi, zi, zb, zu, zu, zu, zu, zu] [(0, (1, 43)), (8, (1, 45))]) 46, n_ (.store 13 2 46)] .ret) (q [o (.bin .eql 3 4 (ci 5)) 48, w 47 48] (.cond 47 (q [o (.add 0 1) 49, o (.load nn 1 49) 50, o (.add 9 1) 51, o (.load yy 4 51) 52, o (.build [zi, zi, zi, zi, zi, zi, zi, zb, zu, zu, zu, zu, zu] [(0, (1, 50)), (9, (4, 52))]) 53, n_ (.store 13 2 53)] .ret) .skip)))))))))))) (q [o (.build [zi, zi, zi, zi, zi, zi, zi, zb, zu, zu, zu, zu, zu] []) 54, n_ (.store 13 2 54)] .ret)))
theorem RZ : Fits Tryz.prog 137 1 Jd [(.cell true 13 2)] := fk Tryz.func137
theorem Si (F : Nat) (a0 : aH) (r : aH) (h : qY F a0 = some r) : PC Tryz.prog 137 [S.agg [vi a0.xType, vi a0.iY, vi a0.jw, vi a0.mM, vi a0.nK, vi a0.eH, vi a0.gI, vb a0.qJ, vu a0.lD, vu a0.dn.c0, vu a0.dn.c1, vu a0.dn.c2, vu a0.dn.c3]] (S.agg [vi r.xType, vi r.iY, vi r.jw, vi r.mM, vi r.nK, vi r.eH, vi r.gI, vb r.qJ, vu r.lD, vu r.dn.c0, vu r.dn.c1, vu r.dn.c2, vu r.dn.c3]) := by
 unfold qY at h
 refine eu RZ rfl rfl ?_
 intro C hP
 unfold Jd; dsimp
 apply Eso
 refine W1 dbx ?_
 refine W1 dnv ?_
 refine Wk [1, 2] [1, 2] ?_
 (try dsimp)
 apply bG
 apply Eso
 refine WQ qap ?_
 refine WQ ql1 ?_
 refine Wk [1, 2, 4] [1, 2] ?_
 (try dsimp)
 apply bT
 apply Eso
 refine WQ qi ?_
 apply WM
 refine Wk [1, 2, 4, 5] [1, 2] ?_
 (try dsimp)
 refine Ec h rfl (fun h hc1 => ?_) (fun h hc1 => ?_)
 apply Eso
 refine WQ qap ?_
 refine WQ ql1 ?_
 refine WQ qap ?_
 refine WQ ql1 ?_
 refine WQ qap ?_
 refine WQ ql1 ?_
 refine WQ qbu ?_
 refine W1 dst ?_
 refine Wk [2] [2] ?_
 (try dsimp)
 apply bD
 cases h
 exact fe
 apply Eso
 refine WQ qi ?_
 apply WM
 refine Wk [1, 2, 4, 14] [1, 2] ?_
 (try dsimp)
 refine Ec h rfl (fun h hc2 => ?_) (fun h hc2 => ?_)
 apply Eso
 refine WQ qap ?_
 refine WQ ql1 ?_
 refine WQ qap ?_
 refine WQ ql1 ?_
 refine WQ qap ?_
 refine WQ ql1 ?_
 refine WQ qbu ?_
 refine W1 dst ?_
 refine Wk [2] [2] ?_
 (try dsimp)
 apply bD
 cases h
 exact fe
 apply Eso
 refine WQ qi ?_
 apply WM
 refine Wk [1, 2, 4, 23] [1, 2] ?_
 (try dsimp)
 refine Ec h rfl (fun h hc3 => ?_) (fun h hc3 => ?_)
 apply bG
 apply Eso
 refine WQ qap ?_
 refine WQ ql1 ?_
 refine WQ qno ?_
 refine Wk [1, 2, 27] [1, 2] ?_
 (try dsimp)
 refine Ec h rfl (fun h hc4 => ?_) (fun h hc4 => ?_)
 apply Eso
 refine WQ qap ?_
 refine WQ ql1 ?_
 refine WQ qbu ?_
 refine W1 dst ?_
 refine Wk [2] [2] ?_
 (try dsimp)
 apply bD
 cases h
 exact fe
 apply bf
 refine aX [1, 2] [1, 2] ?_
 (try dsimp)
 apply Eso
 refine WQ qap ?_
 refine WQ ql1 ?_
 refine WQ qap ?_
 refine WQ ql1 ?_
 refine WQ qap ?_
 refine WQ ql1 ?_
 refine WQ qap ?_
 refine WQ ql1 ?_
 refine WQ qbu ?_
 refine W1 dst ?_
 refine Wk [2] [2] ?_
 (try dsimp)
 apply bD
 cases h
 exact fe
 apply Eso
 refine WQ qi ?_
 apply WM
 refine Wk [1, 2, 4, 40] [1, 2] ?_
 (try dsimp)
 refine Ec h rfl (fun h hc5 => ?_) (fun h hc5 => ?_)
 apply Eso
 refine WQ qap ?_
 refine WQ ql1 ?_
 refine WQ qap ?_
 refine WQ ql1 ?_
 refine WQ qbu ?_
 refine W1 dst ?_
 refine Wk [2] [2] ?_
 (try dsimp)
 apply bD
 cases h
 exact fe
 apply Eso
 refine WQ qi ?_
 apply WM
 refine Wk [1, 2, 47] [1, 2] ?_
 (try dsimp)
 refine Ec h rfl (fun h hc6 => ?_) (fun h hc6 => ?_)
 apply Eso
 refine WQ qap ?_
 refine WQ ql1 ?_
 refine WQ qap ?_
 refine WQ qlA ?_
 refine WQ qbu ?_
 refine W1 dst ?_
 refine Wk [2] [2] ?_
 (try dsimp)
 apply bD
 cases h
 exact fe
 apply bf
 refine aX [2] [2] ?_
 (try dsimp)
 apply Eso
 refine WQ qbu ?_
 refine W1 dst ?_
 refine Wk [2] [2] ?_
 (try dsimp)
 apply bD
 cases h
 exact fe
def KT : cO := (q [o (.mv (cb nn)) 6] (q [w 7 0, w 8 1, o (.bin .geq 3 7 8) 9, w 10 9, g_ (.mv 0) 11 10 yy, g_ (.mv 2) 12 10 yy, g_ (.bin .leq 3 11 12) 13 10 yy, o (.pick 10 13 (cb nn)) 14, w 6 14] .ret))
theorem UH : Fits Tryz.prog 138 3 KT [(.tmp 6)] := fk Tryz.func138
theorem vM (F : Nat) (a0 : Int) (a1 : Int) (a2 : Int) (r : Bool) (h : nJ F a0 a1 a2 = some r) : PC Tryz.prog 138 [(zi_ a0), (zi_ a1), (zi_ a2)] (zb_ r) := by
 unfold nJ at h
 refine eu UH rfl rfl ?_
 intro C hP
 unfold KT; dsimp
 apply Eso
 apply WM
 refine Wk [0, 1, 2] [] ?_
 apply Eso
 apply WM
 apply WM
 refine WQ qi ?_
 apply WM
 apply aF
 rfl
 intro b
 try rw [b]
 exact qm
 apply aF
 rfl
 intro b
 try rw [b]
 exact qm
 apply aF
 rfl
 intro b
 try rw [b]
 exact qi
 refine WQ qan ?_
 apply WM
 refine Wk [6] [] ?_
 apply bD
 cases h
 exact fe
def Gw : cO := (q [o (.box 122 0) 1, o (.mv (cb nn)) 2] (.seq (.seq (.draw [((o (.load yy 13 1) 3), []), ((o (.call 137 [3]) 4), [0]), ((o (.load yy 13 1) 5), []), ((o (.eqA yy 122 4 5) 6), [1, 2])]) (.cond 6 (q [o (.mv (cb nn)) 2] .ret) .skip)) (.seq (q [o (.add 0 1) 7, o (.load nn 1 7) 8] (.block 0 (q [o (.bin .eql 3 8 (ci 1)) 10, w 9 10] (.cond 9 (q [o (.add 3 1) 11, o (.load nn 1 11) 12, o (.call 138 [12, ci 1, ci 4096]) 13, w 14 13, g_ (.add 4 1) 15 14 yy, g_ (.load nn 1 15) 16 14 yy, g_ (.add 3 1) 17 14 yy, g_ (.load nn 1 17) 18 14 yy, g_ (.call 138 [16, ci 0, 18]) 19 14 yy, o (.pick 14 19 (cb nn)) 20, w 2 20] .ret) (q [o (.bin .eql 3 8 (ci 2)) 22, w 21 22] (.cond 21 (.seq (.draw [((o (.add 1 1) 23), []), ((o (.load nn 1 23) 24), [0]), ((o (.call 138 [24, ci 1, ci 4]) 25), [1]), ((w 26 25), [2, 2]), ((g_ (.add 2 1) 27 26 yy), [3]), ((g_ (.load nn 1 27) 28 26 yy), [4, 3]), ((g_ (.add 1 1) 29 26 yy), [3]), ((g_ (.load nn 1 29) 30 26 yy), [6, 3]), ((g_ (.bin .shl 3 (ci 1) 30) 31 26 yy), [7, 3]), ((g_ (.bin .sub 3 (ci 96) 31) 32 26 yy), [8, 3]), ((g_ (.call 138 [28, ci 0, 32]) 33 26 yy), [5, 9, 3, 3]), ((o (.pick 26 33 (cb nn)) 34), [3, 10]), ((w 2 34), [11, 10, 0, 1, 2, 3, 4, 5, 6, 7, 8, 9, 10, 11])]) .ret) (q [o (.bin .eql 3 8 (ci 3)) 36, w 35 36] (.cond 35 (q [o (.add 6 1) 37, o (.load nn 1 37) 38, o (.call 138 [38, ci 0, ci 65535]) 39, w 40 39, g_ (.add 5 1) 41 40 yy, g_ (.load nn 1 41) 42 40 yy, g_ (.call 138 [42, ci 0, ci 96]) 43 40 yy, o (.pick 40 43 (cb nn)) 44, w 2 44] .ret) .skip)))))))) (q [o (.mv (cb yy)) 2] .ret))))
theorem Qb : Fits Tryz.prog 100 1 Gw [(.tmp 2)] := fk Tryz.func100
theorem AA (F : Nat) (a0 : aH) (r : Bool) (h : jH F a0 = some r) : PC Tryz.prog 100 [S.agg [vi a0.xType, vi a0.iY, vi a0.jw, vi a0.mM, vi a0.nK, vi a0.eH, vi a0.gI, vb a0.qJ, vu a0.lD, vu a0.dn.c0, vu a0.dn.c1, vu a0.dn.c2, vu a0.dn.c3]] (zb_ r) := by
 unfold jH at h
 refine eu Qb rfl rfl ?_
 intro C hP
 unfold Gw; dsimp
 apply Eso
 refine W1 dbx ?_
 apply WM
 refine Wk [1] [1] ?_
 (try dsimp)
 apply bG
 apply bG
 obtain ⟨x1, x1h, h⟩ := aG h
 refine ig [0, 2, 3] ?_
 refine XQ 0 rfl rfl rfl qlA ?_
 refine XQ 2 rfl rfl rfl qlA ?_
 refine X1 rfl (XK rfl (dc1 hP (Si F a0 x1 x1h)) ?_)
 refine XQ 3 rfl rfl rfl (rJ hP Qa rfl rfl rfl rfl ⟨rfl, ⟨rfl, ⟨rfl, ⟨rfl, ⟨rfl, ⟨rfl, ⟨rfl, ⟨trivial, ⟨rfl, ⟨rfl, ⟨rfl, ⟨rfl, ⟨rfl, trivial⟩⟩⟩⟩⟩⟩⟩⟩⟩⟩⟩⟩⟩) ?_
 refine dL rfl ?_
 refine aX [1, 6] [1] ?_
 (try dsimp)
 refine Ec h rfl (fun h hc2 => ?_) (fun h hc2 => ?_)
 apply Eso
 apply WM
 refine Wk [2] [] ?_
 (try dsimp)
 apply bD
 cases h
 exact fe
 apply bf
 refine aX [1] [1] ?_
 (try dsimp)
 apply bG
 apply Eso
 refine WQ qap ?_
 refine WQ ql1 ?_
 refine Wk [1, 8] [1] ?_
 (try dsimp)
 apply bT
 apply Eso
 refine WQ qi ?_
 apply WM
 refine Wk [1, 8, 9] [1] ?_
 (try dsimp)
 refine Ec h rfl (fun h hc3 => ?_) (fun h hc3 => ?_)
 apply Eso
 refine WQ qap ?_
 refine WQ ql1 ?_
 obtain ⟨x4, x4h, h⟩ := aG h
 refine W1 (dc1 hP (vM F a0.mM (1 : Int) (4096 : Int) x4 x4h)) ?_
 apply WM
 apply aF
 rfl
 intro b
 try rw [b]
 exact qap
 apply aF
 rfl
 intro b
 try rw [b]
 exact ql1
 apply aF
 rfl
 intro b
 try rw [b]
 exact qap
 apply aF
 rfl
 intro b
 try rw [b]
 exact ql1
 obtain ⟨x5, x5h, h⟩ := aG h
 apply iM
 rfl
 intro hB; (try rw [hB]); exact dc1 hP (vM F a0.nK (0 : Int) a0.mM x5 (jA x5h (bt hB)))
 refine WQ qan ?_
 apply WM
 refine Wk [2] [] ?_
 (try dsimp)
 apply bD
 cases h
 exact fe
 apply Eso
 refine WQ qi ?_
 apply WM
 refine Wk [1, 8, 21] [1] ?_
 (try dsimp)
 refine Ec h rfl (fun h hc6 => ?_) (fun h hc6 => ?_)
 apply bG
 obtain ⟨x7, x7h, h⟩ := aG h
 obtain ⟨g8, h⟩ := aQ h
 obtain ⟨g9, h⟩ := aQ h
 obtain ⟨x10, KU, h⟩ := aG h
 refine ig [0, 1, 3, 4, 5, 6, 7, 8, 9, 11, 12] ?_
 refine XQ 0 rfl rfl rfl qap ?_
 refine XQ 1 rfl rfl rfl ql1 ?_
 refine X1 rfl (XK rfl (dc1 hP (vM F a0.iY (1 : Int) (4 : Int) x7 x7h)) ?_)
 refine XQ 3 rfl rfl rfl qm ?_
 apply fO 4
 rfl
 rfl
 rfl
 rfl
 intro hB; (try rw [hB]); exact qap
 apply fO 5
 rfl
 rfl
 rfl
 rfl
 intro hB; (try rw [hB]); exact ql1
 apply fO 6
 rfl
 rfl
 rfl
 rfl
 intro hB; (try rw [hB]); exact qap
 apply fO 7
 rfl
 rfl
 rfl
 rfl
 intro hB; (try rw [hB]); exact ql1
 apply fO 8
 rfl
 rfl
 rfl
 rfl
 intro hB; (try rw [hB]); exact wC rfl rfl (g8 hB)
 apply fO 9
 rfl
 rfl
 rfl
 rfl
 intro hB; (try rw [hB]); exact qsu (g9 hB)
 (try dsimp)
 refine X1 rfl ?_
 apply AB
 rfl
 rfl
 intro hB; (try rw [hB]); exact dc1 hP (vM F a0.jw (0 : Int) ((96 : Int) - (pF .i64 (1 : Int) a0.iY)) x10 (jA KU (bt hB)))
 refine XQ 11 rfl rfl rfl qan ?_
 refine XQ 12 rfl rfl rfl qm ?_
 refine dL rfl ?_
 refine aX [2] [] ?_
 (try dsimp)
 apply bD
 cases h
 exact fe
 apply Eso
 refine WQ qi ?_
 apply WM
 refine Wk [1, 35] [1] ?_
 (try dsimp)
 refine Ec h rfl (fun h Y2 => ?_) (fun h Y2 => ?_)
 apply Eso
 refine WQ qap ?_
 refine WQ ql1 ?_
 obtain ⟨x12, Sj, h⟩ := aG h
 refine W1 (dc1 hP (vM F a0.gI (0 : Int) (65535 : Int) x12 Sj)) ?_
 apply WM
 apply aF
 rfl
 intro b
 try rw [b]
 exact qap
 apply aF
 rfl
 intro b
 try rw [b]
 exact ql1
 obtain ⟨x13, Io, h⟩ := aG h
 apply iM
 rfl
 intro hB; (try rw [hB]); exact dc1 hP (vM F a0.eH (0 : Int) (96 : Int) x13 (jA Io (bt hB)))
 refine WQ qan ?_
 apply WM
 refine Wk [2] [] ?_
 (try dsimp)
 apply bD
 cases h
 exact fe
 apply bf
 refine aX [] [] ?_
 (try dsimp)
 apply Eso
 apply WM
 apply bW
 (try dsimp)
 apply bD
 cases h
 exact fe
def Je : cO := (q [o (.jm [zi, zi, zi, zi, zi, zi, zi, zb, zu, zu, zu, zu, zu]) 6, o (.mv (cb nn)) 7] (q [w 9 0, o (.build [zi, zi, zi, zi, zi, zi, zi, zb, zu, zu, zu, zu, zu] [(0, (1, 9))]) 10, o (.jm [zi, zi, zi, zi, zi, zi, zi, zb, zu, zu, zu, zu, zu]) 8, n_ (.store 13 8 10)] (.seq (q [w 11 0] (.block 0 (q [o (.bin .eql 3 11 (ci 1)) 14, w 13 14] (.cond 13 (.ops [w 15 1, o (.add 3 8) 16, n_ (.store 1 16 15)]) (q [o (.bin .eql 3 11 (ci 2)) 18, w 17 18] (.cond 17 (.ops [w 19 1, w 20 2, o (.add 1 8) 21, n_ (.store 1 21 19), o (.add 2 8) 22, n_ (.store 1 22 20)]) (.seq (q [o (.bin .eql 3 11 (ci 3)) 24, w 23 24] (.cond 23 .skip (q [o (.bin .eql 3 11 (ci 4)) 25, w 23 25] (.cond 23 .skip (.ops [o (.bin .eql 3 11 (ci 5)) 26, w 23 26]))))) (.cond 23 .skip (q [o (.build [zi, zi, zi, zi, zi, zi, zi, zb, zu, zu, zu, zu, zu] []) 12, n_ (.store 13 6 12), o (.mv (cb nn)) 7] .ret))))))))) (.seq (q [o (.load yy 13 8) 27, o (.call 100 [27]) 28, o (.un .not 28) 29] (.cond 29 (q [o (.build [zi, zi, zi, zi, zi, zi, zi, zb, zu, zu, zu, zu, zu] []) 30, n_ (.store 13 6 30), o (.mv (cb nn)) 7] .ret) .skip)) (q [o (.load yy 13 8) 31, n_ (.store 13 6 31), o (.mv (cb yy)) 7] .ret)))))
theorem Sl : Fits Tryz.prog 60 3 Je [(.cell true 13 6), (.tmp 7)] := fk Tryz.func60
theorem CQ (F : Nat) (a0 : Int) (a1 : Int) (a2 : Int) (r : aH × Bool) (h : nC F a0 a1 a2 = some r) : PC Tryz.prog 60 [(zi_ a0), (zi_ a1), (zi_ a2)] (S.tup [S.agg [vi r.1.xType, vi r.1.iY, vi r.1.jw, vi r.1.mM, vi r.1.nK, vi r.1.eH, vi r.1.gI, vb r.1.qJ, vu r.1.lD, vu r.1.dn.c0, vu r.1.dn.c1, vu r.1.dn.c2, vu r.1.dn.c3], (zb_ r.2)]) := by
 unfold nC at h
 refine eu Sl rfl rfl ?_
 intro C hP
 unfold Je; dsimp
 apply Eso
 refine W1 dnv ?_
 apply WM
 refine Wk [0, 1, 2, 6] [6] ?_
 (try dsimp)
 apply Eso
 apply WM
 refine WQ qbu ?_
 refine W1 dnv ?_
 refine W1 dst ?_
 refine Wk [0, 1, 2, 6, 8] [6, 8] ?_
 (try dsimp)
 obtain ⟨k4, k4d, h⟩ := eX h
 refine dJ (fun (i : Int × Int × Int) => ⟨[(6, S.one (.ptr 6 0)), (8, S.one (.ptr 8 0))], [(6, ⟨true, [vi (0 : Int), vi (0 : Int), vi (0 : Int), vi (0 : Int), vi (0 : Int), vi (0 : Int), vi (0 : Int), vb false, vu (0 : Int), vu (0 : Int), vu (0 : Int), vu (0 : Int), vu (0 : Int)]⟩), (8, ⟨true, [vi a0, vi i.1, vi i.2.1, vi i.2.2, vi (0 : Int), vi (0 : Int), vi (0 : Int), vb false, vu (0 : Int), vu (0 : Int), vu (0 : Int), vu (0 : Int), vu (0 : Int)]⟩)]⟩) (fun i => k4 i.1 i.2.1 i.2.2 = some r) (fun i h => ?_) ?_
 obtain ⟨v1, v2, v3⟩ := i
 rw [k4d] at h; dsimp only at h
 (try dsimp)
 apply bG
 apply Eso
 refine WQ qlA ?_
 obtain ⟨x5, x5h, h⟩ := aG h
 refine W1 (dc1 hP (AA F (⟨a0, v1, v2, v3, (0 : Int), (0 : Int), (0 : Int), false, (0 : Int), (⟨(0 : Int), (0 : Int), (0 : Int), (0 : Int)⟩ : V4 Int)⟩ : aH) x5 x5h)) ?_
 refine WQ qno ?_
 refine Wk [6, 8, 29] [6, 8] ?_
 (try dsimp)
 refine Ec h rfl (fun h hc6 => ?_) (fun h hc6 => ?_)
 apply Eso
 refine WQ qbu ?_
 refine W1 dst ?_
 apply WM
 refine Wk [6, 7] [6] ?_
 (try dsimp)
 apply bD
 cases h
 exact fe
 apply bf
 refine aX [6, 8] [6, 8] ?_
 (try dsimp)
 apply Eso
 refine WQ qlA ?_
 refine W1 dst ?_
 apply WM
 refine Wk [6, 7] [6] ?_
 (try dsimp)
 apply bD
 cases h
 exact fe
 apply Eso
 apply WM
 refine Wk [1, 2, 6, 8, 11] [6, 8] ?_
 (try dsimp)
 apply bT
 apply Eso
 refine WQ qi ?_
 apply WM
 refine Wk [1, 2, 6, 8, 11, 13] [6, 8] ?_
 (try dsimp)
 refine Ec h rfl (fun h hc7 => ?_) (fun h hc7 => ?_)
 apply dO
 apply WM
 refine WQ qap ?_
 refine W1 dst ?_
 apply bW
 refine ⟨((0 : Int), (0 : Int), a1), h, ?_⟩
 exact LB
 apply Eso
 refine WQ qi ?_
 apply WM
 refine Wk [1, 2, 6, 8, 11, 17] [6, 8] ?_
 (try dsimp)
 refine Ec h rfl (fun h hc8 => ?_) (fun h hc8 => ?_)
 apply dO
 apply WM
 apply WM
 refine WQ qap ?_
 refine W1 dst ?_
 refine WQ qap ?_
 refine W1 dst ?_
 apply bW
 refine ⟨(a1, a2, (0 : Int)), h, ?_⟩
 exact LB
 obtain ⟨k10, abG, h⟩ := eX h
 refine dJ (fun (i : Bool) => ⟨[(6, S.one (.ptr 6 0)), (8, S.one (.ptr 8 0)), (23, zb_ i)], [(6, ⟨true, [vi (0 : Int), vi (0 : Int), vi (0 : Int), vi (0 : Int), vi (0 : Int), vi (0 : Int), vi (0 : Int), vb false, vu (0 : Int), vu (0 : Int), vu (0 : Int), vu (0 : Int), vu (0 : Int)]⟩), (8, ⟨true, [vi a0, vi (0 : Int), vi (0 : Int), vi (0 : Int), vi (0 : Int), vi (0 : Int), vi (0 : Int), vb false, vu (0 : Int), vu (0 : Int), vu (0 : Int), vu (0 : Int), vu (0 : Int)]⟩)]⟩) (fun i => k10 i = some r) (fun i h => ?_) ?_
 let iv := i; change k10 i = some r at h; generalize i = v9 at h ⊢
 rw [abG] at h; dsimp only at h
 (try dsimp)
 refine Ec h rfl (fun h Y2 => ?_) (fun h Y2 => ?_)
 apply bf
 refine ⟨((0 : Int), (0 : Int), (0 : Int)), h, ?_⟩
 exact LB
 apply Eso
 refine WQ qbu ?_
 refine W1 dst ?_
 apply WM
 refine Wk [6, 7] [6] ?_
 (try dsimp)
 apply bD
 cases h
 exact fe
 apply Eso
 refine WQ qi ?_
 apply WM
 refine Wk [6, 8, 11, 23] [6, 8] ?_
 (try dsimp)
 refine Ec h rfl (fun h hc12 => ?_) (fun h hc12 => ?_)
 apply bf
 refine ⟨(a0 == (3 : Int)), h, ?_⟩
 exact LB
 apply Eso
 refine WQ qi ?_
 apply WM
 refine Wk [6, 8, 11, 23] [6, 8] ?_
 (try dsimp)
 refine Ec h rfl (fun h hc13 => ?_) (fun h hc13 => ?_)
 apply bf
 refine ⟨(a0 == (4 : Int)), h, ?_⟩
 exact LB
 apply dO
 refine WQ qi ?_
 apply WM
 apply bW
 refine ⟨(a0 == (5 : Int)), h, ?_⟩
 exact LB
def Sm : cO := (q [o (.mv (cb nn)) 6] (q [w 7 0, w 8 1, o (.bin .geq 3 7 8) 9, w 10 9, g_ (.mv 0) 11 10 yy, g_ (.mv 2) 12 10 yy, g_ (.bin .leq 3 11 12) 13 10 yy, o (.pick 10 13 (cb nn)) 14, w 6 14] .ret))
theorem Y3 : Fits Tryz.prog 53 3 Sm [(.tmp 6)] := fk Tryz.func53
theorem xY (F : Nat) (a0 : Int) (a1 : Int) (a2 : Int) (r : Bool) (h : oD F a0 a1 a2 = some r) : PC Tryz.prog 53 [(zi_ a0), (zi_ a1), (zi_ a2)] (zb_ r) := by
 unfold oD at h
 refine eu Y3 rfl rfl ?_
 intro C hP
 unfold Sm; dsimp
 apply Eso
 apply WM
 refine Wk [0, 1, 2] [] ?_
 apply Eso
 apply WM
 apply WM
 refine WQ qi ?_
 apply WM
 apply aF
 rfl
 intro b
 try rw [b]
 exact qm
 apply aF
 rfl
 intro b
 try rw [b]
 exact qm
 apply aF
 rfl
 intro b
 try rw [b]
 exact qi
 refine WQ qan ?_
 apply WM
 refine Wk [6] [] ?_
 apply bD
 cases h
 exact fe
def KW : cO := (q [o (.box 30 0) 1, o (.mv (cb nn)) 2] (q [o (.add 0 1) 3, o (.load nn 1 3) 4, o (.call 53 [4, ci 1, ci 4]) 5, w 6 5, g_ (.add 1 1) 7 6 yy, g_ (.load nn 1 7) 8 6 yy, g_ (.add 0 1) 9 6 yy, g_ (.load nn 1 9) 10 6 yy, g_ (.bin .mul 3 (ci 8) 10) 11 6 yy, g_ (.call 53 [8, 11, ci 96]) 12 6 yy, o (.pick 6 12 (cb nn)) 13, w 14 13, g_ (.add 1 1) 15 14 yy, g_ (.load nn 1 15) 16 14 yy, g_ (.bin .rem 3 16 (ci 8)) 17 14 yy, g_ (.bin .eql 3 17 (ci 0)) 18 14 yy, o (.pick 14 18 (cb nn)) 19, w 20 19, g_ (.add 2 1) 21 20 yy, g_ (.load nn 1 21) 22 20 yy, g_ (.add 0 1) 23 20 yy, g_ (.load nn 1 23) 24 20 yy, g_ (.bin .add 3 24 (ci 2)) 25 20 yy, g_ (.call 53 [22, 25, ci 48]) 26 20 yy, o (.pick 20 26 (cb nn)) 27, w 2 27] .ret))
theorem UJ : Fits Tryz.prog 52 1 KW [(.tmp 2)] := fk Tryz.func52
theorem nR (F : Nat) (a0 : aJ) (r : Bool) (h : jF F a0 = some r) : PC Tryz.prog 52 [S.agg [vi a0.ak, vi a0.ay, vi a0.aA]] (zb_ r) := by
 unfold jF at h
 refine eu UJ rfl rfl ?_
 intro C hP
 unfold KW; dsimp
 apply Eso
 refine W1 dbx ?_
 apply WM
 refine Wk [1] [1] ?_
 (try dsimp)
 apply Eso
 refine WQ qap ?_
 refine WQ ql1 ?_
 obtain ⟨x1, x1h, h⟩ := aG h
 refine W1 (dc1 hP (xY F a0.ak (1 : Int) (4 : Int) x1 x1h)) ?_
 apply WM
 apply aF
 rfl
 intro b
 try rw [b]
 exact qap
 apply aF
 rfl
 intro b
 try rw [b]
 exact ql1
 apply aF
 rfl
 intro b
 try rw [b]
 exact qap
 apply aF
 rfl
 intro b
 try rw [b]
 exact ql1
 obtain ⟨g2, h⟩ := aQ h
 apply aF
 rfl
 intro b
 try rw [b]
 exact qmu (g2 b)
 obtain ⟨x3, x3h, h⟩ := aG h
 apply iM
 rfl
 intro hB; (try rw [hB]); exact dc1 hP (xY F a0.ay ((8 : Int) * a0.ak) (96 : Int) x3 (jA x3h (bt hB)))
 refine WQ qan ?_
 apply WM
 apply aF
 rfl
 intro b
 try rw [b]
 exact qap
 apply aF
 rfl
 intro b
 try rw [b]
 exact ql1
 apply aF
 rfl
 intro b
 try rw [b]
 exact qi
 apply aF
 rfl
 intro b
 try rw [b]
 exact qi
 refine WQ qan ?_
 apply WM
 apply aF
 rfl
 intro b
 try rw [b]
 exact qap
 apply aF
 rfl
 intro b
 try rw [b]
 exact ql1
 apply aF
 rfl
 intro b
 try rw [b]
 exact qap
 apply aF
 rfl
 intro b
 try rw [b]
 exact ql1
 obtain ⟨g4, h⟩ := aQ h
 apply aF
 rfl
 intro b
 try rw [b]
 exact qad (g4 b)
 obtain ⟨x5, x5h, h⟩ := aG h
 apply iM
 rfl
 intro hB; (try rw [hB]); exact dc1 hP (xY F a0.aA (a0.ak + (2 : Int)) (48 : Int) x5 (jA x5h (bt hB)))
 refine WQ qan ?_
 apply WM
 refine Wk [2] [] ?_
 (try dsimp)
 apply bD
 cases h
 exact fe
def KX : cO := (q [o (.box 30 0) 2, o (.mv (ci 0)) 4] (.seq (q [o (.load yy 3 2) 5, o (.call 52 [5]) 6, o (.un .not 6) 7, w 8 7, g_ (.mv 1) 9 8 nn, g_ (.add 0 2) 10 8 nn, g_ (.load nn 1 10) 11 8 nn, g_ (.bin .sub 3 11 (ci 1)) 12 8 nn, g_ (.call 53 [9, ci 0, 12]) 13 8 nn, g_ (.un .not 13) 14 8 nn, o (.pick 8 (cb yy) 14) 15] (.cond 15 (q [o (.mv (ci 0)) 4] .ret) .skip)) (q [w 16 1, o (.bin .mul 3 (ci 8) 16) 17, w 4 17] .ret)))
theorem UK : Fits Tryz.prog 61 2 KX [(.tmp 4)] := fk Tryz.func61
theorem Fg (F : Nat) (a0 : aJ) (a1 : Int) (r : Int) (h : tK F a0 a1 = some r) : PC Tryz.prog 61 [S.agg [vi a0.ak, vi a0.ay, vi a0.aA], (zi_ a1)] (zi_ r) := by
 unfold tK at h
 refine eu UK rfl rfl ?_
 intro C hP
 unfold KX; dsimp
 apply Eso
 refine W1 dbx ?_
 apply WM
 refine Wk [1, 2] [2] ?_
 apply bG
 apply Eso
 refine WQ qlA ?_
 obtain ⟨x1, x1h, h⟩ := aG h
 refine W1 (dc1 hP (nR F a0 x1 x1h)) ?_
 refine WQ qno ?_
 apply WM
 apply aF
 rfl
 intro b
 try rw [b]
 exact qm
 apply aF
 rfl
 intro b
 try rw [b]
 exact qap
 apply aF
 rfl
 intro b
 try rw [b]
 exact ql1
 obtain ⟨g2, h⟩ := aQ h
 apply aF
 rfl
 intro b
 try rw [b]
 exact qsu (g2 b)
 obtain ⟨x3, x3h, h⟩ := aG h
 apply iM
 rfl
 intro hB; (try rw [hB]); exact dc1 hP (xY F a1 (0 : Int) (a0.ak - (1 : Int)) x3 (jA x3h (bt hB)))
 apply aF
 rfl
 intro b
 try rw [b]
 exact qno
 refine WQ qor ?_
 refine Wk [1, 15] [] ?_
 refine Ec h rfl (fun h hc4 => ?_) (fun h hc4 => ?_)
 apply Eso
 apply WM
 refine Wk [4] [] ?_
 apply bD
 cases h
 exact fe
 apply bf
 refine aX [1] [] ?_
 apply Eso
 apply WM
 obtain ⟨g5, h⟩ := aQ h
 refine WQ (qmu g5) ?_
 apply WM
 refine Wk [4] [] ?_
 apply bD
 cases h
 exact fe
def Jf : cO := (q [o (.box 30 0) 2, o (.jm [zi, zi, zi, .nil, .nil]) 4, o (.mv (ci 0)) 5] (q [w 14 1, o (.call 60 [ci 1, 14, ci 0]) 15, w 13 15, o (.ext 0 13) 16, o (.ext 1 13) 17, o (.jm [zi, zi, zi, zi, zi, zi, zi, zb, zu, zu, zu, zu, zu]) 6, n_ (.store 13 6 16), w 7 17] (.seq (q [o (.load yy 3 2) 18, o (.call 52 [18]) 19, o (.un .not 19) 20, w 21 20, g_ (.mv 7) 22 21 nn, g_ (.un .not 22) 23 21 nn, o (.pick 21 (cb yy) 23) 24] (.cond 24 (q [o (.build [zi, zi, zi, .nil, .nil] []) 25, n_ (.store 5 4 25), o (.mv (ci 1)) 5] .ret) .skip)) (.seq (.draw [((o (.load yy 3 2) 26), []), ((o (.add 1 2) 27), []), ((o (.load nn 1 27) 28), [1]), ((o (.mk 70 128 5 40 [zi, zi, zi, zi, zi] 28 28) 29), [2, 2]), ((o (.add 2 2) 30), []), ((o (.load nn 1 30) 31), [4]), ((o (.mk 71 122 13 104 [zi, zi, zi, zi, zi, zi, zi, zb, zu, zu, zu, zu, zu] 31 31) 32), [5, 5]), ((o (.build [zi, zi, zi, .nil, .nil] [(0, (3, 26)), (3, (1, 29)), (4, (1, 32))]) 33), [0, 3, 6]), ((o (.jm [zi, zi, zi, .nil, .nil]) 8), []), ((n_ (.store 5 8 33)), [8, 7, 0, 1, 2, 3, 4, 5, 6, 7, 8])]) (.seq (q [o (.add 3 8) 34, o (.load nn 1 34) 35, o (.len nn 35) 36, o (.mv (ci 0)) 37] (.block 0 (.loop (q [o (.bin .lss 3 37 36) 38] (.seq (.cond 38 .skip (.exit 0)) (.seq (.block 1 (q [w 39 37, w 9 39] (.ops [o (.add 3 8) 40, o (.load nn 1 40) 41, w 42 9, o (.fH 5 41 42) 43, o (.add 4 43) 44, n_ (.store 1 44 (.const (.int .i64 (-1))))]))) (.ops [o (.bin .add 3 37 (ci 1)) 45, w 37 45]))))))) (q [o (.add 4 8) 46, o (.load nn 1 46) 47, o (.load yy 13 6) 48, o (.fH 13 47 (ci 0)) 49, n_ (.store 13 49 48)] (.seq (.draw [((o (.add 4 8) 51), []), ((o (.load nn 1 51) 52), [0]), ((o (.call 60 [ci 3, ci 0, ci 0]) 53), []), ((w 50 53), [2]), ((o (.ext 0 50) 54), [3]), ((o (.ext 1 50) 55), [3]), ((o (.fH 13 52 (ci 1)) 56), [1, 0, 1, 2, 3, 4]), ((n_ (.store 13 56 54)), [6, 4, 2, 0, 1, 2, 3, 4])]) (q [o (.load yy 3 2) 57, o (.call 61 [57, ci 0]) 58, w 10 58] (q [o (.add 3 8) 59, o (.load nn 1 59) 60, w 61 10, o (.build [zi, zi, zi, zi] [(0, (1, (ci 1))), (1, (1, (ci 0))), (2, (1, (ci 7)))]) 62, o (.fH 5 60 61) 63, o (.add 0 63) 64, n_ (.store 4 64 62)] (.seq (q [o (.add 0 2) 65, o (.load nn 1 65) 66, o (.mv (ci 0)) 67] (.block 2 (.loop (q [o (.bin .lss 3 67 66) 68] (.seq (.cond 68 .skip (.exit 2)) (.seq (.block 3 (q [w 69 67, w 11 69] (q [o (.load yy 3 2) 70, w 71 11, o (.call 61 [70, 71]) 72, w 12 72] (.seq (.draw [((o (.add 4 8) 74), []), ((o (.load nn 1 74) 75), [0]), ((w 76 11), []), ((o (.bin .add 3 (ci 2) 76) 77), [2]), ((w 78 12), []), ((o (.call 60 [ci 2, ci 3, 78]) 79), [4]), ((w 73 79), [5]), ((o (.ext 0 73) 80), [6]), ((o (.ext 1 73) 81), [6]), ((o (.fH 13 75 77) 82), [1, 3, 0, 1, 2, 3, 4, 5, 6, 7]), ((n_ (.store 13 82 80)), [9, 7, 5, 0, 1, 2, 3, 4, 5, 6, 7])]) (.ops [o (.add 3 8) 83, o (.load nn 1 83) 84, w 85 12, o (.bin .add 3 85 (ci 1)) 86, o (.build [zi, zi, zi, zi] [(0, (1, (ci 3))), (1, (1, (ci 1))), (2, (1, (ci 7)))]) 87, w 88 10, o (.bin .add 3 88 (ci 1)) 89, o (.build [zi, zi, zi, zi, zi] [(0, (4, 87)), (4, (1, 89))]) 90, o (.fH 5 84 86) 91, n_ (.store 5 91 90)]))))) (.ops [o (.bin .add 3 67 (ci 1)) 92, w 67 92]))))))) (q [o (.add 3 8) 93, o (.load nn 1 93) 94, w 95 10, o (.bin .add 3 95 (ci 1)) 96, o (.fH 5 94 96) 97, o (.add 4 97) 98, n_ (.store 1 98 (.const (.int .i64 (-1))))] (q [o (.load yy 5 8) 99, n_ (.store 5 4 99), o (.mv (ci 0)) 5] .ret))))))))))))
theorem Sr : Fits Tryz.prog 27 2 Jf [(.cell true 5 4), (.tmp 5)] := fk Tryz.func27
theorem CS (F : Nat) (a0 : aJ) (a1 : Int) (r : aI × Int) (h : qZ F a0 a1 = some r) : PC Tryz.prog 27 [S.agg [vi a0.ak, vi a0.ay, vi a0.aA], (zi_ a1)] (S.tup [S.agg [vi r.1.bH.ak, vi r.1.bH.ay, vi r.1.bH.aA, sl aK r.1.ay, sl aS r.1.aA], (zi_ r.2)]) := by
 unfold qZ at h
 refine eu Sr rfl rfl ?_
 intro C hP
 unfold Jf; dsimp
 apply Eso
 refine W1 dbx ?_
 refine W1 dnv ?_
 apply WM
 refine Wk [1, 2, 4] [2, 4] ?_
 (try dsimp)
 apply Eso
 apply WM
 obtain ⟨x1, x1h, h⟩ := aG h
 refine W1 (dc1 hP (CQ F (1 : Int) a1 (0 : Int) x1 x1h)) ?_
 apply WM
 refine WQ qx ?_
 refine WQ qx ?_
 refine W1 dnv ?_
 refine W1 dst ?_
 apply WM
 refine Wk [2, 4, 6, 7] [2, 4, 6] ?_
 (try dsimp)
 apply bG
 apply Eso
 refine WQ qlA ?_
 obtain ⟨x2, x2h, h⟩ := aG h
 refine W1 (dc1 hP (nR F a0 x2 x2h)) ?_
 refine WQ qno ?_
 apply WM
 apply aF
 rfl
 intro b
 try rw [b]
 exact qm
 apply aF
 rfl
 intro b
 try rw [b]
 exact qno
 refine WQ qor ?_
 refine Wk [2, 4, 6, 24] [2, 4, 6] ?_
 (try dsimp)
 refine Ec h rfl (fun h hc3 => ?_) (fun h hc3 => ?_)
 apply Eso
 refine WQ qbu ?_
 refine W1 dst ?_
 apply WM
 refine Wk [4, 5] [4] ?_
 (try dsimp)
 refine dR (ni (q := 4) rfl).b ?_
 (try dsimp)
 apply bD
 cases h
 exact fe
 apply bf
 refine aX [2, 4, 6] [2, 4, 6] ?_
 (try dsimp)
 obtain ⟨k4, k4d, h⟩ := eX h
 refine dJ (fun (i : Unit) => ⟨[(2, S.one (.ptr 2 0)), (4, S.one (.ptr 4 0)), (6, S.one (.ptr 6 0)), (8, S.one (.ptr 8 0))], [(2, ⟨true, [vi a0.ak, vi a0.ay, vi a0.aA]⟩), (4, ⟨true, [vi (0 : Int), vi (0 : Int), vi (0 : Int), .nil, .nil]⟩), (6, ⟨true, [vi x1.1.xType, vi x1.1.iY, vi x1.1.jw, vi x1.1.mM, vi x1.1.nK, vi x1.1.eH, vi x1.1.gI, vb x1.1.qJ, vu x1.1.lD, vu x1.1.dn.c0, vu x1.1.dn.c1, vu x1.1.dn.c2, vu x1.1.dn.c3]⟩), (8, ⟨false, [vi a0.ak, vi a0.ay, vi a0.aA, .own 29 0 (List.replicate a0.ay.toNat (⟨(⟨(0 : Int), (0 : Int), (0 : Int), (0 : Int)⟩ : dS), (0 : Int)⟩ : aZ)).length (some (5, 128)), .own 32 0 (List.replicate a0.aA.toNat (⟨(0 : Int), (0 : Int), (0 : Int), (0 : Int), (0 : Int), (0 : Int), (0 : Int), false, (0 : Int), (⟨(0 : Int), (0 : Int), (0 : Int), (0 : Int)⟩ : V4 Int)⟩ : aH)).length (some (13, 122))]⟩), (29, ⟨true, flat aK (List.replicate a0.ay.toNat (⟨(⟨(0 : Int), (0 : Int), (0 : Int), (0 : Int)⟩ : dS), (0 : Int)⟩ : aZ))⟩), (32, ⟨true, flat aS (List.replicate a0.aA.toNat (⟨(0 : Int), (0 : Int), (0 : Int), (0 : Int), (0 : Int), (0 : Int), (0 : Int), false, (0 : Int), (⟨(0 : Int), (0 : Int), (0 : Int), (0 : Int)⟩ : V4 Int)⟩ : aH))⟩)]⟩) (fun i => k4 () = some r) (fun i h => ?_) ?_
 rw [k4d] at h; dsimp only at h
 (try dsimp)
 obtain ⟨k6, k6d, h⟩ := eX h
 refine dJ (fun (i : (List aZ)) => ⟨[(2, S.one (.ptr 2 0)), (4, S.one (.ptr 4 0)), (6, S.one (.ptr 6 0)), (8, S.one (.ptr 8 0))], [(2, ⟨true, [vi a0.ak, vi a0.ay, vi a0.aA]⟩), (4, ⟨true, [vi (0 : Int), vi (0 : Int), vi (0 : Int), .nil, .nil]⟩), (6, ⟨true, [vi x1.1.xType, vi x1.1.iY, vi x1.1.jw, vi x1.1.mM, vi x1.1.nK, vi x1.1.eH, vi x1.1.gI, vb x1.1.qJ, vu x1.1.lD, vu x1.1.dn.c0, vu x1.1.dn.c1, vu x1.1.dn.c2, vu x1.1.dn.c3]⟩), (8, ⟨false, [vi a0.ak, vi a0.ay, vi a0.aA, .own 29 0 i.length (some (5, 128)), .own 32 0 (List.replicate a0.aA.toNat (⟨(0 : Int), (0 : Int), (0 : Int), (0 : Int), (0 : Int), (0 : Int), (0 : Int), false, (0 : Int), (⟨(0 : Int), (0 : Int), (0 : Int), (0 : Int)⟩ : V4 Int)⟩ : aH)).length (some (13, 122))]⟩), (29, ⟨true, flat aK i⟩), (32, ⟨true, flat aS (List.replicate a0.aA.toNat (⟨(0 : Int), (0 : Int), (0 : Int), (0 : Int), (0 : Int), (0 : Int), (0 : Int), false, (0 : Int), (⟨(0 : Int), (0 : Int), (0 : Int), (0 : Int)⟩ : V4 Int)⟩ : aH))⟩)]⟩) (fun i => k6 i = some r) (fun i h => ?_) ?_
 let iv := i; change k6 i = some r at h; generalize i = v5 at h ⊢
 rw [k6d] at h; dsimp only at h
 (try dsimp)
 apply Eso
 refine WQ qap ?_
 refine WQ ql1 ?_
 refine WQ qlA ?_
 obtain ⟨g7, h⟩ := aQ h
 refine WQ (qio g7) ?_
 refine W1 (dI (e := aS) (n := 13) (k := 13) rfl rfl (fun _ => rfl) g7 0 (by omega) rfl rfl rfl (by decide) x1.1 rfl (by decide) rfl) ?_
 refine Wk [2, 4, 8] [2, 4, 8, 29, 32] ?_
 (try dsimp)
 obtain ⟨k9, k9d, h⟩ := eX h
 refine dJ (fun (i : (List aH)) => ⟨[(2, S.one (.ptr 2 0)), (4, S.one (.ptr 4 0)), (8, S.one (.ptr 8 0))], [(2, ⟨true, [vi a0.ak, vi a0.ay, vi a0.aA]⟩), (4, ⟨true, [vi (0 : Int), vi (0 : Int), vi (0 : Int), .nil, .nil]⟩), (8, ⟨false, [vi a0.ak, vi a0.ay, vi a0.aA, .own 29 0 v5.length (some (5, 128)), .own 32 0 i.length (some (13, 122))]⟩), (29, ⟨true, flat aK v5⟩), (32, ⟨true, flat aS i⟩)]⟩) (fun i => k9 i = some r) (fun i h => ?_) ?_
 let iv := i; change k9 i = some r at h; generalize i = v8 at h ⊢
 rw [k9d] at h; dsimp only at h
 (try dsimp)
 apply Eso
 refine WQ qlA ?_
 obtain ⟨x10, KU, h⟩ := aG h
 refine W1 (dc1 hP (Fg F a0 (0 : Int) x10 KU)) ?_
 apply WM
 refine Wk [2, 4, 8, 10] [2, 4, 8, 29, 32] ?_
 (try dsimp)
 apply Eso
 refine WQ qap ?_
 refine WQ ql1 ?_
 apply WM
 refine WQ qbu ?_
 obtain ⟨g11, h⟩ := aQ h
 refine WQ (qio g11) ?_
 refine WQ qap ?_
 refine W1 (dI (e := aK) (n := 4) (k := 5) rfl rfl (fun _ => rfl) g11 0 (by omega) rfl rfl rfl (by decide) (⟨(⟨(1 : Int), (0 : Int), (7 : Int), (0 : Int)⟩ : dS), (nth v5 x10).xUp⟩ : aZ) rfl (by decide) rfl) ?_
 refine Wk [2, 4, 8, 10] [2, 4, 8, 29, 32] ?_
 (try dsimp)
 obtain ⟨k14, abH, h⟩ := eX h
 refine dJ (fun (i : (List aH) × (List aZ)) => ⟨[(4, S.one (.ptr 4 0)), (8, S.one (.ptr 8 0)), (10, zi_ x10)], [(4, ⟨true, [vi (0 : Int), vi (0 : Int), vi (0 : Int), .nil, .nil]⟩), (8, ⟨false, [vi a0.ak, vi a0.ay, vi a0.aA, .own 29 0 i.2.length (some (5, 128)), .own 32 0 i.1.length (some (13, 122))]⟩), (29, ⟨true, flat aK i.2⟩), (32, ⟨true, flat aS i.1⟩)]⟩) (fun i => k14 i.1 i.2 = some r) (fun i h => ?_) ?_
 obtain ⟨v12, v13⟩ := i
 rw [abH] at h; dsimp only at h
 (try dsimp)
 apply Eso
 refine WQ qap ?_
 refine WQ ql1 ?_
 apply WM
 obtain ⟨g15, h⟩ := aQ h
 refine WQ (qad g15) ?_
 obtain ⟨g16, h⟩ := aQ h
 refine WQ (qio g16) ?_
 refine WQ qap ?_
 refine W1 (dI (e := aK) (n := 1) (k := 5) rfl rfl (fun _ => rfl) g16 4 (by omega) rfl rfl rfl (by decide) (⟨(nth v13 (x10 + (1 : Int))).gY, (-1 : Int)⟩ : aZ) rfl (by decide) rfl) ?_
 refine Wk [4, 8] [4, 8, 29, 32] ?_
 (try dsimp)
 apply Eso
 refine WQ qlA ?_
 refine W1 dst ?_
 apply WM
 refine Wk [4, 5] [4, 29, 32] ?_
 (try dsimp)
 obtain ⟨g17, h⟩ := aQ h
 refine dR (fK (r := 4) rfl (congrArg (fun n_ => ⟨false, [vi a0.ak, vi a0.ay, vi a0.aA, .own 29 0 n_ (some (5, 128)), .own 32 0 v12.length (some (13, 122))]⟩) g17)).b ?_
 (try dsimp)
 refine dR (kY (r := 29) rfl rfl).b ?_
 (try dsimp)
 refine dR (kY (r := 32) rfl rfl).b ?_
 (try dsimp)
 apply bD
 cases h
 exact fe
 apply Eso
 refine WQ qap ?_
 refine WQ ql1 ?_
 apply WM
 refine Wk [2, 4, 8, 10, 66, 67] [2, 4, 8, 29, 32] ?_
 (try dsimp)
 apply bT
 (try dsimp)
 refine eG (fun (i : Int × (List aH) × (List aZ)) => ⟨[(2, S.one (.ptr 2 0)), (4, S.one (.ptr 4 0)), (8, S.one (.ptr 8 0)), (10, zi_ x10), (66, zi_ a0.ak), (67, zi_ i.1)], [(2, ⟨true, [vi a0.ak, vi a0.ay, vi a0.aA]⟩), (4, ⟨true, [vi (0 : Int), vi (0 : Int), vi (0 : Int), .nil, .nil]⟩), (8, ⟨false, [vi a0.ak, vi a0.ay, vi a0.aA, .own 29 0 i.2.2.length (some (5, 128)), .own 32 0 i.2.1.length (some (13, 122))]⟩), (29, ⟨true, flat aK i.2.2⟩), (32, ⟨true, flat aS i.2.1⟩)]⟩) (fun n i => pI F a0 x10 k14 n i.1 i.2.1 i.2.2 = some r) F ((0 : Int), v8, (dZ v5 x10 (⟨(⟨(1 : Int), (0 : Int), (7 : Int), (0 : Int)⟩ : dS), (nth v5 x10).xUp⟩ : aZ))) h ?_ (fun n i h => ?_)
 refine fM (fK (r := 8) rfl (by simp [aj, au, ah] : ⟨false, [vi a0.ak, vi a0.ay, vi a0.aA, .own 29 0 v5.length (some (5, 128)), .own 32 0 v8.length (some (13, 122))]⟩ = ⟨false, [vi a0.ak, vi a0.ay, vi a0.aA, .own 29 0 (dZ v5 x10 (⟨(⟨(1 : Int), (0 : Int), (7 : Int), (0 : Int)⟩ : dS), (nth v5 x10).xUp⟩ : aZ)).length (some (5, 128)), .own 32 0 v8.length (some (13, 122))]⟩)).b ?_
 exact LB
 obtain ⟨v43, v44, v45⟩ := i; dsimp only at h
 obtain _ | n46 := n
 cases h
 unfold pI at h
 (try dsimp)
 apply Eso
 refine WQ qi ?_
 apply bW
 (try dsimp)
 apply bG
 refine Ec h rfl (fun h hc47 => ?_) (fun h hc47 => ?_)
 apply bf
 refine aX [2, 4, 8, 10, 66, 67] [2, 4, 8, 29, 32] ?_
 (try dsimp)
 apply bG
 apply bT
 apply Eso
 apply WM
 apply WM
 refine Wk [2, 4, 8, 10, 11, 66, 67] [2, 4, 8, 29, 32] ?_
 (try dsimp)
 apply Eso
 refine WQ qlA ?_
 apply WM
 obtain ⟨x48, adU, h⟩ := aG h
 refine W1 (dc1 hP (Fg F a0 v43 x48 adU)) ?_
 apply WM
 refine Wk [2, 4, 8, 10, 11, 12, 66, 67] [2, 4, 8, 29, 32] ?_
 (try dsimp)
 obtain ⟨k50, adV, h⟩ := eX h
 refine dJ (fun (i : (List aH)) => ⟨[(2, S.one (.ptr 2 0)), (4, S.one (.ptr 4 0)), (8, S.one (.ptr 8 0)), (10, zi_ x10), (12, zi_ x48), (66, zi_ a0.ak), (67, zi_ v43)], [(2, ⟨true, [vi a0.ak, vi a0.ay, vi a0.aA]⟩), (4, ⟨true, [vi (0 : Int), vi (0 : Int), vi (0 : Int), .nil, .nil]⟩), (8, ⟨false, [vi a0.ak, vi a0.ay, vi a0.aA, .own 29 0 v45.length (some (5, 128)), .own 32 0 i.length (some (13, 122))]⟩), (29, ⟨true, flat aK v45⟩), (32, ⟨true, flat aS i⟩)]⟩) (fun i => k50 i = some r) (fun i h => ?_) ?_
 let iv := i; change k50 i = some r at h; generalize i = v49 at h ⊢
 rw [adV] at h; dsimp only at h
 (try dsimp)
 apply dO
 refine WQ qap ?_
 refine WQ ql1 ?_
 apply WM
 obtain ⟨g51, h⟩ := aQ h
 refine WQ (qad g51) ?_
 refine WQ qbu ?_
 apply WM
 obtain ⟨g52, h⟩ := aQ h
 refine WQ (qad g52) ?_
 refine WQ qbu ?_
 obtain ⟨g53, h⟩ := aQ h
 refine WQ (qio g53) ?_
 refine W1 (dI (e := aK) (n := 5) (k := 5) rfl rfl (fun _ => rfl) g53 0 (by omega) rfl rfl rfl (by decide) (⟨(⟨(3 : Int), (1 : Int), (7 : Int), (0 : Int)⟩ : dS), (x10 + (1 : Int))⟩ : aZ) rfl (by decide) rfl) ?_
 refine Wk [2, 4, 8, 10, 66, 67] [2, 4, 8, 29, 32] ?_
 (try dsimp)
 apply dO
 obtain ⟨g54, h⟩ := aQ h
 refine WQ (qad g54) ?_
 apply WM
 apply bW
 refine ⟨n46, ((v43 + (1 : Int)), v49, (dZ v45 (x48 + (1 : Int)) (⟨(⟨(3 : Int), (1 : Int), (7 : Int), (0 : Int)⟩ : dS), (x10 + (1 : Int))⟩ : aZ))), Nat.lt_succ_self _, h, ?_⟩
 refine fM (fK (r := 8) rfl (by simp [aj, au, ah] : ⟨false, [vi a0.ak, vi a0.ay, vi a0.aA, .own 29 0 v45.length (some (5, 128)), .own 32 0 v49.length (some (13, 122))]⟩ = ⟨false, [vi a0.ak, vi a0.ay, vi a0.aA, .own 29 0 (dZ v45 (x48 + (1 : Int)) (⟨(⟨(3 : Int), (1 : Int), (7 : Int), (0 : Int)⟩ : dS), (x10 + (1 : Int))⟩ : aZ)).length (some (5, 128)), .own 32 0 v49.length (some (13, 122))]⟩)).b ?_
 exact LB
 obtain ⟨g55, h⟩ := aQ h
 obtain ⟨x56, adW, h⟩ := aG h
 obtain ⟨g57, h⟩ := aQ h
 refine ig [0, 1, 2, 3, 4, 6, 7, 9] ?_
 refine XQ 0 rfl rfl rfl qap ?_
 refine XQ 1 rfl rfl rfl ql1 ?_
 refine XQ 2 rfl rfl rfl qm ?_
 refine XQ 3 rfl rfl rfl (qad g55) ?_
 refine XQ 4 rfl rfl rfl qm ?_
 refine X1 rfl (XK rfl (dc1 hP (CQ F (2 : Int) (3 : Int) x48 x56 adW)) ?_)
 refine XQ 6 rfl rfl rfl qm ?_
 refine XQ 7 rfl rfl rfl qx ?_
 refine XQ 9 rfl rfl rfl (qio g57) ?_
 refine X2 rfl ?_ ?_
 refine XK rfl ((qx).does) ?_
 refine X1 rfl (XT rfl rfl (dI (e := aS) (n := 13) (k := 13) rfl rfl (fun _ => rfl) g57 0 (by omega) rfl rfl rfl (by decide) x56.1 rfl (by decide) rfl) ?_)
 refine dL rfl ?_
 refine ⟨(dZ v44 ((2 : Int) + v43) x56.1), h, ?_⟩
 refine fM (fK (r := 8) rfl (by simp [aj, au, ah] : ⟨false, [vi a0.ak, vi a0.ay, vi a0.aA, .own 29 0 v45.length (some (5, 128)), .own 32 0 v44.length (some (13, 122))]⟩ = ⟨false, [vi a0.ak, vi a0.ay, vi a0.aA, .own 29 0 v45.length (some (5, 128)), .own 32 0 (dZ v44 ((2 : Int) + v43) x56.1).length (some (13, 122))]⟩)).b ?_
 exact LB
 refine XT rfl rfl (dI (e := aS) (n := 13) (k := 13) rfl rfl (fun _ => rfl) g57 0 (by omega) rfl rfl rfl (by decide) x56.1 rfl (by decide) rfl) ?_
 refine X1 rfl (XT rfl rfl ((qx).does) ?_)
 refine dL rfl ?_
 refine ⟨(dZ v44 ((2 : Int) + v43) x56.1), h, ?_⟩
 refine fM (fK (r := 8) rfl (by simp [aj, au, ah] : ⟨false, [vi a0.ak, vi a0.ay, vi a0.aA, .own 29 0 v45.length (some (5, 128)), .own 32 0 v44.length (some (13, 122))]⟩ = ⟨false, [vi a0.ak, vi a0.ay, vi a0.aA, .own 29 0 v45.length (some (5, 128)), .own 32 0 (dZ v44 ((2 : Int) + v43) x56.1).length (some (13, 122))]⟩)).b ?_
 exact LB
 apply gy
 refine ⟨(v44, v45), h, ?_⟩
 exact LB
 obtain ⟨x58, adX, h⟩ := aG h
 obtain ⟨g59, h⟩ := aQ h
 refine ig [0, 1, 3, 4, 6] ?_
 refine XQ 0 rfl rfl rfl qap ?_
 refine XQ 1 rfl rfl rfl ql1 ?_
 refine X1 rfl (XK rfl (dc1 hP (CQ F (3 : Int) (0 : Int) (0 : Int) x58 adX)) ?_)
 refine XQ 3 rfl rfl rfl qm ?_
 refine XQ 4 rfl rfl rfl qx ?_
 refine XQ 6 rfl rfl rfl (qio g59) ?_
 refine X2 rfl ?_ ?_
 refine XK rfl ((qx).does) ?_
 refine X1 rfl (XT rfl rfl (dI (e := aS) (n := 13) (k := 13) rfl rfl (fun _ => rfl) (by first | exact g59 | exact kH.1 g59 | simpa only [kH] using g59) 0 (by omega) rfl rfl rfl (by decide) x58.1 rfl (by decide) rfl) ?_)
 refine dL rfl ?_
 refine ⟨(dZ (dZ (List.replicate a0.aA.toNat (⟨(0 : Int), (0 : Int), (0 : Int), (0 : Int), (0 : Int), (0 : Int), (0 : Int), false, (0 : Int), (⟨(0 : Int), (0 : Int), (0 : Int), (0 : Int)⟩ : V4 Int)⟩ : aH)) (0 : Int) x1.1) (1 : Int) x58.1), h, ?_⟩
 refine fM (fK (r := 8) rfl (by simp [aj, au, ah] : ⟨false, [vi a0.ak, vi a0.ay, vi a0.aA, .own 29 0 v5.length (some (5, 128)), .own 32 0 (List.replicate a0.aA.toNat (⟨(0 : Int), (0 : Int), (0 : Int), (0 : Int), (0 : Int), (0 : Int), (0 : Int), false, (0 : Int), (⟨(0 : Int), (0 : Int), (0 : Int), (0 : Int)⟩ : V4 Int)⟩ : aH)).length (some (13, 122))]⟩ = ⟨false, [vi a0.ak, vi a0.ay, vi a0.aA, .own 29 0 v5.length (some (5, 128)), .own 32 0 (dZ (dZ (List.replicate a0.aA.toNat (⟨(0 : Int), (0 : Int), (0 : Int), (0 : Int), (0 : Int), (0 : Int), (0 : Int), false, (0 : Int), (⟨(0 : Int), (0 : Int), (0 : Int), (0 : Int)⟩ : V4 Int)⟩ : aH)) (0 : Int) x1.1) (1 : Int) x58.1).length (some (13, 122))]⟩)).b ?_
 exact LB
 refine XT rfl rfl (dI (e := aS) (n := 13) (k := 13) rfl rfl (fun _ => rfl) (by first | exact g59 | exact kH.1 g59 | simpa only [kH] using g59) 0 (by omega) rfl rfl rfl (by decide) x58.1 rfl (by decide) rfl) ?_
 refine X1 rfl (XT rfl rfl ((qx).does) ?_)
 refine dL rfl ?_
 refine ⟨(dZ (dZ (List.replicate a0.aA.toNat (⟨(0 : Int), (0 : Int), (0 : Int), (0 : Int), (0 : Int), (0 : Int), (0 : Int), false, (0 : Int), (⟨(0 : Int), (0 : Int), (0 : Int), (0 : Int)⟩ : V4 Int)⟩ : aH)) (0 : Int) x1.1) (1 : Int) x58.1), h, ?_⟩
 refine fM (fK (r := 8) rfl (by simp [aj, au, ah] : ⟨false, [vi a0.ak, vi a0.ay, vi a0.aA, .own 29 0 v5.length (some (5, 128)), .own 32 0 (List.replicate a0.aA.toNat (⟨(0 : Int), (0 : Int), (0 : Int), (0 : Int), (0 : Int), (0 : Int), (0 : Int), false, (0 : Int), (⟨(0 : Int), (0 : Int), (0 : Int), (0 : Int)⟩ : V4 Int)⟩ : aH)).length (some (13, 122))]⟩ = ⟨false, [vi a0.ak, vi a0.ay, vi a0.aA, .own 29 0 v5.length (some (5, 128)), .own 32 0 (dZ (dZ (List.replicate a0.aA.toNat (⟨(0 : Int), (0 : Int), (0 : Int), (0 : Int), (0 : Int), (0 : Int), (0 : Int), false, (0 : Int), (⟨(0 : Int), (0 : Int), (0 : Int), (0 : Int)⟩ : V4 Int)⟩ : aH)) (0 : Int) x1.1) (1 : Int) x58.1).length (some (13, 122))]⟩)).b ?_
 exact LB
 apply Eso
 refine WQ qap ?_
 refine WQ ql1 ?_
 refine WQ (jg rfl rfl) ?_
 apply WM
 refine Wk [2, 4, 6, 8, 36, 37] [2, 4, 6, 8, 29, 32] ?_
 (try dsimp)
 apply bT
 (try dsimp)
 refine eG (fun (i : Int × (List aZ)) => ⟨[(2, S.one (.ptr 2 0)), (4, S.one (.ptr 4 0)), (6, S.one (.ptr 6 0)), (8, S.one (.ptr 8 0)), (36, (zi_ (((List.replicate a0.ay.toNat (⟨(⟨(0 : Int), (0 : Int), (0 : Int), (0 : Int)⟩ : dS), (0 : Int)⟩ : aZ)).length : Nat) : Int))), (37, zi_ i.1)], [(2, ⟨true, [vi a0.ak, vi a0.ay, vi a0.aA]⟩), (4, ⟨true, [vi (0 : Int), vi (0 : Int), vi (0 : Int), .nil, .nil]⟩), (6, ⟨true, [vi x1.1.xType, vi x1.1.iY, vi x1.1.jw, vi x1.1.mM, vi x1.1.nK, vi x1.1.eH, vi x1.1.gI, vb x1.1.qJ, vu x1.1.lD, vu x1.1.dn.c0, vu x1.1.dn.c1, vu x1.1.dn.c2, vu x1.1.dn.c3]⟩), (8, ⟨false, [vi a0.ak, vi a0.ay, vi a0.aA, .own 29 0 i.2.length (some (5, 128)), .own 32 0 (List.replicate a0.aA.toNat (⟨(0 : Int), (0 : Int), (0 : Int), (0 : Int), (0 : Int), (0 : Int), (0 : Int), false, (0 : Int), (⟨(0 : Int), (0 : Int), (0 : Int), (0 : Int)⟩ : V4 Int)⟩ : aH)).length (some (13, 122))]⟩), (29, ⟨true, flat aK i.2⟩), (32, ⟨true, flat aS (List.replicate a0.aA.toNat (⟨(0 : Int), (0 : Int), (0 : Int), (0 : Int), (0 : Int), (0 : Int), (0 : Int), false, (0 : Int), (⟨(0 : Int), (0 : Int), (0 : Int), (0 : Int)⟩ : V4 Int)⟩ : aH))⟩)]⟩) (fun n i => pG F a0 k6 n i.1 i.2 = some r) F ((0 : Int), (List.replicate a0.ay.toNat (⟨(⟨(0 : Int), (0 : Int), (0 : Int), (0 : Int)⟩ : dS), (0 : Int)⟩ : aZ))) h ?_ (fun n i h => ?_)
 exact LB
 obtain ⟨v68, v69⟩ := i; dsimp only at h
 obtain _ | n70 := n
 cases h
 unfold pG at h
 (try dsimp)
 apply Eso
 refine WQ qi ?_
 apply bW
 (try dsimp)
 apply bG
 refine Ec h rfl (fun h abI => ?_) (fun h abI => ?_)
 apply bf
 refine aX [2, 4, 6, 8, 36, 37] [2, 4, 6, 8, 29, 32] ?_
 (try dsimp)
 apply bG
 apply bT
 apply Eso
 apply WM
 apply WM
 refine Wk [2, 4, 6, 8, 9, 36, 37] [2, 4, 6, 8, 29, 32] ?_
 (try dsimp)
 apply dO
 refine WQ qap ?_
 refine WQ ql1 ?_
 apply WM
 obtain ⟨g72, h⟩ := aQ h
 refine WQ (qio g72) ?_
 refine WQ qap ?_
 refine W1 (dI (e := aK) (n := 1) (k := 5) rfl rfl (fun _ => rfl) g72 4 (by omega) rfl rfl rfl (by decide) (⟨(nth v69 v68).gY, (-1 : Int)⟩ : aZ) rfl (by decide) rfl) ?_
 refine Wk [2, 4, 6, 8, 36, 37] [2, 4, 6, 8, 29, 32] ?_
 (try dsimp)
 apply dO
 obtain ⟨g73, h⟩ := aQ h
 refine WQ (qad g73) ?_
 apply WM
 apply bW
 refine ⟨n70, ((v68 + (1 : Int)), (dZ v69 v68 (⟨(nth v69 v68).gY, (-1 : Int)⟩ : aZ))), Nat.lt_succ_self _, h, ?_⟩
 refine fM (fK (r := 8) rfl (by simp [aj, au, ah] : ⟨false, [vi a0.ak, vi a0.ay, vi a0.aA, .own 29 0 v69.length (some (5, 128)), .own 32 0 (List.replicate a0.aA.toNat (⟨(0 : Int), (0 : Int), (0 : Int), (0 : Int), (0 : Int), (0 : Int), (0 : Int), false, (0 : Int), (⟨(0 : Int), (0 : Int), (0 : Int), (0 : Int)⟩ : V4 Int)⟩ : aH)).length (some (13, 122))]⟩ = ⟨false, [vi a0.ak, vi a0.ay, vi a0.aA, .own 29 0 (dZ v69 v68 (⟨(nth v69 v68).gY, (-1 : Int)⟩ : aZ)).length (some (5, 128)), .own 32 0 (List.replicate a0.aA.toNat (⟨(0 : Int), (0 : Int), (0 : Int), (0 : Int), (0 : Int), (0 : Int), (0 : Int), false, (0 : Int), (⟨(0 : Int), (0 : Int), (0 : Int), (0 : Int)⟩ : V4 Int)⟩ : aH)).length (some (13, 122))]⟩)).b ?_
 exact LB
 apply gy
 refine ⟨v69, h, ?_⟩
 exact LB
 obtain ⟨g74, h⟩ := aQ h
 obtain ⟨g75, h⟩ := aQ h
 refine ig [0, 1, 2, 4, 5, 7] ?_
 refine XQ 0 rfl rfl rfl qlA ?_
 refine XQ 1 rfl rfl rfl qap ?_
 refine XQ 2 rfl rfl rfl ql1 ?_
 refine XQ 4 rfl rfl rfl qap ?_
 refine XQ 5 rfl rfl rfl ql1 ?_
 refine X3 rfl ?_ ?_ ?_
 refine XK rfl (nS (e := aK) (⟨(⟨(0 : Int), (0 : Int), (0 : Int), (0 : Int)⟩ : dS), (0 : Int)⟩ : aZ) rfl rfl rfl (fun _ => rfl) g74.1 g74.2.1 g74.2.2.1 g74.2.2.2 rfl) ?_
 refine X2 rfl ?_ ?_
 refine XK rfl (nS (e := aS) (⟨(0 : Int), (0 : Int), (0 : Int), (0 : Int), (0 : Int), (0 : Int), (0 : Int), false, (0 : Int), (⟨(0 : Int), (0 : Int), (0 : Int), (0 : Int)⟩ : V4 Int)⟩ : aH) rfl rfl rfl (fun _ => rfl) g75.1 g75.2.1 g75.2.2.1 g75.2.2.2 rfl) ?_
 refine XQ 7 rfl rfl rfl qbu ?_
 refine X1 rfl (XK rfl dnv ?_)
 refine X1 rfl (XT rfl rfl dst ?_)
 refine dL rfl ?_
 refine ⟨(), h, ?_⟩
 exact LB
 refine XK rfl dnv ?_
 refine X1 rfl (XK rfl (nS (e := aS) (⟨(0 : Int), (0 : Int), (0 : Int), (0 : Int), (0 : Int), (0 : Int), (0 : Int), false, (0 : Int), (⟨(0 : Int), (0 : Int), (0 : Int), (0 : Int)⟩ : V4 Int)⟩ : aH) rfl rfl rfl (fun _ => rfl) g75.1 g75.2.1 g75.2.2.1 g75.2.2.2 rfl) ?_)
 refine XQ 7 rfl rfl rfl qbu ?_
 refine X1 rfl (XT rfl rfl dst ?_)
 refine dL rfl ?_
 refine ⟨(), h, ?_⟩
 exact LB
 refine XK rfl (nS (e := aS) (⟨(0 : Int), (0 : Int), (0 : Int), (0 : Int), (0 : Int), (0 : Int), (0 : Int), false, (0 : Int), (⟨(0 : Int), (0 : Int), (0 : Int), (0 : Int)⟩ : V4 Int)⟩ : aH) rfl rfl rfl (fun _ => rfl) g75.1 g75.2.1 g75.2.2.1 g75.2.2.2 rfl) ?_
 refine X2 rfl ?_ ?_
 refine XK rfl (nS (e := aK) (⟨(⟨(0 : Int), (0 : Int), (0 : Int), (0 : Int)⟩ : dS), (0 : Int)⟩ : aZ) rfl rfl rfl (fun _ => rfl) g74.1 g74.2.1 g74.2.2.1 g74.2.2.2 rfl) ?_
 refine XQ 7 rfl rfl rfl qbu ?_
 refine X1 rfl (XK rfl dnv ?_)
 refine X1 rfl (XT rfl rfl dst ?_)
 refine dL rfl ?_
 refine ⟨(), h, ?_⟩
 exact LB
 refine XK rfl dnv ?_
 refine X1 rfl (XK rfl (nS (e := aK) (⟨(⟨(0 : Int), (0 : Int), (0 : Int), (0 : Int)⟩ : dS), (0 : Int)⟩ : aZ) rfl rfl rfl (fun _ => rfl) g74.1 g74.2.1 g74.2.2.1 g74.2.2.2 rfl) ?_)
 refine XQ 7 rfl rfl rfl qbu ?_
 refine X1 rfl (XT rfl rfl dst ?_)
 refine dL rfl ?_
 refine ⟨(), h, ?_⟩
 exact LB
 refine XK rfl dnv ?_
 refine X2 rfl ?_ ?_
 refine XK rfl (nS (e := aK) (⟨(⟨(0 : Int), (0 : Int), (0 : Int), (0 : Int)⟩ : dS), (0 : Int)⟩ : aZ) rfl rfl rfl (fun _ => rfl) g74.1 g74.2.1 g74.2.2.1 g74.2.2.2 rfl) ?_
 refine X1 rfl (XK rfl (nS (e := aS) (⟨(0 : Int), (0 : Int), (0 : Int), (0 : Int), (0 : Int), (0 : Int), (0 : Int), false, (0 : Int), (⟨(0 : Int), (0 : Int), (0 : Int), (0 : Int)⟩ : V4 Int)⟩ : aH) rfl rfl rfl (fun _ => rfl) g75.1 g75.2.1 g75.2.2.1 g75.2.2.2 rfl) ?_)
 refine XQ 7 rfl rfl rfl qbu ?_
 refine X1 rfl (XT rfl rfl dst ?_)
 refine dL rfl ?_
 refine ⟨(), h, ?_⟩
 exact LB
 refine XK rfl (nS (e := aS) (⟨(0 : Int), (0 : Int), (0 : Int), (0 : Int), (0 : Int), (0 : Int), (0 : Int), false, (0 : Int), (⟨(0 : Int), (0 : Int), (0 : Int), (0 : Int)⟩ : V4 Int)⟩ : aH) rfl rfl rfl (fun _ => rfl) g75.1 g75.2.1 g75.2.2.1 g75.2.2.2 rfl) ?_
 refine X1 rfl (XK rfl (nS (e := aK) (⟨(⟨(0 : Int), (0 : Int), (0 : Int), (0 : Int)⟩ : dS), (0 : Int)⟩ : aZ) rfl rfl rfl (fun _ => rfl) g74.1 g74.2.1 g74.2.2.1 g74.2.2.2 rfl) ?_)
 refine XQ 7 rfl rfl rfl qbu ?_
 refine X1 rfl (XT rfl rfl dst ?_)
 refine dL rfl ?_
 refine ⟨(), h, ?_⟩
 exact LB
def KY : cO := (q [o (.box 126 0) 1, o (.mv (cb nn)) 2] (q [o (.load yy 4 1) 3, o (.build [zi, zi, zi, zi] []) 4, o (.eqA nn 126 3 4) 5, w 2 5] .ret))
theorem UL : Fits Tryz.prog 141 1 KY [(.tmp 2)] := fk Tryz.func141
theorem qB (F : Nat) (a0 : dS) (r : Bool) (h : jq F a0 = some r) : PC Tryz.prog 141 [S.agg [vi a0.xType, vi a0.iG, vi a0.kS, vi a0.gI]] (zb_ r) := by
 unfold jq at h
 refine eu UL rfl rfl ?_
 intro C hP
 unfold KY; dsimp
 apply Eso
 refine W1 dbx ?_
 apply WM
 refine Wk [1] [1] ?_
 apply Eso
 refine WQ qlA ?_
 refine WQ qbu ?_
 refine WQ (rJ hP aap rfl rfl rfl rfl ⟨rfl, ⟨rfl, ⟨rfl, ⟨rfl, trivial⟩⟩⟩⟩) ?_
 apply WM
 refine Wk [2] [] ?_
 apply bD
 cases h
 exact fe
def Sv : cO := (q [o (.mv (cb nn)) 6] (q [w 7 0, w 8 1, o (.bin .geq 3 7 8) 9, w 10 9, g_ (.mv 0) 11 10 yy, g_ (.mv 2) 12 10 yy, g_ (.bin .leq 3 11 12) 13 10 yy, o (.pick 10 13 (cb nn)) 14, w 6 14] .ret))
theorem Y4 : Fits Tryz.prog 151 3 Sv [(.tmp 6)] := fk Tryz.func151
theorem Sz (F : Nat) (a0 : Int) (a1 : Int) (a2 : Int) (r : Bool) (h : Gt F a0 a1 a2 = some r) : PC Tryz.prog 151 [(zi_ a0), (zi_ a1), (zi_ a2)] (zb_ r) := by
 unfold Gt at h
 refine eu Y4 rfl rfl ?_
 intro C hP
 unfold Sv; dsimp
 apply Eso
 apply WM
 refine Wk [0, 1, 2] [] ?_
 apply Eso
 apply WM
 apply WM
 refine WQ qi ?_
 apply WM
 apply aF
 rfl
 intro b
 try rw [b]
 exact qm
 apply aF
 rfl
 intro b
 try rw [b]
 exact qm
 apply aF
 rfl
 intro b
 try rw [b]
 exact qi
 refine WQ qan ?_
 apply WM
 refine Wk [6] [] ?_
 apply bD
 cases h
 exact fe
def Gx : cO := (q [o (.mv (cb nn)) 2] (q [w 3 0, o (.bin .geq 3 3 (ci 0)) 4, w 5 4, g_ (.mv 0) 6 5 yy, g_ (.bin .leq 3 6 (ci 7)) 7 5 yy, o (.pick 5 7 (cb nn)) 8, w 2 8] .ret))
theorem Qc : Fits Tryz.prog 152 1 Gx [(.tmp 2)] := fk Tryz.func152
theorem Gy (F : Nat) (a0 : Int) (r : Bool) (h : xu F a0 = some r) : PC Tryz.prog 152 [(zi_ a0)] (zb_ r) := by
 unfold xu at h
 refine eu Qc rfl rfl ?_
 intro C hP
 unfold Gx; dsimp
 apply Eso
 apply WM
 refine Wk [0] [] ?_
 apply Eso
 apply WM
 refine WQ qi ?_
 apply WM
 apply aF
 rfl
 intro b
 try rw [b]
 exact qm
 apply aF
 rfl
 intro b
 try rw [b]
 exact qi
 refine WQ qan ?_
 apply WM
 refine Wk [2] [] ?_
 apply bD
 cases h
 exact fe
def EI : cO := (q [o (.mv (cb nn)) 2] (q [w 3 0, o (.bin .geq 3 3 (ci 0)) 4, w 5 4, g_ (.mv 0) 6 5 yy, g_ (.bin .leq 3 6 (ci 65535)) 7 5 yy, o (.pick 5 7 (cb nn)) 8, w 2 8] .ret))
theorem Ob : Fits Tryz.prog 153 1 EI [(.tmp 2)] := fk Tryz.func153
theorem Oc (F : Nat) (a0 : Int) (r : Bool) (h : zq F a0 = some r) : PC Tryz.prog 153 [(zi_ a0)] (zb_ r) := by
 unfold zq at h
 refine eu Ob rfl rfl ?_
 intro C hP
 unfold EI; dsimp
 apply Eso
 apply WM
 refine Wk [0] [] ?_
 apply Eso
 apply WM
 refine WQ qi ?_
 apply WM
 apply aF
 rfl
 intro b
 try rw [b]
 exact qm
 apply aF
 rfl
 intro b
 try rw [b]
 exact qi
 refine WQ qan ?_
 apply WM
 refine Wk [2] [] ?_
 apply bD
 cases h
 exact fe
def Gz : cO := (q [o (.mv (cb nn)) 2] (q [w 3 0, o (.bin .eql 3 3 (ci 3)) 4, w 5 4, g_ (.mv 0) 6 5 nn, g_ (.bin .eql 3 6 (ci 4)) 7 5 nn, o (.pick 5 (cb yy) 7) 8, w 2 8] .ret))
theorem Qd : Fits Tryz.prog 154 1 Gz [(.tmp 2)] := fk Tryz.func154
theorem Qe (F : Nat) (a0 : Int) (r : Bool) (h : Az F a0 = some r) : PC Tryz.prog 154 [(zi_ a0)] (zb_ r) := by
 unfold Az at h
 refine eu Qd rfl rfl ?_
 intro C hP
 unfold Gz; dsimp
 apply Eso
 apply WM
 refine Wk [0] [] ?_
 apply Eso
 apply WM
 refine WQ qi ?_
 apply WM
 apply aF
 rfl
 intro b
 try rw [b]
 exact qm
 apply aF
 rfl
 intro b
 try rw [b]
 exact qi
 refine WQ qor ?_
 apply WM
 refine Wk [2] [] ?_
 apply bD
 cases h
 exact fe
def KZ : cO := (q [o (.box 126 0) 1, o (.mv (cb nn)) 2] (.seq (q [o (.load yy 4 1) 3, o (.call 141 [3]) 4] (.cond 4 (q [o (.mv (cb yy)) 2] .ret) .skip)) (q [o (.add 0 1) 5, o (.load nn 1 5) 6, o (.call 151 [6, ci 1, ci 5]) 7, w 8 7, g_ (.add 1 1) 9 8 yy, g_ (.load nn 1 9) 10 8 yy, g_ (.call 151 [10, ci 0, ci 47]) 11 8 yy, o (.pick 8 11 (cb nn)) 12, w 13 12, g_ (.add 2 1) 14 13 yy, g_ (.load nn 1 14) 15 13 yy, g_ (.call 152 [15]) 16 13 yy, o (.pick 13 16 (cb nn)) 17, w 18 17, g_ (.add 3 1) 19 18 yy, g_ (.load nn 1 19) 20 18 yy, g_ (.call 153 [20]) 21 18 yy, o (.pick 18 21 (cb nn)) 22, w 23 22, g_ (.add 3 1) 24 23 yy, g_ (.load nn 1 24) 25 23 yy, g_ (.bin .eql 3 25 (ci 0)) 26 23 yy, g_ (.mv 26) 27 23 yy, g_ (.add 0 1) 28 27 nn, g_ (.load nn 1 28) 29 27 nn, g_ (.call 154 [29]) 30 27 nn, g_ (.pick 27 (cb yy) 30) 31 23 yy, o (.pick 23 31 (cb nn)) 32, w 2 32] .ret)))
theorem UM : Fits Tryz.prog 119 1 KZ [(.tmp 2)] := fk Tryz.func119
theorem Fh (F : Nat) (a0 : dS) (r : Bool) (h : oO F a0 = some r) : PC Tryz.prog 119 [S.agg [vi a0.xType, vi a0.iG, vi a0.kS, vi a0.gI]] (zb_ r) := by
 unfold oO at h
 refine eu UM rfl rfl ?_
 intro C hP
 unfold KZ; dsimp
 apply Eso
 refine W1 dbx ?_
 apply WM
 refine Wk [1] [1] ?_
 (try dsimp)
 apply bG
 apply Eso
 refine WQ qlA ?_
 obtain ⟨x1, x1h, h⟩ := aG h
 refine W1 (dc1 hP (qB F a0 x1 x1h)) ?_
 refine Wk [1, 4] [1] ?_
 (try dsimp)
 refine Ec h rfl (fun h hc2 => ?_) (fun h hc2 => ?_)
 apply Eso
 apply WM
 refine Wk [2] [] ?_
 (try dsimp)
 apply bD
 cases h
 exact fe
 apply bf
 refine aX [1] [1] ?_
 (try dsimp)
 apply Eso
 refine WQ qap ?_
 refine WQ ql1 ?_
 obtain ⟨x3, x3h, h⟩ := aG h
 refine W1 (dc1 hP (Sz F a0.xType (1 : Int) (5 : Int) x3 x3h)) ?_
 apply WM
 apply aF
 rfl
 intro b
 try rw [b]
 exact qap
 apply aF
 rfl
 intro b
 try rw [b]
 exact ql1
 obtain ⟨x4, x4h, h⟩ := aG h
 apply iM
 rfl
 intro hB; (try rw [hB]); exact dc1 hP (Sz F a0.iG (0 : Int) (47 : Int) x4 (jA x4h (bt hB)))
 refine WQ qan ?_
 apply WM
 apply aF
 rfl
 intro b
 try rw [b]
 exact qap
 apply aF
 rfl
 intro b
 try rw [b]
 exact ql1
 obtain ⟨x5, x5h, h⟩ := aG h
 apply iM
 rfl
 intro hB; (try rw [hB]); exact dc1 hP (Gy F a0.kS x5 (jA x5h (bt hB)))
 refine WQ qan ?_
 apply WM
 apply aF
 rfl
 intro b
 try rw [b]
 exact qap
 apply aF
 rfl
 intro b
 try rw [b]
 exact ql1
 obtain ⟨x6, x6h, h⟩ := aG h
 apply iM
 rfl
 intro hB; (try rw [hB]); exact dc1 hP (Oc F a0.gI x6 (jA x6h (bt hB)))
 refine WQ qan ?_
 apply WM
 apply aF
 rfl
 intro b
 try rw [b]
 exact qap
 apply aF
 rfl
 intro b
 try rw [b]
 exact ql1
 apply aF
 rfl
 intro b
 try rw [b]
 exact qi
 apply aF
 rfl
 intro b
 try rw [b]
 exact qm
 apply kJ
 rfl
 intro hA hB; (try simp only [hA, hB, bss, Bool.and_true, Bool.true_and, ctt]); exact (qap).does
 apply kJ
 rfl
 intro hA hB; (try simp only [hA, hB, bss, Bool.and_true, Bool.true_and, ctt]); exact (ql1).does
 obtain ⟨x7, x7h, h⟩ := aG h
 apply kJ
 rfl
 intro hA hB; (try simp only [hA, hB, bss, Bool.and_true, Bool.true_and, ctt]); exact dc1 hP (Qe F a0.xType x7 (jA x7h (bt2 hA hB)))
 apply aF
 rfl
 intro b
 try rw [b]
 exact qor
 refine WQ qan ?_
 apply WM
 refine Wk [2] [] ?_
 (try dsimp)
 apply bD
 cases h
 exact fe
def wR : cO := (q [o (.box 73 0) 2, o (.mv (cb nn)) 4] (q [w 5 1, o (.bin .geq 3 5 (ci 0)) 6, w 7 6, g_ (.mv 1) 8 7 yy, g_ (.add 4 2) 9 7 yy, g_ (.load nn 1 9) 10 7 yy, g_ (.len nn 10) 11 7 yy, g_ (.bin .lss 3 8 11) 12 7 yy, o (.pick 7 12 (cb nn)) 13, w 14 13, g_ (.add 4 2) 15 14 yy, g_ (.load nn 1 15) 16 14 yy, g_ (.mv 1) 17 14 yy, g_ (.fH 13 16 17) 18 14 yy, g_ (.add 0 18) 19 14 yy, g_ (.load nn 1 19) 20 14 yy, g_ (.bin .neq 3 20 (ci 0)) 21 14 yy, o (.pick 14 21 (cb nn)) 22, w 4 22] .ret))
theorem Ep : Fits Tryz.prog 142 2 wR [(.tmp 4)] := fk Tryz.func142
theorem sS (F : Nat) (a0 : aI) (a1 : Int) (r : Bool) (h : fD F a0 a1 = some r) : PC Tryz.prog 142 [S.agg [vi a0.bH.ak, vi a0.bH.ay, vi a0.bH.aA, sl aK a0.ay, sl aS a0.aA], (zi_ a1)] (zb_ r) := by
 unfold fD at h
 refine eu Ep rfl rfl ?_
 intro C hP
 unfold wR; dsimp
 apply Eso
 refine W1 dbx ?_
 apply WM
 refine Wk [1, 2] [2] ?_
 apply Eso
 apply WM
 refine WQ qi ?_
 apply WM
 apply aF
 rfl
 intro b
 try rw [b]
 exact qm
 apply aF
 rfl
 intro b
 try rw [b]
 exact qap
 apply aF
 rfl
 intro b
 try rw [b]
 exact ql1
 apply aF
 rfl
 intro b
 try rw [b]
 exact qls
 apply aF
 rfl
 intro b
 try rw [b]
 exact qi
 refine WQ qan ?_
 apply WM
 apply aF
 rfl
 intro b
 try rw [b]
 exact qap
 apply aF
 rfl
 intro b
 try rw [b]
 exact ql1
 apply aF
 rfl
 intro b
 try rw [b]
 exact qm
 obtain ⟨g1, h⟩ := aQ h
 apply aF
 rfl
 intro b
 try rw [b]
 exact qis (g1 b)
 apply aF
 rfl
 intro b
 try rw [b]
 exact sJ rfl
 apply aF
 rfl
 intro b
 try rw [b]
 exact q1F 13 (g1 b) 0
 apply aF
 rfl
 intro b
 try rw [b]
 exact qi
 refine WQ qan ?_
 apply WM
 refine Wk [4] [] ?_
 apply bD
 cases h
 exact fe
def xZ : cO := (q [o (.box 73 0) 1, o (.mv (cb nn)) 2] (.seq (q [o (.add 3 1) 6, o (.load nn 1 6) 7, o (.len nn 7) 8, o (.mv (ci 0)) 9] (.block 0 (.loop (q [o (.bin .lss 3 9 8) 10] (.seq (.cond 10 .skip (.exit 0)) (.seq (.block 1 (q [o (.fH 5 7 9) 11, o (.load yy 5 11) 12, o (.jm [zi, zi, zi, zi, zi]) 4, n_ (.store 5 4 12)] (q [o (.add 0 4) 13, o (.load yy 4 13) 14, o (.jm [zi, zi, zi, zi]) 5, n_ (.store 4 5 14)] (.block 2 (q [o (.load yy 4 5) 16, o (.call 119 [16]) 17, o (.un .not 17) 18, w 15 18] (.cond 15 (q [o (.mv (cb nn)) 2] .ret) (.seq (q [o (.load yy 4 5) 20, o (.call 141 [20]) 21, w 22 21, g_ (.add 4 4) 23 22 yy, g_ (.load nn 1 23) 24 22 yy, g_ (.bin .neq 3 24 (.const (.int .i64 (-1)))) 25 22 yy, o (.pick 22 25 (cb nn)) 26, w 19 26] (.cond 19 .skip (.ops [o (.load yy 4 5) 27, o (.call 141 [27]) 28, o (.un .not 28) 29, w 30 29, g_ (.add 4 4) 31 30 yy, g_ (.load nn 1 31) 32 30 yy, g_ (.bin .lss 3 32 (.const (.int .i64 (-1)))) 33 30 yy, o (.pick 30 33 (cb nn)) 34, w 19 34]))) (.cond 19 (q [o (.mv (cb nn)) 2] .ret) (.seq (.draw [((o (.load yy 4 5) 36), []), ((o (.call 141 [36]) 37), [0]), ((o (.un .not 37) 38), [1]), ((w 39 38), [2, 1]), ((g_ (.load yy 5 1) 40 39 yy), [3]), ((g_ (.add 1 5) 41 39 yy), [3]), ((g_ (.load nn 1 41) 42 39 yy), [5, 3]), ((g_ (.call 142 [40, 42]) 43 39 yy), [4, 6, 3, 3]), ((g_ (.un .not 43) 44 39 yy), [7, 3]), ((g_ (.mv 44) 45 39 yy), [8, 7, 3]), ((g_ (.add 4 1) 46 45 nn), [9]), ((g_ (.load nn 1 46) 47 45 nn), [10, 9]), ((g_ (.add 1 5) 48 45 nn), [9]), ((g_ (.load nn 1 48) 49 45 nn), [12, 9]), ((g_ (.fH 13 47 49) 50 45 nn), [11, 13, 9]), ((g_ (.add 0 50) 51 45 nn), [14, 9]), ((g_ (.load nn 1 51) 52 45 nn), [15, 9]), ((g_ (.add 0 5) 53 45 nn), [9]), ((g_ (.load nn 1 53) 54 45 nn), [17, 9]), ((g_ (.bin .neq 3 52 54) 55 45 nn), [16, 18, 9]), ((g_ (.pick 45 (cb yy) 55) 56 39 yy), [9, 19, 3]), ((o (.pick 39 56 (cb nn)) 57), [3, 20]), ((w 35 57), [21, 9])]) (.cond 35 (q [o (.mv (cb nn)) 2] .ret) .skip)))))))))) (.ops [o (.bin .add 3 9 (ci 1)) 58, w 9 58]))))))) (q [o (.mv (cb yy)) 2] .ret)))
theorem Fj : Fits Tryz.prog 110 1 xZ [(.tmp 2)] := fk Tryz.func110
theorem Fp (F : Nat) (a0 : aI) (r : Bool) (h : kV F a0 = some r) : PC Tryz.prog 110 [S.agg [vi a0.bH.ak, vi a0.bH.ay, vi a0.bH.aA, sl aK a0.ay, sl aS a0.aA]] (zb_ r) := by
 unfold kV at h
 refine eu Fj rfl rfl ?_
 intro C hP
 unfold xZ; dsimp
 apply Eso
 refine W1 dbx ?_
 apply WM
 refine Wk [1] [1] ?_
 (try dsimp)
 obtain ⟨k1, k1d, h⟩ := eX h
 refine dJ (fun (i : Unit) => ⟨[], []⟩) (fun i => k1 () = some r) (fun i h => ?_) ?_
 rw [k1d] at h; dsimp only at h
 (try dsimp)
 apply Eso
 apply WM
 apply bW
 (try dsimp)
 apply bD
 cases h
 exact fe
 apply Eso
 refine WQ qap ?_
 refine WQ ql1 ?_
 refine WQ qls ?_
 apply WM
 refine Wk [1, 7, 8, 9] [1] ?_
 (try dsimp)
 apply bT
 (try dsimp)
 refine eG (fun (i : Int) => ⟨[(1, S.one (.ptr 1 0)), (7, ss aK a0.ay), (8, (zi_ ((a0.ay.length : Nat) : Int))), (9, zi_ i)], [(1, ⟨true, [vi a0.bH.ak, vi a0.bH.ay, vi a0.bH.aA, sl aK a0.ay, sl aS a0.aA]⟩)]⟩) (fun n i => fF F a0 k1 n i = some r) F (0 : Int) h ?_ (fun n i h => ?_)
 exact LB
 generalize i = v33 at h ⊢
 obtain _ | n34 := n
 cases h
 unfold fF at h
 (try dsimp)
 apply Eso
 refine WQ qi ?_
 apply bW
 (try dsimp)
 apply bG
 refine Ec h rfl (fun h UN => ?_) (fun h UN => ?_)
 apply bf
 refine aX [1, 7, 8, 9] [1] ?_
 (try dsimp)
 apply bG
 apply bT
 apply Eso
 obtain ⟨g36, h⟩ := aQ h
 refine WQ (qis g36) ?_
 refine WQ (qAF 5 g36 0) ?_
 refine W1 dnv ?_
 refine W1 dst ?_
 refine Wk [1, 4, 7, 8, 9] [1, 4] ?_
 (try dsimp)
 apply Eso
 refine WQ qap ?_
 refine WQ qlA ?_
 refine W1 dnv ?_
 refine W1 dst ?_
 refine Wk [1, 4, 5, 7, 8, 9] [1, 4, 5] ?_
 (try dsimp)
 apply bT
 apply Eso
 refine WQ qlA ?_
 obtain ⟨x37, Y5, h⟩ := aG h
 refine W1 (dc1 hP (Fh F ((nth a0.ay v33).gY) x37 Y5)) ?_
 refine WQ qno ?_
 apply WM
 refine Wk [1, 4, 5, 7, 8, 9, 15] [1, 4, 5] ?_
 (try dsimp)
 refine Ec h rfl (fun h hc38 => ?_) (fun h hc38 => ?_)
 apply Eso
 apply WM
 refine Wk [2] [] ?_
 (try dsimp)
 apply bD
 cases h
 exact fe
 obtain ⟨k40, adY, h⟩ := eX h
 refine dJ (fun (i : Bool) => ⟨[(1, S.one (.ptr 1 0)), (5, S.one (.ptr 5 0)), (7, ss aK a0.ay), (8, (zi_ ((a0.ay.length : Nat) : Int))), (9, zi_ v33), (19, zb_ i)], [(1, ⟨true, [vi a0.bH.ak, vi a0.bH.ay, vi a0.bH.aA, sl aK a0.ay, sl aS a0.aA]⟩), (5, ⟨true, [vi (nth a0.ay v33).gY.xType, vi (nth a0.ay v33).gY.iG, vi (nth a0.ay v33).gY.kS, vi (nth a0.ay v33).gY.gI]⟩)]⟩) (fun i => k40 i = some r) (fun i h => ?_) ?_
 let iv := i; change k40 i = some r at h; generalize i = v39 at h ⊢
 rw [adY] at h; dsimp only at h
 (try dsimp)
 refine Ec h rfl (fun h abJ => ?_) (fun h abJ => ?_)
 apply Eso
 apply WM
 refine Wk [2] [] ?_
 (try dsimp)
 apply bD
 cases h
 exact fe
 apply bG
 obtain ⟨x42, abK, h⟩ := aG h
 obtain ⟨x43, adZ, h⟩ := aG h
 obtain ⟨g44, h⟩ := aQ h
 refine ig [0, 2, 3, 4, 5, 6, 8, 9, 10, 11, 12, 13, 14, 15, 16, 17, 18, 19, 20, 21, 22] ?_
 refine XQ 0 rfl rfl rfl qlA ?_
 refine X1 rfl (XK rfl (dc1 hP (qB F ((nth a0.ay v33).gY) x42 abK)) ?_)
 refine XQ 2 rfl rfl rfl qno ?_
 refine XQ 3 rfl rfl rfl qm ?_
 apply fO 4
 rfl
 rfl
 rfl
 rfl
 intro hB; (try rw [hB]); exact qlA
 apply fO 5
 rfl
 rfl
 rfl
 rfl
 intro hB; (try rw [hB]); exact qap
 apply fO 6
 rfl
 rfl
 rfl
 rfl
 intro hB; (try rw [hB]); exact ql1
 refine X1 rfl ?_
 apply AB
 rfl
 rfl
 intro hB; (try rw [hB]); exact dc1 hP (sS F a0 ((nth a0.ay v33).gY.iG) x43 (jA adZ (bt hB)))
 apply fO 8
 rfl
 rfl
 rfl
 rfl
 intro hB; (try rw [hB]); exact qno
 apply fO 9
 rfl
 rfl
 rfl
 rfl
 intro hB; (try rw [hB]); exact qm
 apply sW 10
 rfl
 rfl
 rfl
 rfl
 intro hA hB; (try simp only [hA, hB, bss, Bool.and_true, Bool.true_and, ctt]); exact qap
 apply sW 11
 rfl
 rfl
 rfl
 rfl
 intro hA hB; (try simp only [hA, hB, bss, Bool.and_true, Bool.true_and, ctt]); exact ql1
 apply sW 12
 rfl
 rfl
 rfl
 rfl
 intro hA hB; (try simp only [hA, hB, bss, Bool.and_true, Bool.true_and, ctt]); exact qap
 apply sW 13
 rfl
 rfl
 rfl
 rfl
 intro hA hB; (try simp only [hA, hB, bss, Bool.and_true, Bool.true_and, ctt]); exact ql1
 apply sW 14
 rfl
 rfl
 rfl
 rfl
 intro hA hB; (try simp only [hA, hB, bss, Bool.and_true, Bool.true_and, ctt]); exact CU rfl rfl (g44 hA hB).1 (g44 hA hB).2
 apply sW 15
 rfl
 rfl
 rfl
 rfl
 intro hA hB; (try simp only [hA, hB, bss, Bool.and_true, Bool.true_and, ctt]); exact sJ rfl
 apply sW 16
 rfl
 rfl
 rfl
 rfl
 intro hA hB; (try simp only [hA, hB, bss, Bool.and_true, Bool.true_and, ctt]); exact CV (k := 13) rfl (fun _ => rfl) (g44 hA hB) 0 rfl rfl
 apply sW 17
 rfl
 rfl
 rfl
 rfl
 intro hA hB; (try simp only [hA, hB, bss, Bool.and_true, Bool.true_and, ctt]); exact qap
 apply sW 18
 rfl
 rfl
 rfl
 rfl
 intro hA hB; (try simp only [hA, hB, bss, Bool.and_true, Bool.true_and, ctt]); exact ql1
 apply sW 19
 rfl
 rfl
 rfl
 rfl
 intro hA hB; (try simp only [hA, hB, bss, Bool.and_true, Bool.true_and, ctt]); exact qi
 apply fO 20
 rfl
 rfl
 rfl
 rfl
 intro hB; (try rw [hB]); exact qor
 refine XQ 21 rfl rfl rfl qan ?_
 refine XQ 22 rfl rfl rfl qm ?_
 refine dL rfl ?_
 refine aX [1, 7, 8, 9, 35] [1] ?_
 (try dsimp)
 refine Ec h rfl (fun h ad1 => ?_) (fun h ad1 => ?_)
 apply Eso
 apply WM
 refine Wk [2] [] ?_
 (try dsimp)
 apply bD
 cases h
 exact fe
 apply bf
 refine aX [1, 7, 8, 9] [1] ?_
 (try dsimp)
 apply dO
 obtain ⟨g46, h⟩ := aQ h
 refine WQ (qad g46) ?_
 apply WM
 apply bW
 refine ⟨n34, (v33 + (1 : Int)), Nat.lt_succ_self _, h, ?_⟩
 exact LB
 apply Eso
 refine WQ qlA ?_
 obtain ⟨x47, abL, h⟩ := aG h
 refine W1 (dc1 hP (qB F ((nth a0.ay v33).gY) x47 abL)) ?_
 apply WM
 apply aF
 rfl
 intro b
 try rw [b]
 exact qap
 apply aF
 rfl
 intro b
 try rw [b]
 exact ql1
 apply aF
 rfl
 intro b
 try rw [b]
 exact qi
 refine WQ qan ?_
 apply WM
 refine Wk [1, 4, 5, 7, 8, 9, 19] [1, 4, 5] ?_
 (try dsimp)
 refine Ec h rfl (fun h abM => ?_) (fun h abM => ?_)
 apply bf
 refine ⟨(x47 && ((nth a0.ay v33).xUp != (-1 : Int))), h, ?_⟩
 exact LB
 apply dO
 refine WQ qlA ?_
 obtain ⟨x49, ad2, h⟩ := aG h
 refine W1 (dc1 hP (qB F ((nth a0.ay v33).gY) x49 ad2)) ?_
 refine WQ qno ?_
 apply WM
 apply aF
 rfl
 intro b
 try rw [b]
 exact qap
 apply aF
 rfl
 intro b
 try rw [b]
 exact ql1
 apply aF
 rfl
 intro b
 try rw [b]
 exact qi
 refine WQ qan ?_
 apply WM
 apply bW
 refine ⟨((!x49) && (decide ((nth a0.ay v33).xUp < (-1 : Int)))), h, ?_⟩
 exact LB
 apply gy
 refine ⟨(), h, ?_⟩
 exact LB
def uZ : cO := (q [o (.box 73 0) 2, o (.mv cn) 4] (q [o (.mv cn) 5] (.seq (q [o (.add 3 2) 8, o (.load nn 1 8) 9, o (.len nn 9) 10, o (.mv (ci 0)) 11] (.block 0 (.loop (q [o (.bin .lss 3 11 10) 12] (.seq (.cond 12 .skip (.exit 0)) (.seq (.block 1 (q [w 13 11, o (.fH 5 9 11) 14, o (.load yy 5 14) 15, o (.jm [zi, zi, zi, zi, zi]) 7, w 6 13, n_ (.store 5 7 15)] (q [o (.add 0 7) 16, o (.load yy 4 16) 17, o (.call 141 [17]) 18, o (.un .not 18) 19, w 20 19, g_ (.add 0 7) 21 20 yy, g_ (.add 1 21) 22 20 yy, g_ (.load nn 1 22) 23 20 yy, g_ (.mv 1) 24 20 yy, g_ (.bin .eql 3 23 24) 25 20 yy, o (.pick 20 25 (cb nn)) 26] (.cond 26 (.ops [w 27 5, w 28 6, o (.iW 1 3 1 [zi] [(0, (1, 28))]) 29, o (.app 47 3 1 8 27 29) 30, w 5 30]) .skip)))) (.ops [o (.bin .add 3 11 (ci 1)) 31, w 11 31]))))))) (q [w 32 5, w 4 32] .ret))))
theorem BO : Fits Tryz.prog 143 2 uZ [(.tmp 4)] := fk Tryz.func143
theorem BP (F : Nat) (a0 : aI) (a1 : Int) (r : (List Int)) (h : kM F a0 a1 = some r) : PC Tryz.prog 143 [S.agg [vi a0.bH.ak, vi a0.bH.ay, vi a0.bH.aA, sl aK a0.ay, sl aS a0.aA], (zi_ a1)] (ss aT r) := by
 unfold kM at h
 refine eu BO rfl rfl ?_
 intro C hP
 unfold uZ; dsimp
 apply Eso
 refine W1 dbx ?_
 apply WM
 refine Wk [1, 2] [2] ?_
 (try dsimp)
 apply Eso
 apply WM
 apply bW
 (try dsimp)
 obtain ⟨k2, k2d, h⟩ := eX h
 refine dJ (fun (i : (List Int)) => ⟨[(5, S.one (.own 1030 0 i.length (some (1, 3))))], [(1030, ⟨true, flat aT i⟩)]⟩) (fun i => k2 i = some r) (fun i h => ?_) ?_
 let iv := i; change k2 i = some r at h; generalize i = v1 at h ⊢
 rw [k2d] at h; dsimp only at h
 (try dsimp)
 apply Eso
 apply WM
 apply WM
 refine Wk [4] [1030] ?_
 (try dsimp)
 refine dR (kY (r := 1030) rfl rfl).b ?_
 (try dsimp)
 apply bD
 cases h
 exact fe
 apply Eso
 refine WQ qap ?_
 refine WQ ql1 ?_
 refine WQ qls ?_
 apply WM
 refine Wk [1, 5, 9, 10, 11] [] ?_
 (try dsimp)
 apply bT
 (try dsimp)
 refine eG (fun (i : Int × (List Int)) => ⟨[(1, zi_ a1), (5, S.one (.own 1030 0 i.2.length (some (1, 3)))), (9, ss aK a0.ay), (10, (zi_ ((a0.ay.length : Nat) : Int))), (11, zi_ i.1)], [(1030, ⟨true, flat aT i.2⟩)]⟩) (fun n i => iZ F a0 a1 k2 n i.1 i.2 = some r) F ((0 : Int), ([] : List Int)) h ?_ (fun n i h => ?_)
 refine fM (nT (i := 5) (r := 1030) 1 3 rfl rfl) ?_
 exact LB
 obtain ⟨v21, v22⟩ := i; dsimp only at h
 obtain _ | n23 := n
 cases h
 unfold iZ at h
 (try dsimp)
 apply Eso
 refine WQ qi ?_
 apply bW
 (try dsimp)
 apply bG
 refine Ec h rfl (fun h hc24 => ?_) (fun h hc24 => ?_)
 apply bf
 refine aX [1, 5, 9, 10, 11] [1030] ?_
 (try dsimp)
 obtain ⟨k26, abN, h⟩ := eX h
 refine dJ (fun (i : (List Int)) => ⟨[(1, zi_ a1), (5, S.one (.own 1030 0 i.length (some (1, 3)))), (9, ss aK a0.ay), (10, (zi_ ((a0.ay.length : Nat) : Int))), (11, zi_ v21)], [(1030, ⟨true, flat aT i⟩)]⟩) (fun i => k26 i = some r) (fun i h => ?_) ?_
 let iv := i; change k26 i = some r at h; generalize i = v25 at h ⊢
 rw [abN] at h; dsimp only at h
 (try dsimp)
 apply dO
 obtain ⟨g27, h⟩ := aQ h
 refine WQ (qad g27) ?_
 apply WM
 apply bW
 refine ⟨n23, ((v21 + (1 : Int)), v25), Nat.lt_succ_self _, h, ?_⟩
 exact LB
 apply bT
 apply Eso
 apply WM
 obtain ⟨g28, h⟩ := aQ h
 refine WQ (qis g28) ?_
 refine WQ (qAF 5 g28 0) ?_
 refine W1 dnv ?_
 apply WM
 refine W1 dst ?_
 refine Wk [1, 5, 6, 7, 9, 10, 11] [7, 1030] ?_
 (try dsimp)
 apply Eso
 refine WQ qap ?_
 refine WQ qlA ?_
 obtain ⟨x29, abO, h⟩ := aG h
 refine W1 (dc1 hP (qB F ((nth a0.ay v21).gY) x29 abO)) ?_
 refine WQ qno ?_
 apply WM
 apply aF
 rfl
 intro b
 try rw [b]
 exact qap
 apply aF
 rfl
 intro b
 try rw [b]
 exact qap
 apply aF
 rfl
 intro b
 try rw [b]
 exact ql1
 apply aF
 rfl
 intro b
 try rw [b]
 exact qm
 apply aF
 rfl
 intro b
 try rw [b]
 exact qi
 refine WQ qan ?_
 refine Wk [1, 5, 6, 9, 10, 11, 26] [1030] ?_
 (try dsimp)
 refine Ec h rfl (fun h Y6 => ?_) (fun h Y6 => ?_)
 apply dO
 apply WM
 apply WM
 refine W1 dbs ?_
 obtain ⟨g31, h⟩ := aQ h
 refine W1 (dY (e := aT) rfl rfl (fun _ => rfl) (fun _ => rfl) rfl (Src.lit (e := aT) ([v21] : List Int) rfl (fun _ => rfl) rfl rfl) g31 rfl) ?_
 apply WM
 apply bW
 refine ⟨(v22 ++ ([v21] : List Int)), h, ?_⟩
 exact LB
 apply bf
 refine ⟨v22, h, ?_⟩
 exact LB
 apply gy
 refine ⟨v22, h, ?_⟩
 exact LB
def wE : cO := (q [o (.box 73 0) 1, o (.mv (cb nn)) 2] (.seq (q [o (.add 4 1) 6, o (.load nn 1 6) 7, o (.len nn 7) 8, o (.mv (ci 0)) 9] (.block 0 (.loop (q [o (.bin .lss 3 9 8) 10] (.seq (.cond 10 .skip (.exit 0)) (.seq (.block 1 (q [w 11 9, o (.fH 13 7 9) 12, o (.load yy 13 12) 13, o (.jm [zi, zi, zi, zi, zi, zi, zi, zb, zu, zu, zu, zu, zu]) 4, w 3 11, n_ (.store 13 4 13)] (.seq (q [o (.load yy 13 4) 14, o (.call 100 [14]) 15, o (.un .not 15) 16] (.cond 16 (q [o (.mv (cb nn)) 2] .ret) .skip)) (.seq (q [o (.add 5 4) 17, o (.load nn 1 17) 18, o (.bin .gtr 3 18 (ci 0)) 19, w 20 19, g_ (.add 5 4) 21 20 yy, g_ (.load nn 1 21) 22 20 yy, g_ (.add 3 1) 23 20 yy, g_ (.load nn 1 23) 24 20 yy, g_ (.len nn 24) 25 20 yy, g_ (.bin .gtr 3 22 25) 26 20 yy, g_ (.mv 26) 27 20 yy, g_ (.add 3 1) 28 27 nn, g_ (.load nn 1 28) 29 27 nn, g_ (.add 5 4) 30 27 nn, g_ (.load nn 1 30) 31 27 nn, g_ (.bin .sub 3 31 (ci 1)) 32 27 nn, g_ (.fH 5 29 32) 33 27 nn, g_ (.add 0 33) 34 27 nn, g_ (.load yy 4 34) 35 27 nn, g_ (.call 141 [35]) 36 27 nn, g_ (.pick 27 (cb yy) 36) 37 20 yy, o (.pick 20 37 (cb nn)) 38] (.cond 38 (q [o (.mv (cb nn)) 2] .ret) .skip)) (q [w 39 3, o (.bin .geq 3 39 (ci 2)) 40, w 41 40, g_ (.mv 3) 42 41 yy, g_ (.add 0 1) 43 41 yy, g_ (.add 0 43) 44 41 yy, g_ (.load nn 1 44) 45 41 yy, g_ (.bin .add 3 (ci 2) 45) 46 41 yy, g_ (.bin .lss 3 42 46) 47 41 yy, o (.pick 41 47 (cb nn)) 48, w 5 48] (.seq (.seq (.draw [((w 49 5), []), ((w 50 49), [0]), ((g_ (.load yy 13 4) 51 50 yy), [1]), ((g_ (.add 0 1) 52 50 yy), [1]), ((g_ (.load yy 3 52) 53 50 yy), [3, 1]), ((g_ (.mv 3) 54 50 yy), [1]), ((g_ (.bin .sub 3 54 (ci 2)) 55 50 yy), [5, 1]), ((g_ (.call 61 [53, 55]) 56 50 yy), [4, 6, 1, 1]), ((g_ (.build [zi, zi, zi, zi, zi, zi, zi, zb, zu, zu, zu, zu, zu] [(0, (1, (ci 2))), (1, (1, (ci 3))), (2, (1, 56))]) 57 50 yy), [7, 1]), ((g_ (.eqA yy 122 51 57) 58 50 yy), [2, 8, 1]), ((o (.pick 50 58 (cb nn)) 59), [1, 9])]) (.cond 59 (q [o (.mv (cb nn)) 2] .ret) .skip)) (q [w 60 5, o (.un .not 60) 61, w 62 61, g_ (.add 0 4) 63 62 yy, g_ (.load nn 1 63) 64 62 yy, g_ (.bin .neq 3 64 (ci 0)) 65 62 yy, o (.pick 62 65 (cb nn)) 66, w 67 66, g_ (.load yy 5 1) 68 67 yy, g_ (.mv 3) 69 67 yy, g_ (.call 143 [68, 69]) 70 67 yy, g_ (.len nn 70) 71 67 yy, g_ (.bin .eql 3 71 (ci 0)) 72 67 yy, o (.pick 67 72 (cb nn)) 73] (.cond 73 (q [o (.mv (cb nn)) 2] .ret) .skip)))))))) (.ops [o (.bin .add 3 9 (ci 1)) 74, w 9 74]))))))) (q [o (.mv (cb yy)) 2] .ret)))
theorem CW : Fits Tryz.prog 111 1 wE [(.tmp 2)] := fk Tryz.func111
theorem CX (F : Nat) (a0 : aI) (r : Bool) (h : jO F a0 = some r) : PC Tryz.prog 111 [S.agg [vi a0.bH.ak, vi a0.bH.ay, vi a0.bH.aA, sl aK a0.ay, sl aS a0.aA]] (zb_ r) := by
 unfold jO at h
 refine eu CW rfl rfl ?_
 intro C hP
 unfold wE; dsimp
 apply Eso
 refine W1 dbx ?_
 apply WM
 refine Wk [1] [1] ?_
 (try dsimp)
 obtain ⟨k1, k1d, h⟩ := eX h
 refine dJ (fun (i : Unit) => ⟨[], []⟩) (fun i => k1 () = some r) (fun i h => ?_) ?_
 rw [k1d] at h; dsimp only at h
 (try dsimp)
 apply Eso
 apply WM
 apply bW
 (try dsimp)
 apply bD
 cases h
 exact fe
 apply Eso
 refine WQ qap ?_
 refine WQ ql1 ?_
 refine WQ qls ?_
 apply WM
 refine Wk [1, 7, 8, 9] [1] ?_
 (try dsimp)
 apply bT
 (try dsimp)
 refine eG (fun (i : Int) => ⟨[(1, S.one (.ptr 1 0)), (7, ss aS a0.aA), (8, (zi_ ((a0.aA.length : Nat) : Int))), (9, zi_ i)], [(1, ⟨true, [vi a0.bH.ak, vi a0.bH.ay, vi a0.bH.aA, sl aK a0.ay, sl aS a0.aA]⟩)]⟩) (fun n i => fC F a0 k1 n i = some r) F (0 : Int) h ?_ (fun n i h => ?_)
 exact LB
 generalize i = v33 at h ⊢
 obtain _ | n34 := n
 cases h
 unfold fC at h
 (try dsimp)
 apply Eso
 refine WQ qi ?_
 apply bW
 (try dsimp)
 apply bG
 refine Ec h rfl (fun h UN => ?_) (fun h UN => ?_)
 apply bf
 refine aX [1, 7, 8, 9] [1] ?_
 (try dsimp)
 apply bG
 apply bT
 apply Eso
 apply WM
 obtain ⟨g36, h⟩ := aQ h
 refine WQ (qis g36) ?_
 refine WQ (qAF 13 g36 0) ?_
 refine W1 dnv ?_
 apply WM
 refine W1 dst ?_
 refine Wk [1, 3, 4, 7, 8, 9] [1, 4] ?_
 (try dsimp)
 apply bG
 apply Eso
 refine WQ qlA ?_
 obtain ⟨x37, Y5, h⟩ := aG h
 refine W1 (dc1 hP (AA F (nth a0.aA v33) x37 Y5)) ?_
 refine WQ qno ?_
 refine Wk [1, 3, 4, 7, 8, 9, 16] [1, 4] ?_
 (try dsimp)
 refine Ec h rfl (fun h hc38 => ?_) (fun h hc38 => ?_)
 apply Eso
 apply WM
 refine Wk [2] [] ?_
 (try dsimp)
 apply bD
 cases h
 exact fe
 apply bf
 refine aX [1, 3, 4, 7, 8, 9] [1, 4] ?_
 (try dsimp)
 apply bG
 apply Eso
 refine WQ qap ?_
 refine WQ ql1 ?_
 refine WQ qi ?_
 apply WM
 apply aF
 rfl
 intro b
 try rw [b]
 exact qap
 apply aF
 rfl
 intro b
 try rw [b]
 exact ql1
 apply aF
 rfl
 intro b
 try rw [b]
 exact qap
 apply aF
 rfl
 intro b
 try rw [b]
 exact ql1
 apply aF
 rfl
 intro b
 try rw [b]
 exact qls
 apply aF
 rfl
 intro b
 try rw [b]
 exact qi
 apply aF
 rfl
 intro b
 try rw [b]
 exact qm
 apply kJ
 rfl
 intro hA hB; (try simp only [hA, hB, bss, Bool.and_true, Bool.true_and, ctt]); exact (qap).does
 apply kJ
 rfl
 intro hA hB; (try simp only [hA, hB, bss, Bool.and_true, Bool.true_and, ctt]); exact (ql1).does
 apply kJ
 rfl
 intro hA hB; (try simp only [hA, hB, bss, Bool.and_true, Bool.true_and, ctt]); exact (qap).does
 apply kJ
 rfl
 intro hA hB; (try simp only [hA, hB, bss, Bool.and_true, Bool.true_and, ctt]); exact (ql1).does
 obtain ⟨g39, h⟩ := aQ h
 apply kJ
 rfl
 intro hA hB; (try simp only [hA, hB, bss, Bool.and_true, Bool.true_and, ctt]); exact (SA rfl rfl (g39 hA hB).1 (g39 hA hB).2).does
 obtain ⟨g40, h⟩ := aQ h
 apply kJ
 rfl
 intro hA hB; (try simp only [hA, hB, bss, Bool.and_true, Bool.true_and, ctt]); exact (CU rfl rfl (g40 hA hB).1 (g40 hA hB).2).does
 apply kJ
 rfl
 intro hA hB; (try simp only [hA, hB, bss, Bool.and_true, Bool.true_and, ctt]); exact (sJ rfl).does
 apply kJ
 rfl
 intro hA hB; (try simp only [hA, hB, bss, Bool.and_true, Bool.true_and, ctt]); exact (CY (k := 5) rfl (fun _ => rfl) (g40 hA hB) 0 rfl rfl rfl).does
 obtain ⟨x41, Y7, h⟩ := aG h
 apply kJ
 rfl
 intro hA hB; (try simp only [hA, hB, bss, Bool.and_true, Bool.true_and, ctt]); exact dc1 hP (qB F ((nth a0.ay ((nth a0.aA v33).eH - (1 : Int))).gY) x41 (jA Y7 (bt2 hA hB)))
 apply aF
 rfl
 intro b
 try rw [b]
 exact qor
 refine WQ qan ?_
 refine Wk [1, 3, 4, 7, 8, 9, 38] [1, 4] ?_
 (try dsimp)
 refine Ec h rfl (fun h abP => ?_) (fun h abP => ?_)
 apply Eso
 apply WM
 refine Wk [2] [] ?_
 (try dsimp)
 apply bD
 cases h
 exact fe
 apply bf
 refine aX [1, 3, 4, 7, 8, 9] [1, 4] ?_
 (try dsimp)
 apply Eso
 apply WM
 refine WQ qi ?_
 apply WM
 apply aF
 rfl
 intro b
 try rw [b]
 exact qm
 apply aF
 rfl
 intro b
 try rw [b]
 exact qap
 apply aF
 rfl
 intro b
 try rw [b]
 exact qap
 apply aF
 rfl
 intro b
 try rw [b]
 exact ql1
 obtain ⟨g43, h⟩ := aQ h
 apply aF
 rfl
 intro b
 try rw [b]
 exact qad (g43 b)
 apply aF
 rfl
 intro b
 try rw [b]
 exact qi
 refine WQ qan ?_
 apply WM
 refine Wk [1, 3, 4, 5, 7, 8, 9] [1, 4] ?_
 (try dsimp)
 apply bG
 apply bG
 obtain ⟨g44, h⟩ := aQ h
 obtain ⟨x45, ad3, h⟩ := aG h
 refine ig [0, 1, 2, 3, 4, 5, 6, 8, 9, 10] ?_
 refine XQ 0 rfl rfl rfl qm ?_
 refine XQ 1 rfl rfl rfl qm ?_
 apply fO 2
 rfl
 rfl
 rfl
 rfl
 intro hB; (try rw [hB]); exact qlA
 apply fO 3
 rfl
 rfl
 rfl
 rfl
 intro hB; (try rw [hB]); exact qap
 apply fO 4
 rfl
 rfl
 rfl
 rfl
 intro hB; (try rw [hB]); exact qlA
 apply fO 5
 rfl
 rfl
 rfl
 rfl
 intro hB; (try rw [hB]); exact qm
 apply fO 6
 rfl
 rfl
 rfl
 rfl
 intro hB; (try rw [hB]); exact qsu (g44 hB)
 (try dsimp)
 refine X1 rfl ?_
 apply AB
 rfl
 rfl
 intro hB; (try rw [hB]); exact dc1 hP (Fg F a0.bH (v33 - (2 : Int)) x45 (jA ad3 (bt hB)))
 apply fO 8
 rfl
 rfl
 rfl
 rfl
 intro hB; (try rw [hB]); exact qbu
 apply fO 9
 rfl
 rfl
 rfl
 rfl
 intro hB; (try rw [hB]); exact rJ hP Qa rfl rfl rfl rfl ⟨rfl, ⟨rfl, ⟨rfl, ⟨rfl, ⟨rfl, ⟨rfl, ⟨rfl, ⟨trivial, ⟨rfl, ⟨rfl, ⟨rfl, ⟨rfl, ⟨rfl, trivial⟩⟩⟩⟩⟩⟩⟩⟩⟩⟩⟩⟩⟩
 refine XQ 10 rfl rfl rfl qan ?_
 refine dL rfl ?_
 refine aX [1, 3, 4, 5, 7, 8, 9, 59] [1, 4] ?_
 (try dsimp)
 refine Ec h rfl (fun h ad4 => ?_) (fun h ad4 => ?_)
 apply Eso
 apply WM
 refine Wk [2] [] ?_
 (try dsimp)
 apply bD
 cases h
 exact fe
 apply bf
 refine aX [1, 3, 4, 5, 7, 8, 9] [1, 4] ?_
 (try dsimp)
 apply Eso
 apply WM
 refine WQ qno ?_
 apply WM
 apply aF
 rfl
 intro b
 try rw [b]
 exact qap
 apply aF
 rfl
 intro b
 try rw [b]
 exact ql1
 apply aF
 rfl
 intro b
 try rw [b]
 exact qi
 refine WQ qan ?_
 apply WM
 apply aF
 rfl
 intro b
 try rw [b]
 exact qlA
 apply aF
 rfl
 intro b
 try rw [b]
 exact qm
 obtain ⟨x47, abL, h⟩ := aG h
 apply iM
 rfl
 intro hB; (try rw [hB]); exact dc1 hP (BP F a0 v33 x47 (jA abL (bt hB)))
 apply aF
 rfl
 intro b
 try rw [b]
 exact qls
 apply aF
 rfl
 intro b
 try rw [b]
 exact qi
 refine WQ qan ?_
 refine Wk [1, 7, 8, 9, 73] [1] ?_
 (try dsimp)
 refine Ec h rfl (fun h abM => ?_) (fun h abM => ?_)
 apply Eso
 apply WM
 refine Wk [2] [] ?_
 (try dsimp)
 apply bD
 cases h
 exact fe
 apply bf
 refine aX [1, 7, 8, 9] [1] ?_
 (try dsimp)
 apply dO
 obtain ⟨g49, h⟩ := aQ h
 refine WQ (qad g49) ?_
 apply WM
 apply bW
 refine ⟨n34, (v33 + (1 : Int)), Nat.lt_succ_self _, h, ?_⟩
 exact LB
 apply gy
 refine ⟨(), h, ?_⟩
 exact LB
def wU : cO := (q [o (.box 73 0) 1, o (.mv (cb nn)) 2] (q [o (.add 3 1) 10, o (.load nn 1 10) 11, o (.len nn 11) 12, o (.mk 210 4 1 1 [zb] 12 12) 13, w 3 13] (.seq (q [o (.add 4 1) 14, o (.load nn 1 14) 15, o (.len nn 15) 16, o (.mv (ci 0)) 17] (.block 0 (.loop (q [o (.bin .lss 3 17 16) 18] (.seq (.cond 18 .skip (.exit 0)) (.seq (.block 1 (q [o (.fH 13 15 17) 19, o (.load yy 13 19) 20, o (.jm [zi, zi, zi, zi, zi, zi, zi, zb, zu, zu, zu, zu, zu]) 5, n_ (.store 13 5 20)] (.seq (q [o (.add 0 5) 21, o (.load nn 1 21) 22, o (.bin .neq 3 22 (ci 2)) 23] (.cond 23 (.exit 1) .skip)) (q [o (.add 1 5) 24, o (.load nn 1 24) 25, o (.bin .shl 3 (ci 1) 25) 26, o (.mv (ci 0)) 27] (.block 2 (.loop (q [o (.bin .lss 3 27 26) 28] (.seq (.cond 28 .skip (.exit 2)) (.seq (.block 3 (q [w 29 27, w 6 29] (q [o (.add 2 5) 30, o (.load nn 1 30) 31, w 32 6, o (.bin .add 3 31 32) 33, w 7 33] (.seq (q [w 34 7, w 35 3, o (.len nn 35) 36, o (.bin .geq 3 34 36) 37, w 38 37, g_ (.mv 3) 39 38 nn, g_ (.mv 7) 40 38 nn, g_ (.fH 1 39 40) 41 38 nn, g_ (.load nn 1 41) 42 38 nn, o (.pick 38 (cb yy) 42) 43] (.cond 43 (q [o (.mv (cb nn)) 2] .ret) .skip)) (.ops [w 44 3, w 45 7, o (.fH 1 44 45) 46, n_ (.store 1 46 (cb yy))]))))) (.ops [o (.bin .add 3 27 (ci 1)) 47, w 27 47])))))))))) (.ops [o (.bin .add 3 17 (ci 1)) 48, w 17 48]))))))) (.seq (q [o (.add 3 1) 49, o (.load nn 1 49) 50, o (.len nn 50) 51, o (.mv (ci 0)) 52] (.block 4 (.loop (q [o (.bin .lss 3 52 51) 53] (.seq (.cond 53 .skip (.exit 4)) (.seq (.block 5 (q [w 54 52, o (.fH 5 50 52) 55, o (.load yy 5 55) 56, o (.jm [zi, zi, zi, zi, zi]) 9, w 8 54, n_ (.store 5 9 56)] (q [w 57 3, w 58 8, o (.fH 1 57 58) 59, o (.load nn 1 59) 60, o (.un .not 60) 61, w 62 61, g_ (.add 0 9) 63 62 yy, g_ (.load yy 4 63) 64 62 yy, g_ (.call 141 [64]) 65 62 yy, g_ (.un .not 65) 66 62 yy, o (.pick 62 66 (cb nn)) 67] (.cond 67 (q [o (.mv (cb nn)) 2] .ret) .skip)))) (.ops [o (.bin .add 3 52 (ci 1)) 68, w 52 68]))))))) (q [o (.mv (cb yy)) 2] .ret)))))
theorem Es : Fits Tryz.prog 112 1 wU [(.tmp 2)] := fk Tryz.func112
theorem Et (F : Nat) (a0 : aI) (r : Bool) (h : kD F a0 = some r) : PC Tryz.prog 112 [S.agg [vi a0.bH.ak, vi a0.bH.ay, vi a0.bH.aA, sl aK a0.ay, sl aS a0.aA]] (zb_ r) := by
 unfold kD at h
 refine eu Es rfl rfl ?_
 intro C hP
 unfold wU; dsimp
 apply Eso
 refine W1 dbx ?_
 apply WM
 refine Wk [1] [1] ?_
 (try dsimp)
 apply Eso
 refine WQ qap ?_
 refine WQ ql1 ?_
 refine WQ qls ?_
 obtain ⟨g1, h⟩ := aQ h
 refine W1 (nS (e := Fb) false rfl rfl rfl (fun _ => rfl) g1.1 g1.2.1 g1.2.2.1 g1.2.2.2 rfl) ?_
 apply WM
 refine Wk [1, 3] [1, 13] ?_
 (try dsimp)
 obtain ⟨k3, k3d, h⟩ := eX h
 refine dJ (fun (i : (List Bool)) => ⟨[(1, S.one (.ptr 1 0)), (3, S.one (.own 13 0 i.length (some (1, 4))))], [(1, ⟨true, [vi a0.bH.ak, vi a0.bH.ay, vi a0.bH.aA, sl aK a0.ay, sl aS a0.aA]⟩), (13, ⟨true, flat Fb i⟩)]⟩) (fun i => k3 i = some r) (fun i h => ?_) ?_
 let iv := i; change k3 i = some r at h; generalize i = v2 at h ⊢
 rw [k3d] at h; dsimp only at h
 (try dsimp)
 obtain ⟨k4, k4d, h⟩ := eX h
 refine dJ (fun (i : Unit) => ⟨[], []⟩) (fun i => k4 () = some r) (fun i h => ?_) ?_
 rw [k4d] at h; dsimp only at h
 (try dsimp)
 apply Eso
 apply WM
 apply bW
 (try dsimp)
 apply bD
 cases h
 exact fe
 apply Eso
 refine WQ qap ?_
 refine WQ ql1 ?_
 refine WQ qls ?_
 apply WM
 refine Wk [3, 50, 51, 52] [13] ?_
 (try dsimp)
 apply bT
 (try dsimp)
 refine eG (fun (i : Int) => ⟨[(3, S.one (.own 13 0 v2.length (some (1, 4)))), (50, ss aK a0.ay), (51, (zi_ ((a0.ay.length : Nat) : Int))), (52, zi_ i)], [(13, ⟨true, flat Fb v2⟩)]⟩) (fun n i => fJ F a0 v2 k4 n i = some r) F (0 : Int) h ?_ (fun n i h => ?_)
 exact LB
 generalize i = v18 at h ⊢
 obtain _ | n19 := n
 cases h
 unfold fJ at h
 (try dsimp)
 apply Eso
 refine WQ qi ?_
 apply bW
 (try dsimp)
 apply bG
 refine Ec h rfl (fun h ad5 => ?_) (fun h ad5 => ?_)
 apply bf
 refine aX [3, 50, 51, 52] [13] ?_
 (try dsimp)
 apply bG
 apply bT
 apply Eso
 apply WM
 obtain ⟨g21, h⟩ := aQ h
 refine WQ (qis g21) ?_
 refine WQ (qAF 5 g21 0) ?_
 refine W1 dnv ?_
 apply WM
 refine W1 dst ?_
 refine Wk [3, 8, 9, 50, 51, 52] [9, 13] ?_
 (try dsimp)
 apply Eso
 apply WM
 apply WM
 obtain ⟨g22, h⟩ := aQ h
 refine WQ (qio g22) ?_
 refine WQ (gB (k := 1) rfl rfl (fun _ => rfl) g22 0 (by omega) rfl) ?_
 refine WQ qno ?_
 apply WM
 apply aF
 rfl
 intro b
 try rw [b]
 exact qap
 apply aF
 rfl
 intro b
 try rw [b]
 exact qlA
 obtain ⟨x23, Y8, h⟩ := aG h
 apply iM
 rfl
 intro hB; (try rw [hB]); exact dc1 hP (qB F ((nth a0.ay v18).gY) x23 (jA Y8 (bt hB)))
 apply aF
 rfl
 intro b
 try rw [b]
 exact qno
 refine WQ qan ?_
 refine Wk [3, 50, 51, 52, 67] [13] ?_
 (try dsimp)
 refine Ec h rfl (fun h hc24 => ?_) (fun h hc24 => ?_)
 apply Eso
 apply WM
 refine Wk [2] [] ?_
 (try dsimp)
 apply bD
 cases h
 exact fe
 apply bf
 refine aX [3, 50, 51, 52] [13] ?_
 (try dsimp)
 apply dO
 obtain ⟨g25, h⟩ := aQ h
 refine WQ (qad g25) ?_
 apply WM
 apply bW
 refine ⟨n19, (v18 + (1 : Int)), Nat.lt_succ_self _, h, ?_⟩
 exact LB
 apply gy
 refine ⟨(), h, ?_⟩
 exact LB
 apply Eso
 refine WQ qap ?_
 refine WQ ql1 ?_
 refine WQ qls ?_
 apply WM
 refine Wk [1, 3, 15, 16, 17] [1, 13] ?_
 (try dsimp)
 apply bT
 (try dsimp)
 refine eG (fun (i : Int × (List Bool)) => ⟨[(1, S.one (.ptr 1 0)), (3, S.one (.own 13 0 i.2.length (some (1, 4)))), (15, ss aS a0.aA), (16, (zi_ ((a0.aA.length : Nat) : Int))), (17, zi_ i.1)], [(1, ⟨true, [vi a0.bH.ak, vi a0.bH.ay, vi a0.bH.aA, sl aK a0.ay, sl aS a0.aA]⟩), (13, ⟨true, flat Fb i.2⟩)]⟩) (fun n i => fA F a0 k3 n i.1 i.2 = some r) F ((0 : Int), (List.replicate ((a0.ay.length : Nat) : Int).toNat false)) h ?_ (fun n i h => ?_)
 exact LB
 obtain ⟨v88, v89⟩ := i; dsimp only at h
 obtain _ | n90 := n
 cases h
 unfold fA at h
 (try dsimp)
 apply Eso
 refine WQ qi ?_
 apply bW
 (try dsimp)
 apply bG
 refine Ec h rfl (fun h hc91 => ?_) (fun h hc91 => ?_)
 apply bf
 refine aX [1, 3, 15, 16, 17] [1, 13] ?_
 (try dsimp)
 obtain ⟨k93, ad6, h⟩ := eX h
 refine dJ (fun (i : (List Bool)) => ⟨[(1, S.one (.ptr 1 0)), (3, S.one (.own 13 0 i.length (some (1, 4)))), (15, ss aS a0.aA), (16, (zi_ ((a0.aA.length : Nat) : Int))), (17, zi_ v88)], [(1, ⟨true, [vi a0.bH.ak, vi a0.bH.ay, vi a0.bH.aA, sl aK a0.ay, sl aS a0.aA]⟩), (13, ⟨true, flat Fb i⟩)]⟩) (fun i => k93 i = some r) (fun i h => ?_) ?_
 let iv := i; change k93 i = some r at h; generalize i = v92 at h ⊢
 rw [ad6] at h; dsimp only at h
 (try dsimp)
 apply dO
 obtain ⟨g94, h⟩ := aQ h
 refine WQ (qad g94) ?_
 apply WM
 apply bW
 refine ⟨n90, ((v88 + (1 : Int)), v92), Nat.lt_succ_self _, h, ?_⟩
 exact LB
 apply bT
 apply Eso
 obtain ⟨g95, h⟩ := aQ h
 refine WQ (qis g95) ?_
 refine WQ (qAF 13 g95 0) ?_
 refine W1 dnv ?_
 refine W1 dst ?_
 refine Wk [1, 3, 5, 15, 16, 17] [1, 5, 13] ?_
 (try dsimp)
 apply bG
 apply Eso
 refine WQ qap ?_
 refine WQ ql1 ?_
 refine WQ qi ?_
 refine Wk [1, 3, 5, 15, 16, 17, 23] [1, 5, 13] ?_
 (try dsimp)
 refine Ec h rfl (fun h hc96 => ?_) (fun h hc96 => ?_)
 apply gy
 refine ⟨v89, h, ?_⟩
 exact LB
 apply bf
 refine aX [1, 3, 5, 15, 16, 17] [1, 5, 13] ?_
 (try dsimp)
 apply Eso
 refine WQ qap ?_
 refine WQ ql1 ?_
 obtain ⟨g97, h⟩ := aQ h
 refine WQ (wC rfl rfl g97) ?_
 apply WM
 refine Wk [1, 3, 5, 15, 16, 17, 26, 27] [1, 5, 13] ?_
 (try dsimp)
 apply bT
 (try dsimp)
 refine eG (fun (i : Int × (List Bool)) => ⟨[(1, S.one (.ptr 1 0)), (3, S.one (.own 13 0 i.2.length (some (1, 4)))), (5, S.one (.ptr 5 0)), (15, ss aS a0.aA), (16, (zi_ ((a0.aA.length : Nat) : Int))), (17, zi_ v88), (26, (zi_ (pF .i64 (1 : Int) ((nth a0.aA v88).iY)))), (27, zi_ i.1)], [(1, ⟨true, [vi a0.bH.ak, vi a0.bH.ay, vi a0.bH.aA, sl aK a0.ay, sl aS a0.aA]⟩), (5, ⟨true, [vi (nth a0.aA v88).xType, vi (nth a0.aA v88).iY, vi (nth a0.aA v88).jw, vi (nth a0.aA v88).mM, vi (nth a0.aA v88).nK, vi (nth a0.aA v88).eH, vi (nth a0.aA v88).gI, vb (nth a0.aA v88).qJ, vu (nth a0.aA v88).lD, vu (nth a0.aA v88).dn.c0, vu (nth a0.aA v88).dn.c1, vu (nth a0.aA v88).dn.c2, vu (nth a0.aA v88).dn.c3]⟩), (13, ⟨true, flat Fb i.2⟩)]⟩) (fun n i => eY F a0 v88 k93 n i.1 i.2 = some r) F ((0 : Int), v89) h ?_ (fun n i h => ?_)
 exact LB
 obtain ⟨Gu, JK⟩ := i; dsimp only at h
 obtain _ | n114 := n
 cases h
 unfold eY at h
 (try dsimp)
 apply Eso
 refine WQ qi ?_
 apply bW
 (try dsimp)
 apply bG
 refine Ec h rfl (fun h hc115 => ?_) (fun h hc115 => ?_)
 apply bf
 refine aX [1, 3, 5, 15, 16, 17, 26, 27] [1, 5, 13] ?_
 (try dsimp)
 apply bG
 apply bT
 apply Eso
 apply WM
 apply WM
 refine Wk [1, 3, 5, 6, 15, 16, 17, 26, 27] [1, 5, 13] ?_
 (try dsimp)
 apply Eso
 refine WQ qap ?_
 refine WQ ql1 ?_
 apply WM
 obtain ⟨ad7, h⟩ := aQ h
 refine WQ (qad ad7) ?_
 apply WM
 refine Wk [1, 3, 5, 7, 15, 16, 17, 26, 27] [1, 5, 13] ?_
 (try dsimp)
 apply bG
 apply Eso
 apply WM
 apply WM
 refine WQ (jg rfl rfl) ?_
 refine WQ qi ?_
 apply WM
 apply aF
 rfl
 intro b
 try rw [b]
 exact qm
 apply aF
 rfl
 intro b
 try rw [b]
 exact qm
 obtain ⟨abQ, h⟩ := aQ h
 apply aF
 rfl
 intro b
 try rw [b]
 exact GH rfl rfl rfl (abQ b).1 (abQ b).2
 apply aF
 rfl
 intro b
 try rw [b]
 exact gB (k := 1) rfl rfl (fun _ => rfl) (abQ b) 0 (by omega) rfl
 refine WQ qor ?_
 refine Wk [1, 3, 5, 7, 15, 16, 17, 26, 27, 43] [1, 5, 13] ?_
 (try dsimp)
 refine Ec h rfl (fun h acY => ?_) (fun h acY => ?_)
 apply Eso
 apply WM
 refine Wk [2] [] ?_
 (try dsimp)
 apply bD
 cases h
 exact fe
 apply bf
 refine aX [1, 3, 5, 7, 15, 16, 17, 26, 27] [1, 5, 13] ?_
 (try dsimp)
 apply dO
 apply WM
 apply WM
 obtain ⟨acZ, h⟩ := aQ h
 refine WQ (qio acZ) ?_
 refine W1 (dI (e := Fb) (n := 1) (k := 1) rfl rfl (fun _ => rfl) acZ 0 (by omega) rfl rfl rfl (by decide) true rfl (by decide) rfl) ?_
 refine Wk [1, 3, 5, 15, 16, 17, 26, 27] [1, 5, 13] ?_
 (try dsimp)
 apply dO
 obtain ⟨ad8, h⟩ := aQ h
 refine WQ (qad ad8) ?_
 apply WM
 apply bW
 refine ⟨n114, ((Gu + (1 : Int)), (dZ JK ((nth a0.aA v88).jw + Gu) true)), Nat.lt_succ_self _, h, ?_⟩
 refine fM (jM (i := 3) _ rfl (by simp [aj, au, ah] : JK.length = (dZ JK ((nth a0.aA v88).jw + Gu) true).length)).b ?_
 exact LB
 apply gy
 refine ⟨JK, h, ?_⟩
 exact LB
 apply gy
 refine ⟨v89, h, ?_⟩
 exact LB
def Jg : cO := (q [o (.box 122 0) 2, o (.mv (cb nn)) 4] (.seq (.draw [((o (.add 0 2) 5), []), ((o (.load nn 1 5) 6), [0]), ((o (.bin .eql 3 6 (ci 2)) 7), [1]), ((w 8 7), [2]), ((g_ (.mv 1) 9 8 yy), [3]), ((g_ (.add 2 2) 10 8 yy), [3]), ((g_ (.load nn 1 10) 11 8 yy), [5, 3]), ((g_ (.bin .geq 3 9 11) 12 8 yy), [4, 6, 3]), ((o (.pick 8 12 (cb nn)) 13), [3, 7]), ((w 14 13), [8, 3]), ((g_ (.mv 1) 15 14 yy), [9]), ((g_ (.add 2 2) 16 14 yy), [9]), ((g_ (.load nn 1 16) 17 14 yy), [11, 9]), ((g_ (.add 1 2) 18 14 yy), [9]), ((g_ (.load nn 1 18) 19 14 yy), [13, 9]), ((g_ (.bin .shl 3 (ci 1) 19) 20 14 yy), [14, 9]), ((g_ (.bin .add 3 17 20) 21 14 yy), [12, 15, 9]), ((g_ (.bin .lss 3 15 21) 22 14 yy), [10, 16, 9]), ((o (.pick 14 22 (cb nn)) 23), [9, 17]), ((w 4 23), [18, 9, 0, 1, 2, 3, 4, 5, 6, 7, 8, 9, 10, 11, 12, 13, 14, 15, 16, 17, 18])]) .ret))
theorem SB : Fits Tryz.prog 201 2 Jg [(.tmp 4)] := fk Tryz.func201
theorem Jh (F : Nat) (a0 : aH) (a1 : Int) (r : Bool) (h : uq F a0 a1 = some r) : PC Tryz.prog 201 [S.agg [vi a0.xType, vi a0.iY, vi a0.jw, vi a0.mM, vi a0.nK, vi a0.eH, vi a0.gI, vb a0.qJ, vu a0.lD, vu a0.dn.c0, vu a0.dn.c1, vu a0.dn.c2, vu a0.dn.c3], (zi_ a1)] (zb_ r) := by
 unfold uq at h
 refine eu SB rfl rfl ?_
 intro C hP
 unfold Jg; dsimp
 apply Eso
 refine W1 dbx ?_
 apply WM
 refine Wk [1, 2] [2] ?_
 (try dsimp)
 apply bG
 obtain ⟨g1, h⟩ := aQ h
 obtain ⟨g2, h⟩ := aQ h
 refine ig [0, 1, 2, 3, 4, 5, 6, 7, 8, 9, 10, 11, 12, 13, 14, 15, 16, 17, 18, 19] ?_
 refine XQ 0 rfl rfl rfl qap ?_
 refine XQ 1 rfl rfl rfl ql1 ?_
 refine XQ 2 rfl rfl rfl qi ?_
 refine XQ 3 rfl rfl rfl qm ?_
 apply fO 4
 rfl
 rfl
 rfl
 rfl
 intro hB; (try rw [hB]); exact qm
 apply fO 5
 rfl
 rfl
 rfl
 rfl
 intro hB; (try rw [hB]); exact qap
 apply fO 6
 rfl
 rfl
 rfl
 rfl
 intro hB; (try rw [hB]); exact ql1
 apply fO 7
 rfl
 rfl
 rfl
 rfl
 intro hB; (try rw [hB]); exact qi
 refine XQ 8 rfl rfl rfl qan ?_
 refine XQ 9 rfl rfl rfl qm ?_
 apply fO 10
 rfl
 rfl
 rfl
 rfl
 intro hB; (try rw [hB]); exact qm
 apply fO 11
 rfl
 rfl
 rfl
 rfl
 intro hB; (try rw [hB]); exact qap
 apply fO 12
 rfl
 rfl
 rfl
 rfl
 intro hB; (try rw [hB]); exact ql1
 apply fO 13
 rfl
 rfl
 rfl
 rfl
 intro hB; (try rw [hB]); exact qap
 apply fO 14
 rfl
 rfl
 rfl
 rfl
 intro hB; (try rw [hB]); exact ql1
 apply fO 15
 rfl
 rfl
 rfl
 rfl
 intro hB; (try rw [hB]); exact wC rfl rfl (g1 hB)
 apply fO 16
 rfl
 rfl
 rfl
 rfl
 intro hB; (try rw [hB]); exact qad (g2 hB)
 apply fO 17
 rfl
 rfl
 rfl
 rfl
 intro hB; (try rw [hB]); exact qi
 refine XQ 18 rfl rfl rfl qan ?_
 refine XQ 19 rfl rfl rfl qm ?_
 refine dL rfl ?_
 refine aX [4] [] ?_
 (try dsimp)
 apply bD
 cases h
 exact fe
end Go.V.P
