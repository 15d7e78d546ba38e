/- Walks: each function does what its model says. No premises. -/
import Derived.Test.YtopidcbmhdeclaaGreatP2
set_option linter.unusedVariables false
set_option linter.unusedSimpArgs false
set_option maxRecDepth 20000
set_option maxHeartbeats 4000000
namespace Go.V.P
open Go.V Go.Proofs
def OT : cO := (q [o (.mv (.const (.int .u64 0))) 4, o (.mv (cb nn)) 5] (.seq (q [w 9 0, o (.call 123 [9]) 10, o (.un .not 10) 11, w 12 11, g_ (.mv 0) 13 12 nn, g_ (.len nn 13) 14 12 nn, g_ (.mv 1) 15 12 nn, g_ (.len nn 15) 16 12 nn, g_ (.bin .neq 3 14 16) 17 12 nn, o (.pick 12 (cb yy) 17) 18] (.cond 18 (q [o (.mv (.const (.int .u64 0))) 4, o (.mv (cb nn)) 5] .ret) .skip)) (q [o (.mv (.const (.int .u64 0))) 6] (.seq (q [w 19 0, o (.len nn 19) 20, o (.mv (ci 0)) 21] (.block 0 (.loop (q [o (.bin .lss 3 21 20) 22] (.seq (.cond 22 .skip (.exit 0)) (.seq (.block 1 (q [w 23 21, o (.fH 2 19 21) 24, o (.load yy 2 24) 25, o (.jm [zi, zi]) 8, w 7 23, n_ (.store 2 8 25)] (.seq (.seq (.draw [((w 26 1), []), ((w 27 7), []), ((o (.fH 1 26 27) 28), [0, 1]), ((o (.load nn 1 28) 29), [2]), ((o (.load yy 2 8) 30), []), ((o (.call 124 [30]) 31), [4]), ((o (.add 0 8) 32), []), ((o (.load nn 1 32) 33), [6]), ((o (.bin .shr 22 31 33) 34), [5, 7]), ((o (.bin .gtr 22 29 34) 35), [3, 8])]) (.cond 35 (q [o (.mv (.const (.int .u64 0))) 4, o (.mv (cb nn)) 5] .ret) .skip)) (.draw [((w 36 6), []), ((w 37 1), []), ((w 38 7), []), ((o (.fH 1 37 38) 39), [1, 2]), ((o (.load nn 1 39) 40), [3]), ((o (.add 0 8) 41), []), ((o (.load nn 1 41) 42), [5]), ((o (.bin .shl 22 40 42) 43), [4, 6]), ((o (.bin .or 22 36 43) 44), [0, 7]), ((w 6 44), [8, 0, 1, 2, 3, 4, 5, 6, 7, 8])])))) (.ops [o (.bin .add 3 21 (ci 1)) 45, w 21 45]))))))) (q [w 46 6, w 4 46, o (.mv (cb yy)) 5] .ret)))))
theorem Xp : Fits Tryz.prog 80 2 OT [(.tmp 4), (.tmp 5)] := fk Tryz.func80
theorem vP (F : Nat) (a0 : (List aU)) (a1 : (List Int)) (r : Int × Bool) (h : jB F a0 a1 = some r) : PC Tryz.prog 80 [ss gZ a0, ss dh a1] (S.tup [(zu_ r.1), (zb_ r.2)]) := by
 unfold jB at h
 refine eu Xp rfl rfl ?_
 intro C hP
 unfold OT; dsimp
 apply Eso
 apply WM
 apply WM
 refine Wk [0, 1] [] ?_
 (try dsimp)
 apply bG
 apply Eso
 apply WM
 obtain ⟨x1, x1h, h⟩ := aG h
 refine W1 (dc1 hP (LY F a0 x1 x1h)) ?_
 refine WQ qno ?_
 apply WM
 apply aF
 rfl
 intro b
 try rw [b]
 exact qm
 apply aF
 rfl
 intro b
 try rw [b]
 exact qls
 apply aF
 rfl
 intro b
 try rw [b]
 exact qm
 apply aF
 rfl
 intro b
 try rw [b]
 exact qls
 apply aF
 rfl
 intro b
 try rw [b]
 exact qi
 refine WQ qor ?_
 refine Wk [0, 1, 18] [] ?_
 (try dsimp)
 refine Ec h rfl (fun h hc2 => ?_) (fun h hc2 => ?_)
 apply Eso
 apply WM
 apply WM
 refine Wk [4, 5] [] ?_
 (try dsimp)
 apply bD
 cases h
 exact fe
 apply bf
 refine aX [0, 1] [] ?_
 (try dsimp)
 apply Eso
 apply WM
 apply bW
 (try dsimp)
 obtain ⟨k4, k4d, h⟩ := eX h
 refine dJ (fun (i : Int) => ⟨[(6, zu_ i)], []⟩) (fun i => k4 i = some r) (fun i h => ?_) ?_
 let iv := i; change k4 i = some r at h; generalize i = v3 at h ⊢
 rw [k4d] at h; dsimp only at h
 (try dsimp)
 apply Eso
 apply WM
 apply WM
 apply WM
 refine Wk [4, 5] [] ?_
 (try dsimp)
 apply bD
 cases h
 exact fe
 apply Eso
 apply WM
 refine WQ qls ?_
 apply WM
 refine Wk [1, 6, 19, 20, 21] [] ?_
 (try dsimp)
 apply bT
 (try dsimp)
 refine eG (fun (i : Int × Int) => ⟨[(1, ss dh a1), (6, zu_ i.1), (19, ss gZ a0), (20, (zi_ ((a0.length : Nat) : Int))), (21, zi_ i.2)], []⟩) (fun n i => fZ F a0 a1 k4 n i.1 i.2 = some r) F ((0 : Int), (0 : Int)) h ?_ (fun n i h => ?_)
 exact LB
 obtain ⟨v25, v26⟩ := i; dsimp only at h
 obtain _ | n27 := n
 cases h
 unfold fZ at h
 (try dsimp)
 apply Eso
 refine WQ qi ?_
 apply bW
 (try dsimp)
 apply bG
 refine Ec h rfl (fun h hc28 => ?_) (fun h hc28 => ?_)
 apply bf
 refine aX [1, 6, 19, 20, 21] [] ?_
 (try dsimp)
 apply bG
 apply bT
 apply Eso
 apply WM
 obtain ⟨g29, h⟩ := aQ h
 refine WQ (qis g29) ?_
 refine WQ (qAF 2 g29 0) ?_
 refine W1 dnv ?_
 apply WM
 refine W1 dst ?_
 refine Wk [1, 6, 7, 8, 19, 20, 21] [8] ?_
 (try dsimp)
 apply bG
 apply bG
 obtain ⟨g30, h⟩ := aQ h
 obtain ⟨x31, Zi, h⟩ := aG h
 obtain ⟨g32, h⟩ := aQ h
 refine ig [0, 1, 2, 3, 4, 6, 7, 8, 9] ?_
 refine XQ 0 rfl rfl rfl qm ?_
 refine XQ 1 rfl rfl rfl qm ?_
 refine XQ 2 rfl rfl rfl (qis g30) ?_
 refine XQ 3 rfl rfl rfl (q1F 1 g30 0) ?_
 refine XQ 4 rfl rfl rfl qlA ?_
 refine XQ 6 rfl rfl rfl qap ?_
 refine XQ 7 rfl rfl rfl ql1 ?_
 (try dsimp)
 refine X1 rfl (XK rfl (dc1 hP (sK F (nth a0 v26) x31 Zi)) ?_)
 refine XQ 8 rfl rfl rfl (yt rfl rfl g32) ?_
 refine XQ 9 rfl rfl rfl qi ?_
 refine dL rfl ?_
 refine aX [1, 6, 7, 8, 19, 20, 21, 35] [8] ?_
 (try dsimp)
 refine Ec h rfl (fun h aei => ?_) (fun h aei => ?_)
 apply Eso
 apply WM
 apply WM
 refine Wk [4, 5] [] ?_
 (try dsimp)
 apply bD
 cases h
 exact fe
 apply bf
 refine aX [1, 6, 7, 8, 19, 20, 21] [8] ?_
 (try dsimp)
 obtain ⟨g34, h⟩ := aQ h
 obtain ⟨g35, h⟩ := aQ h
 refine ig [0, 1, 2, 3, 4, 5, 6, 7, 8, 9] ?_
 refine XQ 0 rfl rfl rfl qm ?_
 refine XQ 1 rfl rfl rfl qm ?_
 refine XQ 2 rfl rfl rfl qm ?_
 refine XQ 3 rfl rfl rfl (qis g34) ?_
 refine XQ 4 rfl rfl rfl (q1F 1 g34 0) ?_
 refine XQ 5 rfl rfl rfl qap ?_
 refine XQ 6 rfl rfl rfl ql1 ?_
 refine XQ 7 rfl rfl rfl (wC rfl rfl g35) ?_
 refine XQ 8 rfl rfl rfl qi ?_
 refine XQ 9 rfl rfl rfl qm ?_
 refine dL rfl ?_
 refine aX [1, 6, 19, 20, 21] [] ?_
 (try dsimp)
 apply dO
 obtain ⟨g36, h⟩ := aQ h
 refine WQ (qad g36) ?_
 apply WM
 apply bW
 refine ⟨n27, ((ior .u64 v25 (pF .u64 (nth a1 v26) ((nth a0 v26).eH))), (v26 + (1 : Int))), Nat.lt_succ_self _, h, ?_⟩
 exact LB
 apply gy
 refine ⟨v25, h, ?_⟩
 exact LB
def LZ : cO := (q [o (.box 126 0) 1, o (.mv (.const (.int .u64 0))) 2, o (.mv (cb nn)) 3] (.seq (q [o (.load yy 4 1) 4, o (.call 119 [4]) 5, o (.un .not 5) 6] (.cond 6 (q [o (.mv (.const (.int .u64 0))) 2, o (.mv (cb nn)) 3] .ret) .skip)) (.seq (.draw [((o (.call 120 []) 7), []), ((o (.add 0 1) 8), []), ((o (.load nn 1 8) 9), [1]), ((o (.jd .u64 9) 10), [2]), ((o (.add 2 1) 11), []), ((o (.load nn 1 11) 12), [4]), ((o (.jd .u64 12) 13), [5]), ((o (.add 3 1) 14), []), ((o (.load nn 1 14) 15), [7]), ((o (.jd .u64 15) 16), [8]), ((o (.add 1 1) 17), []), ((o (.load nn 1 17) 18), [10]), ((o (.jd .u64 18) 19), [11]), ((o (.iW 1 22 4 [zu, zu, zu, zu] [(0, (1, 10)), (1, (1, 13)), (2, (1, 16)), (3, (1, 19))]) 20), [3, 6, 9, 12]), ((o (.call 80 [7, 20]) 21), [0, 13, 0]), ((o (.ext 0 21) 22), [14]), ((o (.ext 1 21) 23), [14]), ((w 2 22), [15, 14, 0, 1, 2, 3, 4, 5, 6, 7, 8, 9, 10, 11, 12, 13, 14, 15, 16]), ((w 3 23), [16, 17, 0, 1, 2, 3, 4, 5, 6, 7, 8, 9, 10, 11, 12, 13, 14, 15, 16, 17])]) .ret)))
theorem U7 : Fits Tryz.prog 76 1 LZ [(.tmp 2), (.tmp 3)] := fk Tryz.func76
theorem U8 (F : Nat) (a0 : dS) (r : Int × Bool) (h : qy F a0 = some r) : PC Tryz.prog 76 [S.agg [vi a0.xType, vi a0.iG, vi a0.kS, vi a0.gI]] (S.tup [(zu_ r.1), (zb_ r.2)]) := by
 unfold qy at h
 refine eu U7 rfl rfl ?_
 intro C hP
 unfold LZ; dsimp
 apply Eso
 refine W1 dbx ?_
 apply WM
 apply WM
 refine Wk [1] [1] ?_
 apply bG
 apply Eso
 refine WQ qlA ?_
 obtain ⟨x1, x1h, h⟩ := aG h
 refine W1 (dc1 hP (Fh F a0 x1 x1h)) ?_
 refine WQ qno ?_
 refine Wk [1, 6] [1] ?_
 refine Ec h rfl (fun h hc2 => ?_) (fun h hc2 => ?_)
 apply Eso
 apply WM
 apply WM
 refine Wk [2, 3] [] ?_
 apply bD
 cases h
 exact fe
 apply bf
 refine aX [1] [1] ?_
 obtain ⟨k5, k5d, h⟩ := eX h
 refine dJ (fun (i : Int × Bool) => ⟨[(2, zu_ i.1), (3, zb_ i.2)], []⟩) (fun i => k5 i.1 i.2 = some r) (fun i h => ?_) ?_
 obtain ⟨v3, v4⟩ := i
 rw [k5d] at h; dsimp only at h
 apply bD
 cases h
 exact fe
 obtain ⟨x6, x6h, h⟩ := aG h
 obtain ⟨x7, x7h, h⟩ := aG h
 refine ig [1, 2, 3, 4, 5, 6, 7, 8, 9, 10, 11, 12, 15, 16, 17, 18] ?_
 refine XQ 1 rfl rfl rfl qap ?_
 refine XQ 2 rfl rfl rfl ql1 ?_
 refine XQ 3 rfl rfl rfl qcv ?_
 refine XQ 4 rfl rfl rfl qap ?_
 refine XQ 5 rfl rfl rfl ql1 ?_
 refine XQ 6 rfl rfl rfl qcv ?_
 refine XQ 7 rfl rfl rfl qap ?_
 refine XQ 8 rfl rfl rfl ql1 ?_
 refine XQ 9 rfl rfl rfl qcv ?_
 refine XQ 10 rfl rfl rfl qap ?_
 refine XQ 11 rfl rfl rfl ql1 ?_
 refine XQ 12 rfl rfl rfl qcv ?_
 refine X2 rfl ?_ ?_
 refine XK rfl (dc1 hP (xB F  x6 x6h)) ?_
 refine X1 rfl (XK rfl dbs ?_)
 refine X1 rfl (XK rfl (nU hP (vP F x6 ([(IntKind.u64.wrap a0.xType), (IntKind.u64.wrap a0.kS), (IntKind.u64.wrap a0.gI), (IntKind.u64.wrap a0.iG)] : List Int) x7 x7h) rfl rfl) ?_)
 refine XQ 15 rfl rfl rfl qx ?_
 refine XQ 16 rfl rfl rfl qx ?_
 refine XQ 17 rfl rfl rfl qm ?_
 refine XQ 18 rfl rfl rfl qm ?_
 refine dL rfl ?_
 refine ⟨(x7.1, x7.2), h, ?_⟩
 exact LB
 refine XK rfl dbs ?_
 refine X1 rfl (XK rfl (dc1 hP (xB F  x6 x6h)) ?_)
 refine X1 rfl (XK rfl (nU hP (vP F x6 ([(IntKind.u64.wrap a0.xType), (IntKind.u64.wrap a0.kS), (IntKind.u64.wrap a0.gI), (IntKind.u64.wrap a0.iG)] : List Int) x7 x7h) rfl rfl) ?_)
 refine XQ 15 rfl rfl rfl qx ?_
 refine XQ 16 rfl rfl rfl qx ?_
 refine XQ 17 rfl rfl rfl qm ?_
 refine XQ 18 rfl rfl rfl qm ?_
 refine dL rfl ?_
 refine ⟨(x7.1, x7.2), h, ?_⟩
 exact LB
def Jk : cO := (q [o (.box 30 0) 2, o (.mv (ci 0)) 4] (.seq (q [o (.load yy 3 2) 5, o (.call 52 [5]) 6, o (.un .not 6) 7, w 8 7, g_ (.mv 1) 9 8 nn, g_ (.add 2 2) 10 8 nn, g_ (.load nn 1 10) 11 8 nn, g_ (.bin .sub 3 11 (ci 1)) 12 8 nn, g_ (.call 53 [9, ci 0, 12]) 13 8 nn, g_ (.un .not 13) 14 8 nn, o (.pick 8 (cb yy) 14) 15] (.cond 15 (q [o (.mv (ci 0)) 4] .ret) .skip)) (q [o (.load yy 3 2) 16, o (.call 55 [16]) 17, w 18 1, o (.bin .mul 3 (ci 8) 18) 19, o (.bin .add 3 17 19) 20, w 4 20] .ret)))
theorem SG : Fits Tryz.prog 77 2 Jk [(.tmp 4)] := fk Tryz.func77
theorem Jl (F : Nat) (a0 : aJ) (a1 : Int) (r : Int) (h : um F a0 a1 = some r) : PC Tryz.prog 77 [S.agg [vi a0.ak, vi a0.ay, vi a0.aA], (zi_ a1)] (zi_ r) := by
 unfold um at h
 refine eu SG rfl rfl ?_
 intro C hP
 unfold Jk; dsimp
 apply Eso
 refine W1 dbx ?_
 apply WM
 refine Wk [1, 2] [2] ?_
 apply bG
 apply Eso
 refine WQ qlA ?_
 obtain ⟨x1, x1h, h⟩ := aG h
 refine W1 (dc1 hP (nR F a0 x1 x1h)) ?_
 refine WQ qno ?_
 apply WM
 apply aF
 rfl
 intro b
 try rw [b]
 exact qm
 apply aF
 rfl
 intro b
 try rw [b]
 exact qap
 apply aF
 rfl
 intro b
 try rw [b]
 exact ql1
 obtain ⟨g2, h⟩ := aQ h
 apply aF
 rfl
 intro b
 try rw [b]
 exact qsu (g2 b)
 obtain ⟨x3, x3h, h⟩ := aG h
 apply iM
 rfl
 intro hB; (try rw [hB]); exact dc1 hP (xY F a1 (0 : Int) (a0.aA - (1 : Int)) x3 (jA x3h (bt hB)))
 apply aF
 rfl
 intro b
 try rw [b]
 exact qno
 refine WQ qor ?_
 refine Wk [1, 2, 15] [2] ?_
 refine Ec h rfl (fun h hc4 => ?_) (fun h hc4 => ?_)
 apply Eso
 apply WM
 refine Wk [4] [] ?_
 apply bD
 cases h
 exact fe
 apply bf
 refine aX [1, 2] [2] ?_
 apply Eso
 refine WQ qlA ?_
 obtain ⟨x5, x5h, h⟩ := aG h
 refine W1 (dc1 hP (Dk F a0 x5 x5h)) ?_
 apply WM
 obtain ⟨g6, h⟩ := aQ h
 refine WQ (qmu g6) ?_
 obtain ⟨g7, h⟩ := aQ h
 refine WQ (qad g7) ?_
 apply WM
 refine Wk [4] [] ?_
 apply bD
 cases h
 exact fe
def EP : cO := (q [o (.mv cn) 0] (q [o (.mv cn) 1] (.seq (q [o (.mv (ci 0)) 3] (.block 0 (.loop (q [o (.bin .lss 3 3 (ci 5)) 4] (.seq (.cond 4 .skip (.exit 0)) (.seq (.block 1 (q [w 5 3, w 2 5] (.ops [w 6 1, w 7 2, o (.bin .mul 3 (ci 8) 7) 8, o (.build [zi, zi] [(0, (1, 8)), (1, (1, (ci 8)))]) 9, o (.iW 2 193 1 [zi, zi] [(0, (2, 9))]) 10, o (.app 155 193 2 16 6 10) 11, w 1 11]))) (.ops [o (.bin .add 3 3 (ci 1)) 12, w 3 12]))))))) (q [w 13 1, w 0 13] .ret))))
theorem Ol : Fits Tryz.prog 121 0 EP [(.tmp 0)] := fk Tryz.func121
theorem zA (F : Nat)  (r : (List aU)) (h : lQ F  = some r) : PC Tryz.prog 121 [] (ss gZ r) := by
 unfold lQ at h
 refine eu Ol rfl rfl ?_
 intro C hP
 unfold EP; dsimp
 apply Eso
 apply WM
 refine Wk [] [] ?_
 apply Eso
 apply WM
 apply bW
 obtain ⟨k2, k2d, h⟩ := eX h
 refine dJ (fun (i : (List aU)) => ⟨[(1, S.one (.own 1011 0 i.length (some (2, 193))))], [(1011, ⟨true, flat gZ i⟩)]⟩) (fun i => k2 i = some r) (fun i h => ?_) ?_
 let iv := i; change k2 i = some r at h; generalize i = v1 at h ⊢
 rw [k2d] at h; dsimp only at h
 apply Eso
 apply WM
 apply WM
 refine Wk [0] [1011] ?_
 refine dR (kY (r := 1011) rfl rfl).b ?_
 apply bD
 cases h
 exact fe
 apply Eso
 apply WM
 apply bW
 apply bT
 refine eG (fun (i : Int × (List aU)) => ⟨[(1, S.one (.own 1011 0 i.2.length (some (2, 193)))), (3, zi_ i.1)], [(1011, ⟨true, flat gZ i.2⟩)]⟩) (fun n i => sG F k2 n i.1 i.2 = some r) F ((0 : Int), ([] : List aU)) h ?_ (fun n i h => ?_)
 refine fM (nT (i := 1) (r := 1011) 2 193 rfl rfl) ?_
 exact LB
 obtain ⟨v13, v14⟩ := i; dsimp only at h
 obtain _ | n15 := n
 cases h
 unfold sG at h
 apply Eso
 refine WQ qi ?_
 apply bW
 apply bG
 refine Ec h rfl (fun h hc16 => ?_) (fun h hc16 => ?_)
 apply bf
 refine aX [1, 3] [1011] ?_
 apply bG
 apply bT
 apply Eso
 apply WM
 apply WM
 refine Wk [1, 2, 3] [1011] ?_
 apply dO
 apply WM
 apply WM
 obtain ⟨g17, h⟩ := aQ h
 refine WQ (qmu g17) ?_
 refine WQ qbu ?_
 refine W1 dbs ?_
 obtain ⟨g18, h⟩ := aQ h
 refine W1 (dY (e := gZ) rfl rfl (fun _ => rfl) (fun _ => rfl) rfl (Src.lit (e := gZ) ([(⟨((8 : Int) * v13), (8 : Int)⟩ : aU)] : List aU) rfl (fun _ => rfl) rfl rfl) g18 rfl) ?_
 apply WM
 refine Wk [1, 3] [1011] ?_
 apply dO
 obtain ⟨g19, h⟩ := aQ h
 refine WQ (qad g19) ?_
 apply WM
 apply bW
 refine ⟨n15, ((v13 + (1 : Int)), (v14 ++ ([(⟨((8 : Int) * v13), (8 : Int)⟩ : aU)] : List aU))), Nat.lt_succ_self _, h, ?_⟩
 exact LB
 apply gy
 refine ⟨v14, h, ?_⟩
 exact LB
def ER : cO := (q [o (.mv cn) 0] (q [o (.build [zi, zi] [(0, (1, (ci 0))), (1, (1, (ci 16)))]) 1, o (.build [zi, zi] [(0, (1, (ci 16))), (1, (1, (ci 16)))]) 2, o (.build [zi, zi] [(0, (1, (ci 32))), (1, (1, (ci 16)))]) 3, o (.iW 2 193 3 [zi, zi, zi, zi, zi, zi] [(0, (2, 1)), (2, (2, 2)), (4, (2, 3))]) 4, w 0 4] .ret))
theorem Om : Fits Tryz.prog 122 0 ER [(.tmp 0)] := fk Tryz.func122
theorem zB (F : Nat)  (r : (List aU)) (h : oQ F  = some r) : PC Tryz.prog 122 [] (ss gZ r) := by
 unfold oQ at h
 refine eu Om rfl rfl ?_
 intro C hP
 unfold ER; dsimp
 apply Eso
 apply WM
 refine Wk [] [] ?_
 apply Eso
 refine WQ qbu ?_
 refine WQ qbu ?_
 refine WQ qbu ?_
 refine W1 dbs ?_
 apply WM
 refine Wk [0] [4] ?_
 refine dR (fK (r := 4) (g' := ⟨true, flat gZ ([(⟨(0 : Int), (16 : Int)⟩ : aU), (⟨(16 : Int), (16 : Int)⟩ : aU), (⟨(32 : Int), (16 : Int)⟩ : aU)] : List aU)⟩) rfl rfl).b ?_
 obtain ⟨g1, h⟩ := aQ h
 refine dR (jM (i := 0) _ rfl g1).b ?_
 refine dR (kY (r := 4) rfl rfl).b ?_
 apply bD
 cases h
 exact fe
def Jm : cO := (q [o (.box 122 0) 1, o (.mv cn) 2] (.seq (q [o (.load yy 13 1) 8, o (.call 100 [8]) 9, o (.un .not 9) 10] (.cond 10 (q [o (.mv cn) 2] .ret) .skip)) (q [o (.mv (.const (.int .u64 0))) 3] (.seq (q [o (.add 7 1) 11, o (.load nn 1 11) 12] (.cond 12 (.ops [o (.mv (.const (.int .u64 1))) 3]) .skip)) (.seq (.draw [((o (.call 121 []) 14), []), ((o (.add 0 1) 15), []), ((o (.load nn 1 15) 16), [1]), ((o (.jd .u64 16) 17), [2]), ((o (.add 1 1) 18), []), ((o (.load nn 1 18) 19), [4]), ((o (.jd .u64 19) 20), [5]), ((o (.add 2 1) 21), []), ((o (.load nn 1 21) 22), [7]), ((o (.jd .u64 22) 23), [8]), ((w 24 3), []), ((o (.add 5 1) 25), []), ((o (.load nn 1 25) 26), [11]), ((o (.jd .u64 26) 27), [12]), ((o (.iW 1 22 5 [zu, zu, zu, zu, zu] [(0, (1, 17)), (1, (1, 20)), (2, (1, 23)), (3, (1, 24)), (4, (1, 27))]) 28), [3, 6, 9, 10, 13]), ((o (.call 80 [14, 28]) 29), [0, 14, 0]), ((w 13 29), [15]), ((o (.ext 0 13) 30), [16]), ((o (.ext 1 13) 31), [16]), ((w 4 30), [17, 15, 0, 1, 2, 3, 4, 5, 6, 7, 8, 9, 10, 11, 12, 13, 14, 15, 16, 17]), ((w 5 31), [18, 19, 0, 1, 2, 3, 4, 5, 6, 7, 8, 9, 10, 11, 12, 13, 14, 15, 16, 17, 18, 19])]) (.seq (.draw [((o (.call 122 []) 33), []), ((o (.add 3 1) 34), []), ((o (.load nn 1 34) 35), [1]), ((o (.jd .u64 35) 36), [2]), ((o (.add 4 1) 37), []), ((o (.load nn 1 37) 38), [4]), ((o (.jd .u64 38) 39), [5]), ((o (.add 6 1) 40), []), ((o (.load nn 1 40) 41), [7]), ((o (.jd .u64 41) 42), [8]), ((o (.iW 1 22 3 [zu, zu, zu] [(0, (1, 36)), (1, (1, 39)), (2, (1, 42))]) 43), [3, 6, 9]), ((o (.call 80 [33, 43]) 44), [0, 10, 0]), ((w 32 44), [11]), ((o (.ext 0 32) 45), [12]), ((o (.ext 1 32) 46), [12]), ((w 6 45), [13, 11, 0, 1, 2, 3, 4, 5, 6, 7, 8, 9, 10, 11, 12, 13]), ((w 7 46), [14, 15, 0, 1, 2, 3, 4, 5, 6, 7, 8, 9, 10, 11, 12, 13, 14, 15])]) (.seq (.draw [((w 47 4), []), ((w 48 6), []), ((o (.add 8 1) 49), []), ((o (.load nn 1 49) 50), [2]), ((o (.iW 1 22 3 [zu, zu, zu] [(0, (1, 47)), (1, (1, 48)), (2, (1, 50))]) 51), [0, 1, 3]), ((o (.add 9 1) 52), []), ((o (.SH 1 4 52 .none .none) 53), [5]), ((o (.app 34 22 1 8 51 53) 54), [4, 6]), ((o (.iW 1 22 1 [zu] [(0, (1, (.const (.int .u64 0))))]) 55), []), ((o (.app 34 22 1 8 54 55) 56), [7, 8, 7]), ((w 2 56), [9, 9, 0, 1, 2, 3, 4, 5, 6, 7, 8, 9])]) .ret)))))))
theorem SI : Fits Tryz.prog 78 1 Jm [(.tmp 2)] := fk Tryz.func78
theorem Jo (F : Nat) (a0 : aH) (r : (List Int)) (h : jo F a0 = some r) : PC Tryz.prog 78 [S.agg [vi a0.xType, vi a0.iY, vi a0.jw, vi a0.mM, vi a0.nK, vi a0.eH, vi a0.gI, vb a0.qJ, vu a0.lD, vu a0.dn.c0, vu a0.dn.c1, vu a0.dn.c2, vu a0.dn.c3]] (ss dh r) := by
 unfold jo at h
 refine eu SI rfl rfl ?_
 intro C hP
 unfold Jm; dsimp
 apply Eso
 refine W1 dbx ?_
 apply WM
 refine Wk [1] [1] ?_
 (try dsimp)
 apply bG
 apply Eso
 refine WQ qlA ?_
 obtain ⟨x1, x1h, h⟩ := aG h
 refine W1 (dc1 hP (AA F a0 x1 x1h)) ?_
 refine WQ qno ?_
 refine Wk [1, 10] [1] ?_
 (try dsimp)
 refine Ec h rfl (fun h hc2 => ?_) (fun h hc2 => ?_)
 apply Eso
 apply WM
 refine Wk [2] [] ?_
 (try dsimp)
 refine dR (Ee (i := 2) rfl).b ?_
 (try dsimp)
 apply bD
 cases h
 exact fe
 apply bf
 refine aX [1] [1] ?_
 (try dsimp)
 apply Eso
 apply WM
 apply bW
 (try dsimp)
 obtain ⟨k4, k4d, h⟩ := eX h
 refine dJ (fun (i : Int) => ⟨[(1, S.one (.ptr 1 0)), (3, zu_ i)], [(1, ⟨true, [vi a0.xType, vi a0.iY, vi a0.jw, vi a0.mM, vi a0.nK, vi a0.eH, vi a0.gI, vb a0.qJ, vu a0.lD, vu a0.dn.c0, vu a0.dn.c1, vu a0.dn.c2, vu a0.dn.c3]⟩)]⟩) (fun i => k4 i = some r) (fun i h => ?_) ?_
 let iv := i; change k4 i = some r at h; generalize i = v3 at h ⊢
 rw [k4d] at h; dsimp only at h
 (try dsimp)
 obtain ⟨k6, k6d, h⟩ := eX h
 refine dJ (fun (i : Int) => ⟨[(1, S.one (.ptr 1 0)), (4, zu_ i)], [(1, ⟨true, [vi a0.xType, vi a0.iY, vi a0.jw, vi a0.mM, vi a0.nK, vi a0.eH, vi a0.gI, vb a0.qJ, vu a0.lD, vu a0.dn.c0, vu a0.dn.c1, vu a0.dn.c2, vu a0.dn.c3]⟩)]⟩) (fun i => k6 i = some r) (fun i h => ?_) ?_
 let iv := i; change k6 i = some r at h; generalize i = v5 at h ⊢
 rw [k6d] at h; dsimp only at h
 (try dsimp)
 obtain ⟨k8, k8d, h⟩ := eX h
 refine dJ (fun (i : Int) => ⟨[(1, S.one (.ptr 1 0)), (4, zu_ v5), (6, zu_ i)], [(1, ⟨true, [vi a0.xType, vi a0.iY, vi a0.jw, vi a0.mM, vi a0.nK, vi a0.eH, vi a0.gI, vb a0.qJ, vu a0.lD, vu a0.dn.c0, vu a0.dn.c1, vu a0.dn.c2, vu a0.dn.c3]⟩)]⟩) (fun i => k8 i = some r) (fun i h => ?_) ?_
 let iv := i; change k8 i = some r at h; generalize i = v7 at h ⊢
 rw [k8d] at h; dsimp only at h
 (try dsimp)
 obtain ⟨k9, k9d, h⟩ := eX h
 refine dJ (fun (i : Unit) => ⟨[(2, S.one (.own 51 0 ((([v5, v7, a0.lD] : List Int) ++ ([a0.dn.c0, a0.dn.c1, a0.dn.c2, a0.dn.c3] : List Int)) ++ ([(0 : Int)] : List Int)).length (some (1, 22))))], [(51, ⟨true, flat dh ((([v5, v7, a0.lD] : List Int) ++ ([a0.dn.c0, a0.dn.c1, a0.dn.c2, a0.dn.c3] : List Int)) ++ ([(0 : Int)] : List Int))⟩)]⟩) (fun i => k9 () = some r) (fun i h => ?_) ?_
 rw [k9d] at h; dsimp only at h
 (try dsimp)
 refine dR (kY (r := 51) rfl rfl).b ?_
 (try dsimp)
 apply bD
 cases h
 exact fe
 obtain ⟨g10, h⟩ := aQ h
 obtain ⟨g11, h⟩ := aQ h
 refine ig [0, 1, 2, 3, 5, 6] ?_
 refine XQ 0 rfl rfl rfl qm ?_
 refine XQ 1 rfl rfl rfl qm ?_
 refine XQ 2 rfl rfl rfl qap ?_
 refine XQ 3 rfl rfl rfl ql1 ?_
 refine XQ 5 rfl rfl rfl qap ?_
 refine XQ 6 rfl rfl rfl (qR rfl rfl rfl rfl (by decide) (by decide) (by decide) (List.cons_ne_nil _ _)) ?_
 refine X2 rfl ?_ ?_
 refine XK rfl dbs ?_
 refine X2 rfl ?_ ?_
 refine XT rfl rfl (Does.ghost (fK (r := 51) (g' := ⟨true, flat dh ([v5, v7, a0.lD] : List Int)⟩) rfl rfl).b (dY (e := dh) rfl rfl (fun _ => rfl) (fun _ => rfl) rfl (Src.part (e := dh) ([a0.dn.c0, a0.dn.c1, a0.dn.c2, a0.dn.c3] : List Int) rfl (fun _ => rfl) rfl rfl) g10 rfl)) ?_
 refine X1 rfl (XT rfl rfl dbs ?_)
 refine X1 rfl (XT rfl rfl (dY (e := dh) rfl rfl (fun _ => rfl) (fun _ => rfl) rfl (Src.lit (e := dh) ([(0 : Int)] : List Int) rfl (fun _ => rfl) rfl rfl) g11 rfl) ?_)
 refine X1 rfl (XT rfl rfl ((qm).does) ?_)
 refine dL rfl ?_
 refine ⟨(), h, ?_⟩
 exact LB
 refine XK rfl dbs ?_
 refine X1 rfl (XT rfl rfl (Does.ghost (fK (r := 51) (g' := ⟨true, flat dh ([v5, v7, a0.lD] : List Int)⟩) rfl rfl).b (dY (e := dh) rfl rfl (fun _ => rfl) (fun _ => rfl) rfl (Src.part (e := dh) ([a0.dn.c0, a0.dn.c1, a0.dn.c2, a0.dn.c3] : List Int) rfl (fun _ => rfl) rfl rfl) g10 rfl)) ?_)
 refine X1 rfl (XT rfl rfl (dY (e := dh) rfl rfl (fun _ => rfl) (fun _ => rfl) rfl (Src.lit (e := dh) ([(0 : Int)] : List Int) rfl (fun _ => rfl) rfl rfl) g11 rfl) ?_)
 refine X1 rfl (XT rfl rfl ((qm).does) ?_)
 refine dL rfl ?_
 refine ⟨(), h, ?_⟩
 exact LB
 refine XK rfl dbs ?_
 refine X1 rfl (XK rfl dbs ?_)
 refine X1 rfl (XT rfl rfl (Does.ghost (fK (r := 51) (g' := ⟨true, flat dh ([v5, v7, a0.lD] : List Int)⟩) rfl rfl).b (dY (e := dh) rfl rfl (fun _ => rfl) (fun _ => rfl) rfl (Src.part (e := dh) ([a0.dn.c0, a0.dn.c1, a0.dn.c2, a0.dn.c3] : List Int) rfl (fun _ => rfl) rfl rfl) g10 rfl)) ?_)
 refine X1 rfl (XT rfl rfl (dY (e := dh) rfl rfl (fun _ => rfl) (fun _ => rfl) rfl (Src.lit (e := dh) ([(0 : Int)] : List Int) rfl (fun _ => rfl) rfl rfl) g11 rfl) ?_)
 refine X1 rfl (XT rfl rfl ((qm).does) ?_)
 refine dL rfl ?_
 refine ⟨(), h, ?_⟩
 exact LB
 obtain ⟨x12, Sj, h⟩ := aG h
 obtain ⟨x13, Io, h⟩ := aG h
 refine ig [1, 2, 3, 4, 5, 6, 7, 8, 9, 12, 13, 14, 15, 16] ?_
 refine XQ 1 rfl rfl rfl qap ?_
 refine XQ 2 rfl rfl rfl ql1 ?_
 refine XQ 3 rfl rfl rfl qcv ?_
 refine XQ 4 rfl rfl rfl qap ?_
 refine XQ 5 rfl rfl rfl ql1 ?_
 refine XQ 6 rfl rfl rfl qcv ?_
 refine XQ 7 rfl rfl rfl qap ?_
 refine XQ 8 rfl rfl rfl ql1 ?_
 refine XQ 9 rfl rfl rfl qcv ?_
 (try dsimp)
 refine X2 rfl ?_ ?_
 refine XK rfl (dc1 hP (zB F  x12 Sj)) ?_
 refine X1 rfl (XK rfl dbs ?_)
 refine X1 rfl (XK rfl (nU hP (vP F x12 ([(IntKind.u64.wrap a0.mM), (IntKind.u64.wrap a0.nK), (IntKind.u64.wrap a0.gI)] : List Int) x13 Io) rfl rfl) ?_)
 refine XQ 12 rfl rfl rfl qm ?_
 refine XQ 13 rfl rfl rfl qx ?_
 refine XQ 14 rfl rfl rfl qx ?_
 refine XQ 15 rfl rfl rfl qm ?_
 refine XQ 16 rfl rfl rfl qm ?_
 refine dL rfl ?_
 refine ⟨x13.1, h, ?_⟩
 exact LB
 refine XK rfl dbs ?_
 refine X1 rfl (XK rfl (dc1 hP (zB F  x12 Sj)) ?_)
 refine X1 rfl (XK rfl (nU hP (vP F x12 ([(IntKind.u64.wrap a0.mM), (IntKind.u64.wrap a0.nK), (IntKind.u64.wrap a0.gI)] : List Int) x13 Io) rfl rfl) ?_)
 refine XQ 12 rfl rfl rfl qm ?_
 refine XQ 13 rfl rfl rfl qx ?_
 refine XQ 14 rfl rfl rfl qx ?_
 refine XQ 15 rfl rfl rfl qm ?_
 refine XQ 16 rfl rfl rfl qm ?_
 refine dL rfl ?_
 refine ⟨x13.1, h, ?_⟩
 exact LB
 obtain ⟨x14, SK, h⟩ := aG h
 obtain ⟨x15, SL, h⟩ := aG h
 refine ig [1, 2, 3, 4, 5, 6, 7, 8, 9, 10, 11, 12, 13, 16, 17, 18, 19, 20] ?_
 refine XQ 1 rfl rfl rfl qap ?_
 refine XQ 2 rfl rfl rfl ql1 ?_
 refine XQ 3 rfl rfl rfl qcv ?_
 refine XQ 4 rfl rfl rfl qap ?_
 refine XQ 5 rfl rfl rfl ql1 ?_
 refine XQ 6 rfl rfl rfl qcv ?_
 refine XQ 7 rfl rfl rfl qap ?_
 refine XQ 8 rfl rfl rfl ql1 ?_
 refine XQ 9 rfl rfl rfl qcv ?_
 refine XQ 10 rfl rfl rfl qm ?_
 refine XQ 11 rfl rfl rfl qap ?_
 refine XQ 12 rfl rfl rfl ql1 ?_
 refine XQ 13 rfl rfl rfl qcv ?_
 (try dsimp)
 refine X2 rfl ?_ ?_
 refine XK rfl (dc1 hP (zA F  x14 SK)) ?_
 refine X1 rfl (XK rfl dbs ?_)
 refine X1 rfl (XK rfl (nU hP (vP F x14 ([(IntKind.u64.wrap a0.xType), (IntKind.u64.wrap a0.iY), (IntKind.u64.wrap a0.jw), v3, (IntKind.u64.wrap a0.eH)] : List Int) x15 SL) rfl rfl) ?_)
 refine XQ 16 rfl rfl rfl qm ?_
 refine XQ 17 rfl rfl rfl qx ?_
 refine XQ 18 rfl rfl rfl qx ?_
 refine XQ 19 rfl rfl rfl qm ?_
 refine XQ 20 rfl rfl rfl qm ?_
 refine dL rfl ?_
 refine ⟨x15.1, h, ?_⟩
 exact LB
 refine XK rfl dbs ?_
 refine X1 rfl (XK rfl (dc1 hP (zA F  x14 SK)) ?_)
 refine X1 rfl (XK rfl (nU hP (vP F x14 ([(IntKind.u64.wrap a0.xType), (IntKind.u64.wrap a0.iY), (IntKind.u64.wrap a0.jw), v3, (IntKind.u64.wrap a0.eH)] : List Int) x15 SL) rfl rfl) ?_)
 refine XQ 16 rfl rfl rfl qm ?_
 refine XQ 17 rfl rfl rfl qx ?_
 refine XQ 18 rfl rfl rfl qx ?_
 refine XQ 19 rfl rfl rfl qm ?_
 refine XQ 20 rfl rfl rfl qm ?_
 refine dL rfl ?_
 refine ⟨x15.1, h, ?_⟩
 exact LB
 apply Eso
 refine WQ qap ?_
 refine WQ ql1 ?_
 refine Wk [1, 3, 12] [1] ?_
 (try dsimp)
 refine Ec h rfl (fun h hc16 => ?_) (fun h hc16 => ?_)
 apply dO
 apply WM
 apply bW
 refine ⟨(1 : Int), h, ?_⟩
 exact LB
 apply bf
 refine ⟨(0 : Int), h, ?_⟩
 exact LB
def Jp : cO := (q [o (.box 73 0) 2, o (.mv cn) 4] (.seq (q [o (.load yy 5 2) 13, o (.call 73 [13]) 14, o (.un .not 14) 15] (.cond 15 (q [o (.mv cn) 4] .ret) .skip)) (q [o (.add 0 2) 16, o (.load yy 3 16) 17, o (.jm [zi, zi, zi]) 5, n_ (.store 3 5 17)] (q [o (.load yy 3 5) 18, o (.call 74 [18]) 19, o (.bin .mul 3 19 (ci 8)) 20, o (.mk 34 22 1 8 [zu] 20 20) 21, w 6 21] (q [o (.load yy 3 5) 22, w 23 1, o (.build [zi, zi, zi, zu] [(0, (3, 22)), (3, (1, 23))]) 24, o (.call 75 [24]) 25, w 7 25] (q [w 26 6, w 27 7, o (.copy 1 26 27) 28] (q [w 29 6, o (.load yy 3 5) 30, o (.call 22 [30]) 31, o (.slc 1 29 (.some 31) .none .none) 32, w 33 7, o (.copy 1 32 33) 34] (.seq (q [o (.add 3 2) 35, o (.load nn 1 35) 36, o (.len nn 36) 37, o (.mv (ci 0)) 38] (.block 0 (.loop (q [o (.bin .lss 3 38 37) 39] (.seq (.cond 39 .skip (.exit 0)) (.seq (.block 1 (q [w 40 38, o (.fH 5 36 38) 41, o (.load yy 5 41) 42, o (.jm [zi, zi, zi, zi, zi]) 9, w 8 40, n_ (.store 5 9 42)] (q [o (.load yy 3 5) 43, w 44 8, o (.call 21 [43, 44]) 45, w 10 45] (q [w 47 6, w 48 10, o (.add 0 9) 49, o (.load yy 4 49) 50, o (.call 76 [50]) 51, w 46 51, o (.ext 0 46) 52, o (.ext 1 46) 53, o (.fH 1 47 48) 54, n_ (.store 1 54 52)] (.ops [w 55 6, w 56 10, o (.bin .add 3 56 (ci 1)) 57, o (.add 4 9) 58, o (.load nn 1 58) 59, o (.bin .add 3 59 (ci 1)) 60, o (.jd .u64 60) 61, o (.fH 1 55 57) 62, n_ (.store 1 62 61)]))))) (.ops [o (.bin .add 3 38 (ci 1)) 63, w 38 63]))))))) (.seq (q [o (.add 4 2) 64, o (.load nn 1 64) 65, o (.len nn 65) 66, o (.mv (ci 0)) 67] (.block 2 (.loop (q [o (.bin .lss 3 67 66) 68] (.seq (.cond 68 .skip (.exit 2)) (.seq (.block 3 (q [w 69 67, o (.fH 13 65 67) 70, o (.load yy 13 70) 71, o (.jm [zi, zi, zi, zi, zi, zi, zi, zb, zu, zu, zu, zu, zu]) 12, w 11 69, n_ (.store 13 12 71)] (.draw [((w 72 6), []), ((o (.load yy 3 5) 73), []), ((w 74 11), []), ((o (.call 77 [73, 74]) 75), [1, 2]), ((o (.slc 1 72 (.some 75) .none .none) 76), [0, 3]), ((o (.load yy 13 12) 77), []), ((o (.call 78 [77]) 78), [5, 3]), ((o (.copy 1 76 78) 79), [4, 6, 6])]))) (.ops [o (.bin .add 3 67 (ci 1)) 80, w 67 80]))))))) (q [w 81 6, w 4 81] .ret))))))))))
theorem SN : Fits Tryz.prog 42 2 Jp [(.tmp 4)] := fk Tryz.func42
theorem SQ (F : Nat) (a0 : aI) (a1 : Int) (r : (List Int)) (h : rC F a0 a1 = some r) : PC Tryz.prog 42 [S.agg [vi a0.bH.ak, vi a0.bH.ay, vi a0.bH.aA, sl aK a0.ay, sl aS a0.aA], (zu_ a1)] (ss dh r) := by
 unfold rC at h
 refine eu SN rfl rfl ?_
 intro C hP
 unfold Jp; dsimp
 apply Eso
 refine W1 dbx ?_
 apply WM
 refine Wk [1, 2] [2] ?_
 (try dsimp)
 apply bG
 apply Eso
 refine WQ qlA ?_
 obtain ⟨x1, x1h, h⟩ := aG h
 refine W1 (dc1 hP (GL F a0 x1 x1h)) ?_
 refine WQ qno ?_
 refine Wk [1, 2, 15] [2] ?_
 (try dsimp)
 refine Ec h rfl (fun h hc2 => ?_) (fun h hc2 => ?_)
 apply Eso
 apply WM
 refine Wk [4] [] ?_
 (try dsimp)
 refine dR (Ee (i := 4) rfl).b ?_
 (try dsimp)
 apply bD
 cases h
 exact fe
 apply bf
 refine aX [1, 2] [2] ?_
 (try dsimp)
 apply Eso
 refine WQ qap ?_
 refine WQ qlA ?_
 refine W1 dnv ?_
 refine W1 dst ?_
 refine Wk [1, 2, 5] [2, 5] ?_
 (try dsimp)
 apply Eso
 refine WQ qlA ?_
 obtain ⟨x3, x3h, h⟩ := aG h
 refine W1 (dc1 hP (FB F a0.bH x3 x3h)) ?_
 obtain ⟨g4, h⟩ := aQ h
 refine WQ (qmu g4) ?_
 obtain ⟨g5, h⟩ := aQ h
 refine W1 (nS (e := dh) (0 : Int) rfl rfl rfl (fun _ => rfl) g5.1 g5.2.1 g5.2.2.1 g5.2.2.2 rfl) ?_
 apply WM
 refine Wk [1, 2, 5, 6] [2, 5, 21] ?_
 (try dsimp)
 apply Eso
 refine WQ qlA ?_
 apply WM
 refine WQ qbu ?_
 obtain ⟨x6, x6h, h⟩ := aG h
 refine W1 (dc1 hP (Dn F (⟨a0.bH, a1⟩ : dK) x6 x6h)) ?_
 apply WM
 refine Wk [2, 5, 6, 7] [2, 5, 21] ?_
 (try dsimp)
 apply Eso
 apply WM
 apply WM
 obtain ⟨g7, h⟩ := aQ h
 refine W1 (FH rfl rfl (fun _ => rfl) (fun _ => rfl) rfl (Src.slF x6 (fun _ => rfl)) g7) ?_
 refine Wk [2, 5, 6, 7] [2, 5, 21] ?_
 (try dsimp)
 apply Eso
 apply WM
 refine WQ qlA ?_
 obtain ⟨x8, x8h, h⟩ := aG h
 refine W1 (dc1 hP (yj F a0.bH x8 x8h)) ?_
 obtain ⟨g9, h⟩ := aQ h
 refine WQ (AL rfl rfl rfl rfl g9.1 g9.2.1 g9.2.2) ?_
 apply WM
 obtain ⟨g10, h⟩ := aQ h
 refine W1 (FH rfl rfl (fun _ => rfl) (fun _ => rfl) rfl (Src.slF x6 (fun _ => rfl)) g10) ?_
 refine Wk [2, 5, 6] [2, 5, 21] ?_
 (try dsimp)
 obtain ⟨k12, U9, h⟩ := eX h
 refine dJ (fun (i : (List Int)) => ⟨[(2, S.one (.ptr 2 0)), (5, S.one (.ptr 5 0)), (6, S.one (.own 21 0 i.length (some (1, 22))))], [(2, ⟨true, [vi a0.bH.ak, vi a0.bH.ay, vi a0.bH.aA, sl aK a0.ay, sl aS a0.aA]⟩), (5, ⟨true, [vi a0.bH.ak, vi a0.bH.ay, vi a0.bH.aA]⟩), (21, ⟨true, flat dh i⟩)]⟩) (fun i => k12 i = some r) (fun i h => ?_) ?_
 let iv := i; change k12 i = some r at h; generalize i = v11 at h ⊢
 rw [U9] at h; dsimp only at h
 (try dsimp)
 obtain ⟨k14, abH, h⟩ := eX h
 refine dJ (fun (i : (List Int)) => ⟨[(6, S.one (.own 21 0 i.length (some (1, 22))))], [(21, ⟨true, flat dh i⟩)]⟩) (fun i => k14 i = some r) (fun i h => ?_) ?_
 let iv := i; change k14 i = some r at h; generalize i = v13 at h ⊢
 rw [abH] at h; dsimp only at h
 (try dsimp)
 apply Eso
 apply WM
 apply WM
 refine Wk [4] [21] ?_
 (try dsimp)
 refine dR (kY (r := 21) rfl rfl).b ?_
 (try dsimp)
 apply bD
 cases h
 exact fe
 apply Eso
 refine WQ qap ?_
 refine WQ ql1 ?_
 refine WQ qls ?_
 apply WM
 refine Wk [5, 6, 65, 66, 67] [5, 21] ?_
 (try dsimp)
 apply bT
 (try dsimp)
 refine eG (fun (i : Int × (List Int)) => ⟨[(5, S.one (.ptr 5 0)), (6, S.one (.own 21 0 i.2.length (some (1, 22)))), (65, ss aS a0.aA), (66, (zi_ ((a0.aA.length : Nat) : Int))), (67, zi_ i.1)], [(5, ⟨true, [vi a0.bH.ak, vi a0.bH.ay, vi a0.bH.aA]⟩), (21, ⟨true, flat dh i.2⟩)]⟩) (fun n i => jk F a0 k14 n i.1 i.2 = some r) F ((0 : Int), v11) h ?_ (fun n i h => ?_)
 exact LB
 obtain ⟨v31, v32⟩ := i; dsimp only at h
 obtain _ | n33 := n
 cases h
 unfold jk at h
 (try dsimp)
 apply Eso
 refine WQ qi ?_
 apply bW
 (try dsimp)
 apply bG
 refine Ec h rfl (fun h hc34 => ?_) (fun h hc34 => ?_)
 apply bf
 refine aX [5, 6, 65, 66, 67] [5, 21] ?_
 (try dsimp)
 apply bG
 apply bT
 apply Eso
 apply WM
 obtain ⟨g35, h⟩ := aQ h
 refine WQ (qis g35) ?_
 refine WQ (qAF 13 g35 0) ?_
 refine W1 dnv ?_
 apply WM
 refine W1 dst ?_
 refine Wk [5, 6, 11, 12, 65, 66, 67] [5, 12, 21] ?_
 (try dsimp)
 obtain ⟨x36, Zb, h⟩ := aG h
 obtain ⟨g37, h⟩ := aQ h
 obtain ⟨x38, ab1, h⟩ := aG h
 obtain ⟨g39, h⟩ := aQ h
 refine ig [0, 1, 2, 4, 5] ?_
 refine XQ 0 rfl rfl rfl qm ?_
 refine XQ 1 rfl rfl rfl qlA ?_
 refine XQ 2 rfl rfl rfl qm ?_
 refine XQ 5 rfl rfl rfl qlA ?_
 refine X1 rfl (XK rfl (dc1 hP (Jl F a0.bH v31 x36 Zb)) ?_)
 refine XQ 4 rfl rfl rfl (AL rfl rfl rfl rfl g37.1 g37.2.1 g37.2.2) ?_
 refine X1 rfl (XK rfl (dc1 hP (Jo F (nth a0.aA v31) x38 ab1)) ?_)
 refine X1 rfl (XT rfl rfl (FH rfl rfl (fun _ => rfl) (fun _ => rfl) rfl (Src.slF x38 (fun _ => rfl)) g39) ?_)
 refine dL rfl ?_
 refine aX [5, 6, 65, 66, 67] [5, 21] ?_
 (try dsimp)
 apply dO
 obtain ⟨g40, h⟩ := aQ h
 refine WQ (qad g40) ?_
 apply WM
 apply bW
 refine ⟨n33, ((v31 + (1 : Int)), (cpy v32 (0 + x36.toNat * 1) (((v32.length : Nat) : Int).toNat - x36.toNat) x38)), Nat.lt_succ_self _, h, ?_⟩
 refine fM (jM (i := 6) _ rfl (by simp [aj, au, ah] : v32.length = (cpy v32 (0 + x36.toNat * 1) (((v32.length : Nat) : Int).toNat - x36.toNat) x38).length)).b ?_
 exact LB
 apply gy
 refine ⟨v32, h, ?_⟩
 exact LB
 apply Eso
 refine WQ qap ?_
 refine WQ ql1 ?_
 refine WQ qls ?_
 apply WM
 refine Wk [2, 5, 6, 36, 37, 38] [2, 5, 21] ?_
 (try dsimp)
 apply bT
 (try dsimp)
 refine eG (fun (i : Int × (List Int)) => ⟨[(2, S.one (.ptr 2 0)), (5, S.one (.ptr 5 0)), (6, S.one (.own 21 0 i.2.length (some (1, 22)))), (36, ss aK a0.ay), (37, (zi_ ((a0.ay.length : Nat) : Int))), (38, zi_ i.1)], [(2, ⟨true, [vi a0.bH.ak, vi a0.bH.ay, vi a0.bH.aA, sl aK a0.ay, sl aS a0.aA]⟩), (5, ⟨true, [vi a0.bH.ak, vi a0.bH.ay, vi a0.bH.aA]⟩), (21, ⟨true, flat dh i.2⟩)]⟩) (fun n i => ji F a0 k12 n i.1 i.2 = some r) F ((0 : Int), (cpy (cpy (List.replicate (x3 * (8 : Int)).toNat (0 : Int)) 0 ((List.replicate (x3 * (8 : Int)).toNat (0 : Int)).length) x6) (0 + x8.toNat * 1) ((((List.replicate (x3 * (8 : Int)).toNat (0 : Int)).length : Nat) : Int).toNat - x8.toNat) x6)) h ?_ (fun n i h => ?_)
 refine fM (jM (i := 6) _ rfl (by simp [aj, au, ah] : (List.replicate (x3 * (8 : Int)).toNat (0 : Int)).length = (cpy (cpy (List.replicate (x3 * (8 : Int)).toNat (0 : Int)) 0 ((List.replicate (x3 * (8 : Int)).toNat (0 : Int)).length) x6) (0 + x8.toNat * 1) ((((List.replicate (x3 * (8 : Int)).toNat (0 : Int)).length : Nat) : Int).toNat - x8.toNat) x6).length)).b ?_
 exact LB
 obtain ⟨v61, v62⟩ := i; dsimp only at h
 obtain _ | n63 := n
 cases h
 unfold ji at h
 (try dsimp)
 apply Eso
 refine WQ qi ?_
 apply bW
 (try dsimp)
 apply bG
 refine Ec h rfl (fun h aej => ?_) (fun h aej => ?_)
 apply bf
 refine aX [2, 5, 6, 36, 37, 38] [2, 5, 21] ?_
 (try dsimp)
 apply bG
 apply bT
 apply Eso
 apply WM
 obtain ⟨g65, h⟩ := aQ h
 refine WQ (qis g65) ?_
 refine WQ (qAF 5 g65 0) ?_
 refine W1 dnv ?_
 apply WM
 refine W1 dst ?_
 refine Wk [2, 5, 6, 8, 9, 36, 37, 38] [2, 5, 9, 21] ?_
 (try dsimp)
 apply Eso
 refine WQ qlA ?_
 apply WM
 obtain ⟨x66, ab2, h⟩ := aG h
 refine W1 (dc1 hP (FD F a0.bH v61 x66 ab2)) ?_
 apply WM
 refine Wk [2, 5, 6, 9, 10, 36, 37, 38] [2, 5, 9, 21] ?_
 (try dsimp)
 apply Eso
 apply WM
 apply WM
 refine WQ qap ?_
 refine WQ qlA ?_
 obtain ⟨x67, aek, h⟩ := aG h
 refine W1 (dc1 hP (U8 F ((nth a0.ay v61).gY) x67 aek)) ?_
 apply WM
 refine WQ qx ?_
 refine WQ qx ?_
 obtain ⟨g68, h⟩ := aQ h
 refine WQ (qio g68) ?_
 refine W1 (dI (e := dh) (n := 1) (k := 1) rfl rfl (fun _ => rfl) g68 0 (by omega) rfl rfl rfl (by decide) x67.1 rfl (by decide) rfl) ?_
 refine Wk [2, 5, 6, 9, 10, 36, 37, 38] [2, 5, 9, 21] ?_
 (try dsimp)
 apply dO
 apply WM
 apply WM
 obtain ⟨g69, h⟩ := aQ h
 refine WQ (qad g69) ?_
 refine WQ qap ?_
 refine WQ ql1 ?_
 obtain ⟨g70, h⟩ := aQ h
 refine WQ (qad g70) ?_
 refine WQ qcv ?_
 obtain ⟨g71, h⟩ := aQ h
 refine WQ (qio g71) ?_
 refine W1 (dI (e := dh) (n := 1) (k := 1) rfl rfl (fun _ => rfl) (by first | exact g71 | exact kH.1 g71 | simpa only [kH] using g71) 0 (by omega) rfl rfl rfl (by decide) (IntKind.u64.wrap ((nth a0.ay v61).xUp + (1 : Int))) rfl (by decide) rfl) ?_
 refine Wk [2, 5, 6, 36, 37, 38] [2, 5, 21] ?_
 (try dsimp)
 apply dO
 obtain ⟨g72, h⟩ := aQ h
 refine WQ (qad g72) ?_
 apply WM
 apply bW
 refine ⟨n63, ((v61 + (1 : Int)), (dZ (dZ v62 x66 x67.1) (x66 + (1 : Int)) (IntKind.u64.wrap ((nth a0.ay v61).xUp + (1 : Int))))), Nat.lt_succ_self _, h, ?_⟩
 refine fM (jM (i := 6) _ rfl (by simp [aj, au, ah] : v62.length = (dZ (dZ v62 x66 x67.1) (x66 + (1 : Int)) (IntKind.u64.wrap ((nth a0.ay v61).xUp + (1 : Int)))).length)).b ?_
 exact LB
 apply gy
 refine ⟨v62, h, ?_⟩
 exact LB
def OU : cO := (q [o (.mv cp) 2, o (.mv (ci 0)) 3] (.seq (q [w 4 0, o (.bin .lss 3 4 (ci 1)) 5, w 6 5, g_ (.mv 0) 7 6 nn, g_ (.bin .gtr 3 7 (ci 4096)) 8 6 nn, o (.pick 6 (cb yy) 8) 9] (.cond 9 (q [o (.mv cp) 2, o (.mv (ci 1)) 3] .ret) .skip)) (q [w 10 0, o (.mk 110 115 18 136 [zu, zu, zu, zu, zu, zu, zu, zu, zu, zu, zu, zu, zu, zu, zu, zu, zb, zb] 10 10) 11, o (.build [.nil, zb, zi, zi, .nil] [(0, (1, 11))]) 12, o (.box 112 12) 13, w 2 13, o (.mv (ci 0)) 3] .ret)))
theorem Xq : Fits Tryz.prog 25 1 OU [(.tmp 2), (.tmp 3)] := fk Tryz.func25
theorem OV (F : Nat) (a0 : Int) (r : Option aC × Int) (h : zM F a0 = some r) : AC Tryz.prog 25 [(zi_ a0)] [] (fun x s' => Va (r.1) (x = S.tup [S.one (.v (.pointer none)), (zi_ r.2)] ∧ l9 s' []) (fun G => x = S.tup [S.one (.ptr 13 0), (zi_ r.2)] ∧ l9 s' [(11, ⟨true, flat aN G.xl⟩), (13, ⟨false, [.own 11 0 G.xl.length (some (18, 115)), vb G.dD, vi G.bC, vi G.bP, sl aT G.bQ]⟩)])) := by
 unfold zM at h
 refine lN Xq rfl ?_
 intro C hP
 unfold OU; dsimp
 apply Eso
 apply WM
 apply WM
 refine Wk [0] [] ?_
 apply bG
 apply Eso
 apply WM
 refine WQ qi ?_
 apply WM
 apply aF
 rfl
 intro b
 try rw [b]
 exact qm
 apply aF
 rfl
 intro b
 try rw [b]
 exact qi
 refine WQ qor ?_
 refine Wk [0, 9] [] ?_
 refine Ec h rfl (fun h hc1 => ?_) (fun h hc1 => ?_)
 apply Eso
 apply WM
 apply WM
 refine Wk [2, 3] [] ?_
 apply bD
 cases h
 (try simp only [qt, qb, qn, qg])
 refine dN (xs := _) ⟨_, rfl, ⟨_, rfl, rfl⟩⟩ ?_
 show _ ∧ _
 exact ⟨rfl, trivial⟩
 apply bf
 refine aX [0] [] ?_
 apply Eso
 apply WM
 obtain ⟨g2, h⟩ := aQ h
 refine W1 (nS (e := aN) (⟨(⟨(0 : Int), (0 : Int), (0 : Int), (0 : Int), (0 : Int), (0 : Int), (0 : Int), (0 : Int)⟩ : V8 Int), (⟨(0 : Int), (0 : Int), (0 : Int), (0 : Int), (0 : Int), (0 : Int), (0 : Int), (0 : Int)⟩ : V8 Int), false, false⟩ : bV) rfl rfl rfl (fun _ => rfl) g2.1 g2.2.1 g2.2.2.1 g2.2.2.2 rfl) ?_
 refine WQ qbu ?_
 refine W1 dbx ?_
 apply WM
 apply WM
 refine Wk [2, 3] [11, 13] ?_
 refine dR (ni (q := 13) rfl).b ?_
 apply bD
 cases h
 (try simp only [qt, qb, qn, qg])
 refine dN (xs := _) ⟨_, rfl, ⟨_, rfl, rfl⟩⟩ ?_
 show _ ∧ _
 exact ⟨rfl, ⟨(by first | rfl | simp [aj, au, ah]), ⟨(by first | rfl | simp [aj, au, ah]), trivial⟩⟩⟩
def L6 : cO := (q [o (.mv cp) 2, o (.mv (ci 0)) 3] (q [w 10 0, o (.len nn 10) 11, o (.bin .quo 3 11 (ci 8)) 12, o (.call 25 [12]) 13, w 9 13, o (.ext 0 9) 14, o (.ext 1 9) 15, w 4 14, w 5 15] (.seq (q [w 16 5, o (.bin .neq 32 16 (ci 0)) 17, w 18 17, g_ (.mv 0) 19 18 nn, g_ (.len nn 19) 20 18 nn, g_ (.bin .rem 3 20 (ci 8)) 21 18 nn, g_ (.bin .neq 3 21 (ci 0)) 22 18 nn, o (.pick 18 (cb yy) 22) 23] (.cond 23 (q [o (.mv cp) 2, o (.mv (ci 1)) 3] .ret) .skip)) (.seq (q [w 24 0, o (.len nn 24) 25, o (.mv (ci 0)) 26] (.block 0 (.loop (q [o (.bin .lss 3 26 25) 27] (.seq (.cond 27 .skip (.exit 0)) (.seq (.block 1 (q [w 28 26, o (.fH 1 24 26) 29, o (.load nn 1 29) 30, w 6 28, w 7 30] (q [w 31 4, o (.dG 31) 32, o (.add 0 32) 33, o (.load nn 1 33) 34, w 35 6, o (.bin .quo 3 35 (ci 8)) 36, o (.fH 18 34 36) 37, w 8 37] (q [w 38 8, w 39 6, o (.bin .rem 3 39 (ci 8)) 40, w 41 7, o (.dG 38) 42, o (.add 8 42) 43, o (.Vb 1 8 43 40) 44, n_ (.store 1 44 41)] (.ops [w 45 8, w 46 6, o (.bin .rem 3 46 (ci 8)) 47, w 48 7, o (.dG 45) 49, o (.add 0 49) 50, o (.Vb 1 8 50 47) 51, n_ (.store 1 51 48)]))))) (.ops [o (.bin .add 3 26 (ci 1)) 52, w 26 52]))))))) (q [w 53 4, w 2 53, o (.mv (ci 0)) 3] .ret)))))
theorem Vd : Fits Tryz.prog 38 1 L6 [(.tmp 2), (.tmp 3)] := fk Tryz.func38
theorem L8 (F : Nat) (a0 : (List Int)) (r : Option aC × Int) (h : xM F a0 = some r) : AC Tryz.prog 38 [ss dh a0] [] (fun x s' => Va (r.1) (x = S.tup [S.one (.v (.pointer none)), (zi_ r.2)] ∧ l9 s' []) (fun G => x = S.tup [S.one (.ptr 7131 0), (zi_ r.2)] ∧ l9 s' [(7130, ⟨true, flat aN G.xl⟩), (7131, ⟨false, [.own 7130 0 G.xl.length (some (18, 115)), vb G.dD, vi G.bC, vi G.bP, sl aT G.bQ]⟩)])) := by
 unfold xM at h
 refine lN Vd rfl ?_
 intro C hP
 unfold L6; dsimp
 apply Eso
 apply WM
 apply WM
 refine Wk [0] [] ?_
 (try dsimp)
 apply Eso
 apply WM
 refine WQ qls ?_
 refine WQ qi ?_
 obtain ⟨x1, x1h, h⟩ := aG h
 rcases yU h with ⟨o2e, h⟩ | ⟨o2, o2e, h⟩
 refine W1 (aO [] true hP (yV o2e (OV F (IntKind.i64.wrap (Int.tdiv ((a0.length : Nat) : Int) 8)) x1 x1h)) rfl trivial rfl rfl rfl rfl rfl (fun h => by first | rfl | cases h) rfl) ?_
 (try dsimp)
 apply WM
 refine WQ qx ?_
 refine WQ qx ?_
 apply WM
 apply WM
 refine Wk [0, 4, 5] [] ?_
 (try dsimp)
 apply bG
 apply Eso
 apply WM
 refine WQ qi ?_
 apply WM
 apply aF
 rfl
 intro b
 try rw [b]
 exact qm
 apply aF
 rfl
 intro b
 try rw [b]
 exact qls
 apply aF
 rfl
 intro b
 try rw [b]
 exact qi
 apply aF
 rfl
 intro b
 try rw [b]
 exact qi
 refine WQ qor ?_
 refine Wk [0, 4, 23] [] ?_
 (try dsimp)
 refine Ec h rfl (fun h hc3 => ?_) (fun h hc3 => ?_)
 apply Eso
 apply WM
 apply WM
 refine Wk [2, 3] [] ?_
 (try dsimp)
 apply bD
 cases h
 (try simp only [qt, qb, qn, qg])
 refine dN (xs := _) ⟨_, rfl, ⟨_, rfl, rfl⟩⟩ ?_
 show _ ∧ _
 exact ⟨rfl, trivial⟩
 apply bf
 refine aX [0, 4] [] ?_
 (try dsimp)
 obtain ⟨k4, k4d, h⟩ := eX h
 refine dJ (fun (i : Unit) => ⟨[(4, S.one (.v (.pointer none)))], []⟩) (fun i => k4 () = some r) (fun i h => ?_) ?_
 rw [k4d] at h; dsimp only at h
 (try dsimp)
 apply Eso
 apply WM
 apply WM
 apply WM
 refine Wk [2, 3] [] ?_
 (try dsimp)
 apply bD
 cases h
 (try simp only [qt, qb, qn, qg])
 refine dN (xs := _) ⟨_, rfl, ⟨_, rfl, rfl⟩⟩ ?_
 show _ ∧ _
 exact ⟨rfl, trivial⟩
 apply Eso
 apply WM
 refine WQ qls ?_
 apply WM
 refine Wk [4, 24, 25, 26] [] ?_
 (try dsimp)
 apply bT
 (try dsimp)
 refine eG (fun (i : Unit) => ⟨[(4, S.one (.v (.pointer none))), (24, ss dh a0), (25, (zi_ ((a0.length : Nat) : Int))), (26, (zi_ (0 : Int)))], []⟩) (fun n i => zx F a0 k4 n () = some r) F () h ?_ (fun n i h => ?_)
 exact LB
 obtain _ | n7 := n
 cases h
 unfold zx at h
 (try dsimp)
 apply Eso
 refine WQ qi ?_
 apply bW
 (try dsimp)
 apply bG
 refine Ec h rfl (fun h hc8 => ?_) (fun h hc8 => ?_)
 apply bf
 refine aX [4, 24, 25, 26] [] ?_
 (try dsimp)
 apply bG
 apply bT
 apply Eso
 apply WM
 obtain ⟨g9, h⟩ := aQ h
 refine WQ (qis g9) ?_
 refine WQ (q1F 1 g9 0) ?_
 apply WM
 apply WM
 refine Wk [4, 6, 7, 24, 25, 26] [] ?_
 (try dsimp)
 apply Eso
 apply WM
 cases h
 apply gy
 refine ⟨(), h, ?_⟩
 exact LB
 refine W1 (aO [(11, 7130), (13, 7131)] true hP (yX o2e (OV F (IntKind.i64.wrap (Int.tdiv ((a0.length : Nat) : Int) 8)) x1 x1h)) rfl trivial rfl rfl rfl rfl rfl (fun h => by first | rfl | cases h) rfl) ?_
 (try dsimp)
 apply WM
 refine WQ qx ?_
 refine WQ qx ?_
 apply WM
 apply WM
 refine Wk [0, 4, 5] [7130, 7131] ?_
 (try dsimp)
 apply bG
 apply Eso
 apply WM
 refine WQ qi ?_
 apply WM
 apply aF
 rfl
 intro b
 try rw [b]
 exact qm
 apply aF
 rfl
 intro b
 try rw [b]
 exact qls
 apply aF
 rfl
 intro b
 try rw [b]
 exact qi
 apply aF
 rfl
 intro b
 try rw [b]
 exact qi
 refine WQ qor ?_
 refine Wk [0, 4, 23] [7130, 7131] ?_
 (try dsimp)
 refine Ec h rfl (fun h QA => ?_) (fun h QA => ?_)
 apply Eso
 apply WM
 apply WM
 refine Wk [2, 3] [] ?_
 (try dsimp)
 apply bD
 cases h
 (try simp only [qt, qb, qn, qg])
 refine dN (xs := _) ⟨_, rfl, ⟨_, rfl, rfl⟩⟩ ?_
 show _ ∧ _
 exact ⟨rfl, trivial⟩
 apply bf
 refine aX [0, 4] [7130, 7131] ?_
 (try dsimp)
 obtain ⟨k12, U9, h⟩ := eX h
 refine dJ (fun (i : (List bV)) => ⟨[(4, S.one (.ptr 7131 0))], [(7130, ⟨true, flat aN i⟩), (7131, ⟨false, [.own 7130 0 i.length (some (18, 115)), vb o2.dD, vi o2.bC, vi o2.bP, sl aT o2.bQ]⟩)]⟩) (fun i => k12 i = some r) (fun i h => ?_) ?_
 let iv := i; change k12 i = some r at h; generalize i = v11 at h ⊢
 rw [U9] at h; dsimp only at h
 (try dsimp)
 apply Eso
 apply WM
 apply WM
 apply WM
 refine Wk [2, 3] [7130, 7131] ?_
 (try dsimp)
 apply bD
 cases h
 (try simp only [qt, qb, qn, qg])
 refine dN (xs := _) ⟨_, rfl, ⟨_, rfl, rfl⟩⟩ ?_
 show _ ∧ _
 exact ⟨rfl, ⟨(by first | rfl | simp [aj, au, ah]), ⟨(by first | rfl | simp [aj, au, ah]), trivial⟩⟩⟩
 apply Eso
 apply WM
 refine WQ qls ?_
 apply WM
 refine Wk [4, 24, 25, 26] [7130, 7131] ?_
 (try dsimp)
 apply bT
 (try dsimp)
 refine eG (fun (i : Int × (List bV)) => ⟨[(4, S.one (.ptr 7131 0)), (24, ss dh a0), (25, (zi_ ((a0.length : Nat) : Int))), (26, zi_ i.1)], [(7130, ⟨true, flat aN i.2⟩), (7131, ⟨false, [.own 7130 0 i.2.length (some (18, 115)), vb o2.dD, vi o2.bC, vi o2.bP, sl aT o2.bQ]⟩)]⟩) (fun n i => oU F a0 k12 n i.1 i.2 = some r) F ((0 : Int), o2.xl) h ?_ (fun n i h => ?_)
 exact LB
 obtain ⟨v27, v28⟩ := i; dsimp only at h
 obtain _ | n29 := n
 cases h
 unfold oU at h
 (try dsimp)
 apply Eso
 refine WQ qi ?_
 apply bW
 (try dsimp)
 apply bG
 refine Ec h rfl (fun h Y6 => ?_) (fun h Y6 => ?_)
 apply bf
 refine aX [4, 24, 25, 26] [7130, 7131] ?_
 (try dsimp)
 apply bG
 apply bT
 apply Eso
 apply WM
 obtain ⟨g31, h⟩ := aQ h
 refine WQ (qis g31) ?_
 refine WQ (q1F 1 g31 0) ?_
 apply WM
 apply WM
 refine Wk [4, 6, 7, 24, 25, 26] [7130, 7131] ?_
 (try dsimp)
 apply Eso
 apply WM
 refine WQ qnc ?_
 refine WQ qap ?_
 refine WQ ql1 ?_
 apply WM
 refine WQ qi ?_
 obtain ⟨g32, h⟩ := aQ h
 refine WQ (qio g32) ?_
 apply WM
 refine Wk [4, 6, 7, 8, 24, 25, 26] [7130, 7131] ?_
 (try dsimp)
 apply Eso
 apply WM
 apply WM
 refine WQ qi ?_
 apply WM
 refine WQ qnc ?_
 refine WQ qap ?_
 obtain ⟨g33, h⟩ := aQ h
 refine WQ (vX rfl rfl rfl g33.1 g33.2) ?_
 refine W1 (dI (e := aN) (n := 1) (k := 18) rfl rfl (fun _ => rfl) g32 (8 + (Int.tmod v27 8).toNat) (by omega) rfl rfl rfl (by decide) (⟨(nth v28 (IntKind.i64.wrap (Int.tdiv v27 8))).jl, (((nth v28 (IntKind.i64.wrap (Int.tdiv v27 8))).xNew).put (Int.tmod v27 8).toNat (nth a0 v27)), (nth v28 (IntKind.i64.wrap (Int.tdiv v27 8))).rZ, (nth v28 (IntKind.i64.wrap (Int.tdiv v27 8))).pO⟩ : bV) (ab3 (n := 8) (fun j => aN (⟨(nth v28 (IntKind.i64.wrap (Int.tdiv v27 8))).jl, (((nth v28 (IntKind.i64.wrap (Int.tdiv v27 8))).xNew).put j (nth a0 v27)), (nth v28 (IntKind.i64.wrap (Int.tdiv v27 8))).rZ, (nth v28 (IntKind.i64.wrap (Int.tdiv v27 8))).pO⟩ : bV) = splice (aN (nth v28 (IntKind.i64.wrap (Int.tdiv v27 8)))) (8 + j) [vu (nth a0 v27)]) g33 (by intro j hj; rcases j with _|_|_|_|_|_|_|_|j <;> first | rfl | omega)) (by omega) rfl) ?_
 refine Wk [4, 6, 7, 8, 24, 25, 26] [7130, 7131] ?_
 (try dsimp)
 apply dO
 apply WM
 apply WM
 refine WQ qi ?_
 apply WM
 refine WQ qnc ?_
 refine WQ qap ?_
 obtain ⟨g34, h⟩ := aQ h
 refine WQ (vX rfl rfl rfl g34.1 g34.2) ?_
 refine W1 (mD (e := aN) (n := 1) (k := 18) rfl rfl (fun _ => rfl) (by first | exact g32 | exact kH.1 g32 | simpa only [kH] using g32) (0 + (Int.tmod v27 8).toNat) (by omega) rfl rfl rfl (by decide) (⟨(((nth v28 (IntKind.i64.wrap (Int.tdiv v27 8))).jl).put (Int.tmod v27 8).toNat (nth a0 v27)), (((nth v28 (IntKind.i64.wrap (Int.tdiv v27 8))).xNew).put (Int.tmod v27 8).toNat (nth a0 v27)), (nth v28 (IntKind.i64.wrap (Int.tdiv v27 8))).rZ, (nth v28 (IntKind.i64.wrap (Int.tdiv v27 8))).pO⟩ : bV) (ab3 (n := 8) (fun j => aN (⟨(((nth v28 (IntKind.i64.wrap (Int.tdiv v27 8))).jl).put j (nth a0 v27)), (((nth v28 (IntKind.i64.wrap (Int.tdiv v27 8))).xNew).put (Int.tmod v27 8).toNat (nth a0 v27)), (nth v28 (IntKind.i64.wrap (Int.tdiv v27 8))).rZ, (nth v28 (IntKind.i64.wrap (Int.tdiv v27 8))).pO⟩ : bV) = splice (aN (⟨(nth v28 (IntKind.i64.wrap (Int.tdiv v27 8))).jl, (((nth v28 (IntKind.i64.wrap (Int.tdiv v27 8))).xNew).put (Int.tmod v27 8).toNat (nth a0 v27)), (nth v28 (IntKind.i64.wrap (Int.tdiv v27 8))).rZ, (nth v28 (IntKind.i64.wrap (Int.tdiv v27 8))).pO⟩ : bV)) (0 + j) [vu (nth a0 v27)]) g34 (by intro j hj; rcases j with _|_|_|_|_|_|_|_|j <;> first | rfl | omega)) (by omega) rfl) ?_
 refine Wk [4, 24, 25, 26] [7130, 7131] ?_
 (try dsimp)
 apply dO
 obtain ⟨g35, h⟩ := aQ h
 refine WQ (qad g35) ?_
 apply WM
 apply bW
 refine ⟨n29, ((v27 + (1 : Int)), (dZ v28 (IntKind.i64.wrap (Int.tdiv v27 8)) (⟨(((nth v28 (IntKind.i64.wrap (Int.tdiv v27 8))).jl).put (Int.tmod v27 8).toNat (nth a0 v27)), (((nth v28 (IntKind.i64.wrap (Int.tdiv v27 8))).xNew).put (Int.tmod v27 8).toNat (nth a0 v27)), (nth v28 (IntKind.i64.wrap (Int.tdiv v27 8))).rZ, (nth v28 (IntKind.i64.wrap (Int.tdiv v27 8))).pO⟩ : bV))), Nat.lt_succ_self _, h, ?_⟩
 refine fM (fK (r := 7131) rfl (by simp [aj, au, ah] : ⟨false, [.own 7130 0 v28.length (some (18, 115)), vb o2.dD, vi o2.bC, vi o2.bP, sl aT o2.bQ]⟩ = ⟨false, [.own 7130 0 (dZ v28 (IntKind.i64.wrap (Int.tdiv v27 8)) (⟨(((nth v28 (IntKind.i64.wrap (Int.tdiv v27 8))).jl).put (Int.tmod v27 8).toNat (nth a0 v27)), (((nth v28 (IntKind.i64.wrap (Int.tdiv v27 8))).xNew).put (Int.tmod v27 8).toNat (nth a0 v27)), (nth v28 (IntKind.i64.wrap (Int.tdiv v27 8))).rZ, (nth v28 (IntKind.i64.wrap (Int.tdiv v27 8))).pO⟩ : bV)).length (some (18, 115)), vb o2.dD, vi o2.bC, vi o2.bP, sl aT o2.bQ]⟩)).b ?_
 exact LB
 apply gy
 refine ⟨v28, h, ?_⟩
 exact LB
def Jq : cO := (q [o (.box 30 0) 2, o (.mv cp) 4, o (.mv (ci 0)) 5] (q [o (.load yy 3 2) 9, w 10 1, o (.call 27 [9, 10]) 11, w 8 11, o (.ext 0 8) 12, o (.ext 1 8) 13, o (.jm [zi, zi, zi, .nil, .nil]) 6, n_ (.store 5 6 12), w 7 13] (.seq (q [w 14 7, o (.bin .neq 32 14 (ci 0)) 15] (.cond 15 (q [w 16 7, o (.mv cp) 4, w 5 16] .ret) .skip)) (q [o (.load yy 5 6) 17, o (.call 42 [17, .const (.int .u64 0)]) 18, o (.call 38 [18]) 19, o (.ext 0 19) 20, o (.ext 1 19) 21, w 4 20, w 5 21] .ret))))
theorem SS : Fits Tryz.prog 31 2 Jq [(.tmp 4), (.tmp 5)] := fk Tryz.func31
theorem yY (F : Nat) (a0 : aJ) (a1 : Int) (r : Option aC × Int) (h : uo F a0 a1 = some r) : AC Tryz.prog 31 [S.agg [vi a0.ak, vi a0.ay, vi a0.aA], (zi_ a1)] [] (fun x s' => Va (r.1) (x = S.tup [S.one (.v (.pointer none)), (zi_ r.2)] ∧ l9 s' []) (fun G => x = S.tup [S.one (.ptr 7191 0), (zi_ r.2)] ∧ l9 s' [(7190, ⟨true, flat aN G.xl⟩), (7191, ⟨false, [.own 7190 0 G.xl.length (some (18, 115)), vb G.dD, vi G.bC, vi G.bP, sl aT G.bQ]⟩)])) := by
 unfold uo at h
 refine lN SS rfl ?_
 intro C hP
 unfold Jq; dsimp
 apply Eso
 refine W1 dbx ?_
 apply WM
 apply WM
 refine Wk [1, 2] [2] ?_
 apply Eso
 refine WQ qlA ?_
 apply WM
 obtain ⟨x1, x1h, h⟩ := aG h
 refine W1 (dc1 hP (CS F a0 a1 x1 x1h)) ?_
 apply WM
 refine WQ qx ?_
 refine WQ qx ?_
 refine W1 dnv ?_
 refine W1 dst ?_
 apply WM
 refine Wk [6, 7] [6] ?_
 apply bG
 apply Eso
 apply WM
 refine WQ qi ?_
 refine Wk [6, 7, 15] [6] ?_
 refine Ec h rfl (fun h hc2 => ?_) (fun h hc2 => ?_)
 apply Eso
 apply WM
 apply WM
 apply WM
 refine Wk [4, 5] [] ?_
 apply bD
 cases h
 (try simp only [qt, qb, qn, qg])
 refine dN (xs := _) ⟨_, rfl, ⟨_, rfl, rfl⟩⟩ ?_
 show _ ∧ _
 exact ⟨rfl, trivial⟩
 apply bf
 refine aX [6] [6] ?_
 apply Eso
 refine WQ qlA ?_
 obtain ⟨x3, x3h, h⟩ := aG h
 refine W1 (dc1 hP (SQ F x1.1 (0 : Int) x3 x3h)) ?_
 obtain ⟨x4, x4h, h⟩ := aG h
 rcases yU h with ⟨o5e, h⟩ | ⟨o5, o5e, h⟩
 refine W1 (aO [] true hP (yV o5e (L8 F x3 x4 x4h)) rfl trivial rfl rfl rfl rfl rfl (fun h => by first | rfl | cases h) rfl) ?_
 refine WQ qx ?_
 refine WQ qx ?_
 apply WM
 apply WM
 refine Wk [4, 5] [] ?_
 apply bD
 cases h
 (try simp only [qt, qb, qn, qg])
 refine dN (xs := _) ⟨_, rfl, ⟨_, rfl, rfl⟩⟩ ?_
 show _ ∧ _
 exact ⟨rfl, trivial⟩
 refine W1 (aO [(7130, 7190), (7131, 7191)] true hP (yX o5e (L8 F x3 x4 x4h)) rfl trivial rfl rfl rfl rfl rfl (fun h => by first | rfl | cases h) rfl) ?_
 refine WQ qx ?_
 refine WQ qx ?_
 apply WM
 apply WM
 refine Wk [4, 5] [7190, 7191] ?_
 apply bD
 cases h
 (try simp only [qt, qb, qn, qg])
 refine dN (xs := _) ⟨_, rfl, ⟨_, rfl, rfl⟩⟩ ?_
 show _ ∧ _
 exact ⟨rfl, ⟨(by first | rfl | simp [aj, au, ah]), ⟨(by first | rfl | simp [aj, au, ah]), trivial⟩⟩⟩
def ES : cO := (q [o (.mv (cb nn)) 2] (q [w 3 0, o (.dG 3) 4, o (.add 1 4) 5, o (.load nn 1 5) 6, w 2 6] .ret))
theorem Oo : Fits Tryz.prog 56 1 ES [(.tmp 2)] := fk Tryz.func56
theorem zC (F : Nat) (a0 : aC) (r : Bool) (h : jC F a0 = some r) : AC Tryz.prog 56 [S.one (.ptr 100900 0)] [(100900, ⟨false, [.own 100901 0 a0.xl.length (some (18, 115)), vb a0.dD, vi a0.bC, vi a0.bP, sl aT a0.bQ]⟩), (100901, ⟨true, flat aN a0.xl⟩)] (fun x s' => x = (zb_ r) ∧ l9 s' [(100900, ⟨false, [.own 100901 0 a0.xl.length (some (18, 115)), vb a0.dD, vi a0.bC, vi a0.bP, sl aT a0.bQ]⟩), (100901, ⟨true, flat aN a0.xl⟩)]) := by
 unfold jC at h
 refine lN Oo rfl ?_
 intro C hP
 unfold ES; dsimp
 apply Eso
 apply WM
 refine Wk [0] [100900, 100901] ?_
 apply Eso
 apply WM
 refine WQ qnc ?_
 refine WQ qap ?_
 refine WQ ql1 ?_
 apply WM
 refine Wk [2] [100900, 100901] ?_
 apply bD
 cases h
 (try simp only [qt, qb, qn, qg])
 refine dN (xs := _) ⟨_, rfl, rfl⟩ ?_
 show _ ∧ _
 exact ⟨rfl, ⟨(by first | rfl | simp [aj, au, ah]), ⟨(by first | rfl | simp [aj, au, ah]), trivial⟩⟩⟩
def Bh : cO := (q [o (.mv cn) 2] (q [w 6 0, o (.dG 6) 7, o (.add 0 7) 8, o (.load nn 1 8) 9, o (.len nn 9) 10, o (.bin .mul 3 10 (ci 8)) 11, o (.mk 34 22 1 8 [zu] (ci 0) 11) 12, w 3 12] (.seq (q [w 13 0, o (.dG 13) 14, o (.add 0 14) 15, o (.load nn 1 15) 16, o (.len nn 16) 17, o (.mv (ci 0)) 18] (.block 0 (.loop (q [o (.bin .lss 3 18 17) 19] (.seq (.cond 19 .skip (.exit 0)) (.seq (.block 1 (q [o (.fH 18 16 18) 20, o (.load yy 18 20) 21, o (.jm [zu, zu, zu, zu, zu, zu, zu, zu, zu, zu, zu, zu, zu, zu, zu, zu, zb, zb]) 5, n_ (.store 18 5 21)] (.ops [w 22 3, o (.add 8 5) 23, o (.SH 1 8 23 .none .none) 24, o (.app 34 22 1 8 22 24) 25, w 3 25]))) (.ops [o (.bin .add 3 18 (ci 1)) 26, w 18 26]))))))) (q [w 27 3, w 2 27] .ret))))
theorem JQ : Fits Tryz.prog 18 1 Bh [(.tmp 2)] := fk Tryz.func18
theorem qO (F : Nat) (a0 : aC) (r : (List Int)) (h : gK F a0 = some r) : AC Tryz.prog 18 [S.one (.ptr 100900 0)] [(100900, ⟨false, [.own 100901 0 a0.xl.length (some (18, 115)), vb a0.dD, vi a0.bC, vi a0.bP, sl aT a0.bQ]⟩), (100901, ⟨true, flat aN a0.xl⟩)] (fun x s' => x = ss dh r ∧ l9 s' [(100900, ⟨false, [.own 100901 0 a0.xl.length (some (18, 115)), vb a0.dD, vi a0.bC, vi a0.bP, sl aT a0.bQ]⟩), (100901, ⟨true, flat aN a0.xl⟩)]) := by
 unfold gK at h
 refine lN JQ rfl ?_
 intro C hP
 unfold Bh; dsimp
 apply Eso
 apply WM
 refine Wk [0] [100900, 100901] ?_
 (try dsimp)
 apply Eso
 apply WM
 refine WQ qnc ?_
 refine WQ qap ?_
 refine WQ ql1 ?_
 refine WQ (jg rfl rfl) ?_
 obtain ⟨g1, h⟩ := aQ h
 refine WQ (qmu g1) ?_
 obtain ⟨g2, h⟩ := aQ h
 refine W1 (nS (e := dh) (0 : Int) rfl rfl rfl (fun _ => rfl) g2.1 g2.2.1 g2.2.2.1 g2.2.2.2 rfl) ?_
 apply WM
 refine Wk [0, 3] [12, 100900, 100901] ?_
 (try dsimp)
 obtain ⟨k4, k4d, h⟩ := eX h
 refine dJ (fun (i : (List Int)) => ⟨[(3, S.one (.own 12 0 i.length (some (1, 22))))], [(12, ⟨true, flat dh i⟩), (100900, ⟨false, [.own 100901 0 a0.xl.length (some (18, 115)), vb a0.dD, vi a0.bC, vi a0.bP, sl aT a0.bQ]⟩), (100901, ⟨true, flat aN a0.xl⟩)]⟩) (fun i => k4 i = some r) (fun i h => ?_) ?_
 let iv := i; change k4 i = some r at h; generalize i = v3 at h ⊢
 rw [k4d] at h; dsimp only at h
 (try dsimp)
 apply Eso
 apply WM
 apply WM
 refine Wk [2] [12, 100900, 100901] ?_
 (try dsimp)
 refine dR (kY (r := 12) rfl rfl).b ?_
 (try dsimp)
 apply bD
 cases h
 (try simp only [qt, qb, qn, qg])
 refine dN (xs := _) ⟨_, rfl, rfl⟩ ?_
 show _ ∧ _
 exact ⟨rfl, ⟨(by first | rfl | simp [aj, au, ah]), ⟨(by first | rfl | simp [aj, au, ah]), trivial⟩⟩⟩
 apply Eso
 apply WM
 refine WQ qnc ?_
 refine WQ qap ?_
 refine WQ ql1 ?_
 refine WQ (jg rfl rfl) ?_
 apply WM
 refine Wk [3, 16, 17, 18] [12, 100900, 100901] ?_
 (try dsimp)
 apply bT
 (try dsimp)
 refine eG (fun (i : Int × (List Int)) => ⟨[(3, S.one (.own 12 0 i.2.length (some (1, 22)))), (16, S.one (.own 100901 0 a0.xl.length (some (18, 115)))), (17, (zi_ ((a0.xl.length : Nat) : Int))), (18, zi_ i.1)], [(12, ⟨true, flat dh i.2⟩), (100900, ⟨false, [.own 100901 0 a0.xl.length (some (18, 115)), vb a0.dD, vi a0.bC, vi a0.bP, sl aT a0.bQ]⟩), (100901, ⟨true, flat aN a0.xl⟩)]⟩) (fun n i => kX F a0 k4 n i.1 i.2 = some r) F ((0 : Int), (List.replicate (0 : Int).toNat (0 : Int))) h ?_ (fun n i h => ?_)
 exact LB
 obtain ⟨v15, v16⟩ := i; dsimp only at h
 obtain _ | n17 := n
 cases h
 unfold kX at h
 (try dsimp)
 apply Eso
 refine WQ qi ?_
 apply bW
 (try dsimp)
 apply bG
 refine Ec h rfl (fun h hc18 => ?_) (fun h hc18 => ?_)
 apply bf
 refine aX [3, 16, 17, 18] [12, 100900, 100901] ?_
 (try dsimp)
 apply bG
 apply bT
 apply Eso
 obtain ⟨g19, h⟩ := aQ h
 refine WQ (qio g19) ?_
 refine WQ (uP (k := 18) rfl rfl (fun _ => rfl) g19 0 (by omega) rfl rfl (by decide)) ?_
 refine W1 dnv ?_
 refine W1 dst ?_
 refine Wk [3, 5, 16, 17, 18] [5, 12, 100900, 100901] ?_
 (try dsimp)
 apply dO
 apply WM
 refine WQ qap ?_
 refine WQ (qR rfl rfl rfl rfl (by decide) (by decide) (by decide) (List.cons_ne_nil _ _)) ?_
 obtain ⟨g20, h⟩ := aQ h
 refine W1 (dY (e := dh) rfl rfl (fun _ => rfl) (fun _ => rfl) rfl (Src.part (e := dh) ([(nth a0.xl v15).xNew.c0, (nth a0.xl v15).xNew.c1, (nth a0.xl v15).xNew.c2, (nth a0.xl v15).xNew.c3, (nth a0.xl v15).xNew.c4, (nth a0.xl v15).xNew.c5, (nth a0.xl v15).xNew.c6, (nth a0.xl v15).xNew.c7] : List Int) rfl (fun _ => rfl) rfl rfl) g20 rfl) ?_
 apply WM
 refine Wk [3, 16, 17, 18] [12, 100900, 100901] ?_
 (try dsimp)
 apply dO
 obtain ⟨g21, h⟩ := aQ h
 refine WQ (qad g21) ?_
 apply WM
 apply bW
 refine ⟨n17, ((v15 + (1 : Int)), (v16 ++ ([(nth a0.xl v15).xNew.c0, (nth a0.xl v15).xNew.c1, (nth a0.xl v15).xNew.c2, (nth a0.xl v15).xNew.c3, (nth a0.xl v15).xNew.c4, (nth a0.xl v15).xNew.c5, (nth a0.xl v15).xNew.c6, (nth a0.xl v15).xNew.c7] : List Int))), Nat.lt_succ_self _, h, ?_⟩
 exact LB
 apply gy
 refine ⟨v16, h, ?_⟩
 exact LB
def vw : cO := (q [o (.mv (cb nn)) 4] (.seq (q [w 6 0, o (.len nn 6) 7, w 8 1, o (.len nn 8) 9, o (.bin .neq 3 7 9) 10] (.cond 10 (q [o (.mv (cb nn)) 4] .ret) .skip)) (.seq (q [w 11 0, o (.len nn 11) 12, o (.mv (ci 0)) 13] (.block 0 (.loop (q [o (.bin .lss 3 13 12) 14] (.seq (.cond 14 .skip (.exit 0)) (.seq (.block 1 (q [w 15 13, w 5 15] (.seq (.draw [((w 16 0), []), ((w 17 5), []), ((o (.fH 1 16 17) 18), [0, 1]), ((o (.load nn 1 18) 19), [2]), ((w 20 1), []), ((w 21 5), []), ((o (.fH 1 20 21) 22), [4, 5]), ((o (.load nn 1 22) 23), [6]), ((o (.bin .neq 22 19 23) 24), [3, 7])]) (.cond 24 (q [o (.mv (cb nn)) 4] .ret) .skip)))) (.ops [o (.bin .add 3 13 (ci 1)) 25, w 13 25]))))))) (q [o (.mv (cb yy)) 4] .ret))))
theorem BZ : Fits Tryz.prog 135 2 vw [(.tmp 4)] := fk Tryz.func135
theorem vC (F : Nat) (a0 : (List Int)) (a1 : (List Int)) (r : Bool) (h : je F a0 a1 = some r) : PC Tryz.prog 135 [ss dh a0, ss dh a1] (zb_ r) := by
 unfold je at h
 refine eu BZ rfl rfl ?_
 intro C hP
 unfold vw; dsimp
 apply Eso
 apply WM
 refine Wk [0, 1] [] ?_
 (try dsimp)
 apply bG
 apply Eso
 apply WM
 refine WQ qls ?_
 apply WM
 refine WQ qls ?_
 refine WQ qi ?_
 refine Wk [0, 1, 10] [] ?_
 (try dsimp)
 refine Ec h rfl (fun h hc1 => ?_) (fun h hc1 => ?_)
 apply Eso
 apply WM
 refine Wk [4] [] ?_
 (try dsimp)
 apply bD
 cases h
 exact fe
 apply bf
 refine aX [0, 1] [] ?_
 (try dsimp)
 obtain ⟨k2, k2d, h⟩ := eX h
 refine dJ (fun (i : Unit) => ⟨[], []⟩) (fun i => k2 () = some r) (fun i h => ?_) ?_
 rw [k2d] at h; dsimp only at h
 (try dsimp)
 apply Eso
 apply WM
 apply bW
 (try dsimp)
 apply bD
 cases h
 exact fe
 apply Eso
 apply WM
 refine WQ qls ?_
 apply WM
 refine Wk [0, 1, 12, 13] [] ?_
 (try dsimp)
 apply bT
 (try dsimp)
 refine eG (fun (i : Int) => ⟨[(0, ss dh a0), (1, ss dh a1), (12, (zi_ ((a0.length : Nat) : Int))), (13, zi_ i)], []⟩) (fun n i => eP F a0 a1 k2 n i = some r) F (0 : Int) h ?_ (fun n i h => ?_)
 exact LB
 generalize i = v14 at h ⊢
 obtain _ | n15 := n
 cases h
 unfold eP at h
 (try dsimp)
 apply Eso
 refine WQ qi ?_
 apply bW
 (try dsimp)
 apply bG
 refine Ec h rfl (fun h hc16 => ?_) (fun h hc16 => ?_)
 apply bf
 refine aX [0, 1, 12, 13] [] ?_
 (try dsimp)
 apply bG
 apply bT
 apply Eso
 apply WM
 apply WM
 refine Wk [0, 1, 5, 12, 13] [] ?_
 (try dsimp)
 apply bG
 obtain ⟨g17, h⟩ := aQ h
 obtain ⟨g18, h⟩ := aQ h
 refine ig [0, 1, 2, 3, 4, 5, 6, 7, 8] ?_
 refine XQ 0 rfl rfl rfl qm ?_
 refine XQ 1 rfl rfl rfl qm ?_
 refine XQ 2 rfl rfl rfl (qis g17) ?_
 refine XQ 3 rfl rfl rfl (q1F 1 g17 0) ?_
 refine XQ 4 rfl rfl rfl qm ?_
 refine XQ 5 rfl rfl rfl qm ?_
 refine XQ 6 rfl rfl rfl (qis g18) ?_
 refine XQ 7 rfl rfl rfl (q1F 1 g18 0) ?_
 refine XQ 8 rfl rfl rfl qi ?_
 refine dL rfl ?_
 refine aX [0, 1, 12, 13, 24] [] ?_
 (try dsimp)
 refine Ec h rfl (fun h hc19 => ?_) (fun h hc19 => ?_)
 apply Eso
 apply WM
 refine Wk [4] [] ?_
 (try dsimp)
 apply bD
 cases h
 exact fe
 apply bf
 refine aX [0, 1, 12, 13] [] ?_
 (try dsimp)
 apply dO
 obtain ⟨g20, h⟩ := aQ h
 refine WQ (qad g20) ?_
 apply WM
 apply bW
 refine ⟨n15, (v14 + (1 : Int)), Nat.lt_succ_self _, h, ?_⟩
 exact LB
 apply gy
 refine ⟨(), h, ?_⟩
 exact LB
def Jr : cO := (q [o (.jm [zi, zi, zi, zu]) 2, o (.mv (cb nn)) 3] (.seq (.seq (.draw [((w 5 0), []), ((o (.len nn 5) 6), [0]), ((o (.bin .neq 3 6 (ci 8)) 7), [1]), ((w 8 7), [2]), ((g_ (.mv 0) 9 8 nn), [3]), ((g_ (.fH 1 9 (ci 1)) 10 8 nn), [4, 3]), ((g_ (.load nn 1 10) 11 8 nn), [5, 3]), ((g_ (.mv 0) 12 8 nn), [3]), ((g_ (.fH 1 12 (ci 2)) 13 8 nn), [7, 3]), ((g_ (.load nn 1 13) 14 8 nn), [8, 3]), ((g_ (.mv 0) 15 8 nn), [3]), ((g_ (.fH 1 15 (ci 3)) 16 8 nn), [10, 3]), ((g_ (.load nn 1 16) 17 8 nn), [11, 3]), ((g_ (.bi .max #[22, 22, 22] 22 #[nn, nn, nn] [11, 14, 17]) 18 8 nn), [6, 9, 12, 3]), ((g_ (.bin .gtr 22 18 (.const (.int .u64 4096))) 19 8 nn), [13, 3]), ((o (.pick 8 (cb yy) 19) 20), [3, 14])]) (.cond 20 (q [o (.build [zi, zi, zi, zu] []) 21, n_ (.store 4 2 21), o (.mv (cb nn)) 3] .ret) .skip)) (.seq (.draw [((w 22 0), []), ((o (.fH 1 22 (ci 1)) 23), [0]), ((o (.load nn 1 23) 24), [1]), ((o (.jd .i64 24) 25), [2]), ((w 26 0), []), ((o (.fH 1 26 (ci 2)) 27), [4]), ((o (.load nn 1 27) 28), [5]), ((o (.jd .i64 28) 29), [6]), ((w 30 0), []), ((o (.fH 1 30 (ci 3)) 31), [8]), ((o (.load nn 1 31) 32), [9]), ((o (.jd .i64 32) 33), [10]), ((o (.build [zi, zi, zi] [(0, (1, 25)), (1, (1, 29)), (2, (1, 33))]) 34), [3, 7, 11]), ((w 35 0), []), ((o (.fH 1 35 (ci 4)) 36), [13]), ((o (.load nn 1 36) 37), [14]), ((o (.build [zi, zi, zi, zu] [(0, (3, 34)), (3, (1, 37))]) 38), [12, 15]), ((o (.jm [zi, zi, zi, zu]) 4), []), ((n_ (.store 4 4 38)), [17, 16, 0, 1, 2, 3, 4, 5, 6, 7, 8, 9, 10, 11, 12, 13, 14, 15, 16, 17])]) (.seq (q [o (.load yy 4 4) 39, o (.call 75 [39]) 40, w 41 0, o (.call 135 [40, 41]) 42, o (.un .not 42) 43] (.cond 43 (q [o (.build [zi, zi, zi, zu] []) 44, n_ (.store 4 2 44), o (.mv (cb nn)) 3] .ret) .skip)) (q [o (.load yy 4 4) 45, n_ (.store 4 2 45), o (.mv (cb yy)) 3] .ret)))))
theorem SV : Fits Tryz.prog 103 1 Jr [(.cell true 4 2), (.tmp 3)] := fk Tryz.func103
theorem Dp (F : Nat) (a0 : (List Int)) (r : dK × Bool) (h : oI F a0 = some r) : PC Tryz.prog 103 [ss dh a0] (S.tup [S.agg [vi r.1.bH.ak, vi r.1.bH.ay, vi r.1.bH.aA, vu r.1.uj], (zb_ r.2)]) := by
 unfold oI at h
 refine eu SV rfl rfl ?_
 intro C hP
 unfold Jr; dsimp
 apply Eso
 refine W1 dnv ?_
 apply WM
 refine Wk [0, 2] [2] ?_
 (try dsimp)
 apply bG
 apply bG
 obtain ⟨g1, h⟩ := aQ h
 obtain ⟨g2, h⟩ := aQ h
 obtain ⟨g3, h⟩ := aQ h
 obtain ⟨x4, x4h, h⟩ := aG h
 refine ig [0, 1, 2, 3, 4, 5, 6, 7, 8, 9, 10, 11, 12, 13, 14, 15] ?_
 refine XQ 0 rfl rfl rfl qm ?_
 refine XQ 1 rfl rfl rfl qls ?_
 refine XQ 2 rfl rfl rfl qi ?_
 refine XQ 3 rfl rfl rfl qm ?_
 apply fO 4
 rfl
 rfl
 rfl
 rfl
 intro hB; (try rw [hB]); exact qm
 apply fO 5
 rfl
 rfl
 rfl
 rfl
 intro hB; (try rw [hB]); exact qis (g1 hB)
 apply fO 6
 rfl
 rfl
 rfl
 rfl
 intro hB; (try rw [hB]); exact q1F 1 (g1 hB) 0
 apply fO 7
 rfl
 rfl
 rfl
 rfl
 intro hB; (try rw [hB]); exact qm
 apply fO 8
 rfl
 rfl
 rfl
 rfl
 intro hB; (try rw [hB]); exact qis (g2 hB)
 apply fO 9
 rfl
 rfl
 rfl
 rfl
 intro hB; (try rw [hB]); exact q1F 1 (g2 hB) 0
 apply fO 10
 rfl
 rfl
 rfl
 rfl
 intro hB; (try rw [hB]); exact qm
 apply fO 11
 rfl
 rfl
 rfl
 rfl
 intro hB; (try rw [hB]); exact qis (g3 hB)
 apply fO 12
 rfl
 rfl
 rfl
 rfl
 intro hB; (try rw [hB]); exact q1F 1 (g3 hB) 0
 apply fO 13
 rfl
 rfl
 rfl
 rfl
 intro hB; (try rw [hB]); exact Ed (vs := [(.int .u64 (nth a0 (1 : Int))), (.int .u64 (nth a0 (2 : Int))), (.int .u64 (nth a0 (3 : Int)))]) hP rfl (X_i (jA x4h (bt hB))) rfl
 apply fO 14
 rfl
 rfl
 rfl
 rfl
 intro hB; (try rw [hB]); exact qi
 refine XQ 15 rfl rfl rfl qor ?_
 refine dL rfl ?_
 refine aX [0, 2, 20] [2] ?_
 (try dsimp)
 refine Ec h rfl (fun h hc5 => ?_) (fun h hc5 => ?_)
 apply Eso
 refine WQ qbu ?_
 refine W1 dst ?_
 apply WM
 refine Wk [2, 3] [2] ?_
 (try dsimp)
 apply bD
 cases h
 exact fe
 apply bf
 refine aX [0, 2] [2] ?_
 (try dsimp)
 apply bG
 obtain ⟨g6, h⟩ := aQ h
 obtain ⟨g7, h⟩ := aQ h
 obtain ⟨g8, h⟩ := aQ h
 obtain ⟨g9, h⟩ := aQ h
 refine ig [0, 1, 2, 3, 4, 5, 6, 7, 8, 9, 10, 11, 12, 13, 14, 15, 16] ?_
 refine XQ 0 rfl rfl rfl qm ?_
 refine XQ 1 rfl rfl rfl (qis g6) ?_
 refine XQ 2 rfl rfl rfl (q1F 1 g6 0) ?_
 refine XQ 3 rfl rfl rfl qcv ?_
 refine XQ 4 rfl rfl rfl qm ?_
 refine XQ 5 rfl rfl rfl (qis g7) ?_
 refine XQ 6 rfl rfl rfl (q1F 1 g7 0) ?_
 refine XQ 7 rfl rfl rfl qcv ?_
 refine XQ 8 rfl rfl rfl qm ?_
 refine XQ 9 rfl rfl rfl (qis g8) ?_
 refine XQ 10 rfl rfl rfl (q1F 1 g8 0) ?_
 refine XQ 11 rfl rfl rfl qcv ?_
 refine XQ 12 rfl rfl rfl qbu ?_
 refine XQ 13 rfl rfl rfl qm ?_
 refine XQ 14 rfl rfl rfl (qis g9) ?_
 refine XQ 15 rfl rfl rfl (q1F 1 g9 0) ?_
 refine XQ 16 rfl rfl rfl qbu ?_
 (try dsimp)
 refine X1 rfl (XK rfl dnv ?_)
 refine X1 rfl (XT rfl rfl dst ?_)
 refine dL rfl ?_
 refine aX [0, 2, 4] [2, 4] ?_
 (try dsimp)
 apply bG
 apply Eso
 refine WQ qlA ?_
 obtain ⟨x10, KU, h⟩ := aG h
 refine W1 (yu hP (Dn F (⟨(⟨(IntKind.i64.wrap (nth a0 (1 : Int))), (IntKind.i64.wrap (nth a0 (2 : Int))), (IntKind.i64.wrap (nth a0 (3 : Int)))⟩ : aJ), (nth a0 (4 : Int))⟩ : dK) x10 KU) rfl rfl rfl) ?_
 apply WM
 obtain ⟨x11, Zj, h⟩ := aG h
 refine W1 (dc1 hP (vC F x10 a0 x11 Zj)) ?_
 refine WQ qno ?_
 refine Wk [2, 4, 43] [2, 4] ?_
 (try dsimp)
 refine Ec h rfl (fun h hc12 => ?_) (fun h hc12 => ?_)
 apply Eso
 refine WQ qbu ?_
 refine W1 dst ?_
 apply WM
 refine Wk [2, 3] [2] ?_
 (try dsimp)
 apply bD
 cases h
 exact fe
 apply bf
 refine aX [2, 4] [2, 4] ?_
 (try dsimp)
 apply Eso
 refine WQ qlA ?_
 refine W1 dst ?_
 apply WM
 refine Wk [2, 3] [2] ?_
 (try dsimp)
 apply bD
 cases h
 exact fe
def G7 : cO := (q [o (.jm [zi, zi, zi, zu]) 2, o (.mv (cb nn)) 3, o (.mv (cb nn)) 4] (q [w 7 0, o (.len nn 7) 8, w 5 8] (.seq (q [w 9 5, o (.bin .lss 3 9 (ci 8)) 10, w 11 10, g_ (.mv 5) 12 11 nn, g_ (.bin .rem 3 12 (ci 8)) 13 11 nn, g_ (.bin .neq 3 13 (ci 0)) 14 11 nn, o (.pick 11 (cb yy) 14) 15] (.cond 15 (q [o (.build [zi, zi, zi, zu] []) 16, n_ (.store 4 2 16), o (.mv (cb nn)) 3, o (.mv (cb nn)) 4] .ret) .skip)) (q [w 18 0, o (.slc 1 18 .none (.some (ci 8)) .none) 19, o (.call 103 [19]) 20, w 17 20, o (.ext 0 17) 21, o (.ext 1 17) 22, n_ (.store 4 2 21), w 3 22] (q [w 23 3, w 24 23, g_ (.add 0 2) 25 24 yy, g_ (.load yy 3 25) 26 24 yy, g_ (.call 74 [26]) 27 24 yy, g_ (.mv 5) 28 24 yy, g_ (.bin .quo 3 28 (ci 8)) 29 24 yy, g_ (.bin .eql 3 27 29) 30 24 yy, o (.pick 24 30 (cb nn)) 31, w 3 31] (q [w 33 0, w 34 5, o (.bin .sub 3 34 (ci 8)) 35, o (.slc 1 33 (.some 35) .none .none) 36, o (.call 103 [36]) 37, w 32 37, o (.ext 0 32) 38, o (.ext 1 32) 39, o (.jm [zi, zi, zi, zu]) 6, n_ (.store 4 6 38), w 4 39] (q [w 40 4, w 41 40, g_ (.add 0 6) 42 41 yy, g_ (.load yy 3 42) 43 41 yy, g_ (.call 74 [43]) 44 41 yy, g_ (.mv 5) 45 41 yy, g_ (.bin .quo 3 45 (ci 8)) 46 41 yy, g_ (.bin .eql 3 44 46) 47 41 yy, o (.pick 41 47 (cb nn)) 48, w 4 48] (.seq (.block 0 (q [w 50 3, w 49 50] (.cond 49 (q [o (.load yy 4 2) 51, w 52 3, w 53 4, n_ (.store 4 2 51), w 3 52, w 4 53] .ret) (q [w 55 4, w 54 55] (.cond 54 (q [o (.load yy 4 6) 56, w 57 3, w 58 4, n_ (.store 4 2 56), w 3 57, w 4 58] .ret) .skip))))) (q [o (.build [zi, zi, zi, zu] []) 59, n_ (.store 4 2 59), o (.mv (cb nn)) 3, o (.mv (cb nn)) 4] .ret)))))))))
theorem QB : Fits Tryz.prog 94 1 G7 [(.cell true 4 2), (.tmp 3), (.tmp 4)] := fk Tryz.func94
theorem G8 (F : Nat) (a0 : (List Int)) (r : dK × Bool × Bool) (h : iV F a0 = some r) : PC Tryz.prog 94 [ss dh a0] (S.tup [S.agg [vi r.1.bH.ak, vi r.1.bH.ay, vi r.1.bH.aA, vu r.1.uj], (zb_ r.2.1), (zb_ r.2.2)]) := by
 unfold iV at h
 refine eu QB rfl rfl ?_
 intro C hP
 unfold G7; dsimp
 apply Eso
 refine W1 dnv ?_
 apply WM
 apply WM
 refine Wk [0, 2] [2] ?_
 (try dsimp)
 apply Eso
 apply WM
 refine WQ qls ?_
 apply WM
 refine Wk [0, 2, 5] [2] ?_
 (try dsimp)
 apply bG
 apply Eso
 apply WM
 refine WQ qi ?_
 apply WM
 apply aF
 rfl
 intro b
 try rw [b]
 exact qm
 apply aF
 rfl
 intro b
 try rw [b]
 exact qi
 apply aF
 rfl
 intro b
 try rw [b]
 exact qi
 refine WQ qor ?_
 refine Wk [0, 2, 5, 15] [2] ?_
 (try dsimp)
 refine Ec h rfl (fun h hc1 => ?_) (fun h hc1 => ?_)
 apply Eso
 refine WQ qbu ?_
 refine W1 dst ?_
 apply WM
 apply WM
 refine Wk [2, 3, 4] [2] ?_
 (try dsimp)
 apply bD
 cases h
 exact fe
 apply bf
 refine aX [0, 2, 5] [2] ?_
 (try dsimp)
 apply Eso
 apply WM
 obtain ⟨g2, h⟩ := aQ h
 refine WQ (lS rfl (fun _ => rfl) rfl rfl g2.1 g2.2.1 g2.2.2) ?_
 obtain ⟨x3, x3h, h⟩ := aG h
 refine W1 (dc1 hP (Dp F (cut a0 (0 : Int) (8 : Int)) x3 x3h)) ?_
 apply WM
 refine WQ qx ?_
 refine WQ qx ?_
 refine W1 dst ?_
 apply WM
 refine Wk [0, 2, 3, 5] [2] ?_
 (try dsimp)
 apply Eso
 apply WM
 apply WM
 apply aF
 rfl
 intro b
 try rw [b]
 exact qap
 apply aF
 rfl
 intro b
 try rw [b]
 exact qlA
 obtain ⟨x4, x4h, h⟩ := aG h
 apply iM
 rfl
 intro hB; (try rw [hB]); exact dc1 hP (FB F x3.1.bH x4 (jA x4h (bt hB)))
 apply aF
 rfl
 intro b
 try rw [b]
 exact qm
 apply aF
 rfl
 intro b
 try rw [b]
 exact qi
 apply aF
 rfl
 intro b
 try rw [b]
 exact qi
 refine WQ qan ?_
 apply WM
 refine Wk [0, 2, 3, 5] [2] ?_
 (try dsimp)
 apply Eso
 apply WM
 apply WM
 obtain ⟨g5, h⟩ := aQ h
 refine WQ (qsu g5) ?_
 obtain ⟨g6, h⟩ := aQ h
 refine WQ (lS rfl (fun _ => rfl) rfl rfl g6.1 g6.2.1 g6.2.2) ?_
 obtain ⟨x7, x7h, h⟩ := aG h
 refine W1 (dc1 hP (Dp F (cut a0 (((a0.length : Nat) : Int) - (8 : Int)) ((a0.length : Nat) : Int)) x7 x7h)) ?_
 apply WM
 refine WQ qx ?_
 refine WQ qx ?_
 refine W1 dnv ?_
 refine W1 dst ?_
 apply WM
 refine Wk [2, 3, 4, 5, 6] [2, 6] ?_
 (try dsimp)
 apply Eso
 apply WM
 apply WM
 apply aF
 rfl
 intro b
 try rw [b]
 exact qap
 apply aF
 rfl
 intro b
 try rw [b]
 exact qlA
 obtain ⟨x8, x8h, h⟩ := aG h
 apply iM
 rfl
 intro hB; (try rw [hB]); exact dc1 hP (FB F x7.1.bH x8 (jA x8h (bt hB)))
 apply aF
 rfl
 intro b
 try rw [b]
 exact qm
 apply aF
 rfl
 intro b
 try rw [b]
 exact qi
 apply aF
 rfl
 intro b
 try rw [b]
 exact qi
 refine WQ qan ?_
 apply WM
 refine Wk [2, 3, 4, 6] [2, 6] ?_
 (try dsimp)
 apply bG
 apply bT
 apply Eso
 apply WM
 apply WM
 refine Wk [2, 3, 4, 6, 49] [2, 6] ?_
 (try dsimp)
 refine Ec h rfl (fun h hc9 => ?_) (fun h hc9 => ?_)
 apply Eso
 refine WQ qlA ?_
 apply WM
 apply WM
 refine W1 dst ?_
 apply WM
 apply WM
 refine Wk [2, 3, 4] [2] ?_
 (try dsimp)
 apply bD
 cases h
 exact fe
 apply Eso
 apply WM
 apply WM
 refine Wk [2, 3, 4, 6, 54] [2, 6] ?_
 (try dsimp)
 refine Ec h rfl (fun h QA => ?_) (fun h QA => ?_)
 apply Eso
 refine WQ qlA ?_
 apply WM
 apply WM
 refine W1 dst ?_
 apply WM
 apply WM
 refine Wk [2, 3, 4] [2] ?_
 (try dsimp)
 apply bD
 cases h
 exact fe
 apply bf
 refine aX [2] [2] ?_
 (try dsimp)
 apply Eso
 refine WQ qbu ?_
 refine W1 dst ?_
 apply WM
 apply WM
 refine Wk [2, 3, 4] [2] ?_
 (try dsimp)
 apply bD
 cases h
 exact fe
def L9 : cO := (q [o (.box 30 0) 2, o (.mv (ci 0)) 4, o (.mv (ci 0)) 5] (.seq (q [o (.load yy 3 2) 6, o (.call 52 [6]) 7, o (.un .not 7) 8, w 9 8, g_ (.mv 1) 10 9 nn, g_ (.add 0 2) 11 9 nn, g_ (.load nn 1 11) 12 9 nn, g_ (.bin .sub 3 12 (ci 1)) 13 9 nn, g_ (.call 53 [10, ci 0, 13]) 14 9 nn, g_ (.un .not 14) 15 9 nn, o (.pick 9 (cb yy) 15) 16] (.cond 16 (q [o (.mv (ci 0)) 4, o (.mv (ci 0)) 5] .ret) .skip)) (q [w 17 1, o (.bin .mul 3 17 (ci 1208)) 18, o (.bin .add 3 (ci 16) 18) 19, w 4 19, o (.mv (ci 1208)) 5] .ret)))
theorem Ve : Fits Tryz.prog 39 2 L9 [(.tmp 4), (.tmp 5)] := fk Tryz.func39
theorem qE (F : Nat) (a0 : aJ) (a1 : Int) (r : Int × Int) (h : kE F a0 a1 = some r) : PC Tryz.prog 39 [S.agg [vi a0.ak, vi a0.ay, vi a0.aA], (zi_ a1)] (S.tup [(zi_ r.1), (zi_ r.2)]) := by
 unfold kE at h
 refine eu Ve rfl rfl ?_
 intro C hP
 unfold L9; dsimp
 apply Eso
 refine W1 dbx ?_
 apply WM
 apply WM
 refine Wk [1, 2] [2] ?_
 apply bG
 apply Eso
 refine WQ qlA ?_
 obtain ⟨x1, x1h, h⟩ := aG h
 refine W1 (dc1 hP (nR F a0 x1 x1h)) ?_
 refine WQ qno ?_
 apply WM
 apply aF
 rfl
 intro b
 try rw [b]
 exact qm
 apply aF
 rfl
 intro b
 try rw [b]
 exact qap
 apply aF
 rfl
 intro b
 try rw [b]
 exact ql1
 obtain ⟨g2, h⟩ := aQ h
 apply aF
 rfl
 intro b
 try rw [b]
 exact qsu (g2 b)
 obtain ⟨x3, x3h, h⟩ := aG h
 apply iM
 rfl
 intro hB; (try rw [hB]); exact dc1 hP (xY F a1 (0 : Int) (a0.ak - (1 : Int)) x3 (jA x3h (bt hB)))
 apply aF
 rfl
 intro b
 try rw [b]
 exact qno
 refine WQ qor ?_
 refine Wk [1, 16] [] ?_
 refine Ec h rfl (fun h hc4 => ?_) (fun h hc4 => ?_)
 apply Eso
 apply WM
 apply WM
 refine Wk [4, 5] [] ?_
 apply bD
 cases h
 exact fe
 apply bf
 refine aX [1] [] ?_
 apply Eso
 apply WM
 obtain ⟨g5, h⟩ := aQ h
 refine WQ (qmu g5) ?_
 obtain ⟨g6, h⟩ := aQ h
 refine WQ (qad g6) ?_
 apply WM
 apply WM
 refine Wk [4, 5] [] ?_
 apply bD
 cases h
 exact fe
def G9 : cO := (q [o (.mv cn) 0] (q [o (.build [zi, zi] [(0, (1, (ci 0))), (1, (1, (ci 8)))]) 1, o (.build [zi, zi] [(0, (1, (ci 8))), (1, (1, (ci 8)))]) 2, o (.build [zi, zi] [(0, (1, (ci 16))), (1, (1, (ci 16)))]) 3, o (.build [zi, zi] [(0, (1, (ci 32))), (1, (1, (ci 32)))]) 4, o (.iW 2 193 4 [zi, zi, zi, zi, zi, zi, zi, zi] [(0, (2, 1)), (2, (2, 2)), (4, (2, 3)), (6, (2, 4))]) 5, w 0 5] .ret))
theorem QC : Fits Tryz.prog 81 0 G9 [(.tmp 0)] := fk Tryz.func81
theorem He (F : Nat)  (r : (List aU)) (h : uK F  = some r) : PC Tryz.prog 81 [] (ss gZ r) := by
 unfold uK at h
 refine eu QC rfl rfl ?_
 intro C hP
 unfold G9; dsimp
 apply Eso
 apply WM
 refine Wk [] [] ?_
 apply Eso
 refine WQ qbu ?_
 refine WQ qbu ?_
 refine WQ qbu ?_
 refine WQ qbu ?_
 refine W1 dbs ?_
 apply WM
 refine Wk [0] [5] ?_
 refine dR (fK (r := 5) (g' := ⟨true, flat gZ ([(⟨(0 : Int), (8 : Int)⟩ : aU), (⟨(8 : Int), (8 : Int)⟩ : aU), (⟨(16 : Int), (16 : Int)⟩ : aU), (⟨(32 : Int), (32 : Int)⟩ : aU)] : List aU)⟩) rfl rfl).b ?_
 obtain ⟨g1, h⟩ := aQ h
 refine dR (jM (i := 0) _ rfl g1).b ?_
 refine dR (kY (r := 5) rfl rfl).b ?_
 apply bD
 cases h
 exact fe
def OW : cO := (q [o (.mv cn) 4] (.seq (q [w 8 1, o (.call 123 [8]) 9, o (.un .not 9) 10] (.cond 10 (q [o (.mv cn) 4] .ret) .skip)) (q [w 11 1, o (.len nn 11) 12, o (.mk 34 22 1 8 [zu] (ci 0) 12) 13, w 5 13] (.seq (q [w 14 1, o (.len nn 14) 15, o (.mv (ci 0)) 16] (.block 0 (.loop (q [o (.bin .lss 3 16 15) 17] (.seq (.cond 17 .skip (.exit 0)) (.seq (.block 1 (q [o (.fH 2 14 16) 18, o (.load yy 2 18) 19, o (.jm [zi, zi]) 7, n_ (.store 2 7 19)] (.draw [((w 20 5), []), ((w 21 0), []), ((o (.load yy 2 7) 22), []), ((o (.call 124 [22]) 23), [2]), ((o (.bin .and 22 21 23) 24), [1, 3]), ((o (.add 0 7) 25), []), ((o (.load nn 1 25) 26), [5]), ((o (.bin .shr 22 24 26) 27), [4, 6]), ((o (.iW 1 22 1 [zu] [(0, (1, 27))]) 28), [7]), ((o (.app 34 22 1 8 20 28) 29), [0, 8, 3]), ((w 5 29), [9, 9, 0, 1, 2, 3, 4, 5, 6, 7, 8, 9])]))) (.ops [o (.bin .add 3 16 (ci 1)) 30, w 16 30]))))))) (q [w 31 5, w 4 31] .ret)))))
theorem Xr : Fits Tryz.prog 97 2 OW [(.tmp 4)] := fk Tryz.func97
theorem Ef (F : Nat) (a0 : Int) (a1 : (List aU)) (r : (List Int)) (h : nH F a0 a1 = some r) : PC Tryz.prog 97 [(zu_ a0), ss gZ a1] (ss dh r) := by
 unfold nH at h
 refine eu Xr rfl rfl ?_
 intro C hP
 unfold OW; dsimp
 apply Eso
 apply WM
 refine Wk [0, 1] [] ?_
 (try dsimp)
 apply bG
 apply Eso
 apply WM
 obtain ⟨x1, x1h, h⟩ := aG h
 refine W1 (dc1 hP (LY F a1 x1 x1h)) ?_
 refine WQ qno ?_
 refine Wk [0, 1, 10] [] ?_
 (try dsimp)
 refine Ec h rfl (fun h hc2 => ?_) (fun h hc2 => ?_)
 apply Eso
 apply WM
 refine Wk [4] [] ?_
 (try dsimp)
 refine dR (Ee (i := 4) rfl).b ?_
 (try dsimp)
 apply bD
 cases h
 exact fe
 apply bf
 refine aX [0, 1] [] ?_
 (try dsimp)
 apply Eso
 apply WM
 refine WQ qls ?_
 obtain ⟨g3, h⟩ := aQ h
 refine W1 (nS (e := dh) (0 : Int) rfl rfl rfl (fun _ => rfl) g3.1 g3.2.1 g3.2.2.1 g3.2.2.2 rfl) ?_
 apply WM
 refine Wk [0, 1, 5] [13] ?_
 (try dsimp)
 obtain ⟨k5, k5d, h⟩ := eX h
 refine dJ (fun (i : (List Int)) => ⟨[(5, S.one (.own 13 0 i.length (some (1, 22))))], [(13, ⟨true, flat dh i⟩)]⟩) (fun i => k5 i = some r) (fun i h => ?_) ?_
 let iv := i; change k5 i = some r at h; generalize i = v4 at h ⊢
 rw [k5d] at h; dsimp only at h
 (try dsimp)
 apply Eso
 apply WM
 apply WM
 refine Wk [4] [13] ?_
 (try dsimp)
 refine dR (kY (r := 13) rfl rfl).b ?_
 (try dsimp)
 apply bD
 cases h
 exact fe
 apply Eso
 apply WM
 refine WQ qls ?_
 apply WM
 refine Wk [0, 5, 14, 15, 16] [13] ?_
 (try dsimp)
 apply bT
 (try dsimp)
 refine eG (fun (i : Int × (List Int)) => ⟨[(0, zu_ a0), (5, S.one (.own 13 0 i.2.length (some (1, 22)))), (14, ss gZ a1), (15, (zi_ ((a1.length : Nat) : Int))), (16, zi_ i.1)], [(13, ⟨true, flat dh i.2⟩)]⟩) (fun n i => jX F a0 a1 k5 n i.1 i.2 = some r) F ((0 : Int), (List.replicate (0 : Int).toNat (0 : Int))) h ?_ (fun n i h => ?_)
 exact LB
 obtain ⟨v20, v21⟩ := i; dsimp only at h
 obtain _ | n22 := n
 cases h
 unfold jX at h
 (try dsimp)
 apply Eso
 refine WQ qi ?_
 apply bW
 (try dsimp)
 apply bG
 refine Ec h rfl (fun h ab4 => ?_) (fun h ab4 => ?_)
 apply bf
 refine aX [0, 5, 14, 15, 16] [13] ?_
 (try dsimp)
 apply bG
 apply bT
 apply Eso
 obtain ⟨g24, h⟩ := aQ h
 refine WQ (qis g24) ?_
 refine WQ (qAF 2 g24 0) ?_
 refine W1 dnv ?_
 refine W1 dst ?_
 refine Wk [0, 5, 7, 14, 15, 16] [7, 13] ?_
 (try dsimp)
 obtain ⟨x25, Xo, h⟩ := aG h
 obtain ⟨g26, h⟩ := aQ h
 obtain ⟨g27, h⟩ := aQ h
 refine ig [0, 1, 2, 4, 5, 6, 7] ?_
 refine XQ 0 rfl rfl rfl qm ?_
 refine XQ 1 rfl rfl rfl qm ?_
 refine XQ 2 rfl rfl rfl qlA ?_
 refine XQ 5 rfl rfl rfl qap ?_
 refine XQ 6 rfl rfl rfl ql1 ?_
 refine X1 rfl (XK rfl (dc1 hP (sK F (nth a1 v20) x25 Xo)) ?_)
 refine XQ 4 rfl rfl rfl qi ?_
 refine XQ 7 rfl rfl rfl (yt rfl rfl g26) ?_
 refine X1 rfl (XK rfl dbs ?_)
 refine X1 rfl (XT rfl rfl (dY (e := dh) rfl rfl (fun _ => rfl) (fun _ => rfl) rfl (Src.lit (e := dh) ([(kL .u64 (tN .u64 a0 x25) ((nth a1 v20).eH))] : List Int) rfl (fun _ => rfl) rfl rfl) g27 rfl) ?_)
 refine X1 rfl (XT rfl rfl ((qm).does) ?_)
 refine dL rfl ?_
 refine aX [0, 5, 14, 15, 16] [13] ?_
 (try dsimp)
 apply dO
 obtain ⟨g28, h⟩ := aQ h
 refine WQ (qad g28) ?_
 apply WM
 apply bW
 refine ⟨n22, ((v20 + (1 : Int)), (v21 ++ ([(kL .u64 (tN .u64 a0 x25) ((nth a1 v20).eH))] : List Int))), Nat.lt_succ_self _, h, ?_⟩
 exact LB
 apply gy
 refine ⟨v21, h, ?_⟩
 exact LB
def Js : cO := (q [o (.box 30 0) 2, o (.mv (cb nn)) 4] (.seq (q [o (.load yy 3 2) 8, o (.call 52 [8]) 9, o (.un .not 9) 10, w 11 10, g_ (.mv 1) 12 11 nn, g_ (.len nn 12) 13 11 nn, g_ (.bin .gtr 3 13 (ci 600)) 14 11 nn, o (.pick 11 (cb yy) 14) 15] (.cond 15 (q [o (.mv (cb nn)) 4] .ret) .skip)) (q [o (.load yy 3 2) 16, o (.call 21 [16, ci 0]) 17, o (.bin .sub 3 17 (ci 1)) 18, w 5 18] (.seq (q [w 19 1, o (.len nn 19) 20, o (.mv (ci 0)) 21] (.block 0 (.loop (q [o (.bin .lss 3 21 20) 22] (.seq (.cond 22 .skip (.exit 0)) (.seq (.block 1 (q [o (.fH 2 19 21) 23, o (.load yy 2 23) 24, o (.jm [zi, zu]) 7, n_ (.store 2 7 24)] (.seq (.seq (.draw [((o (.add 0 7) 25), []), ((o (.load nn 1 25) 26), [0]), ((w 27 5), []), ((o (.bin .leq 3 26 27) 28), [1, 2]), ((w 29 28), [3]), ((g_ (.add 0 7) 30 29 nn), [4]), ((g_ (.load nn 1 30) 31 29 nn), [5, 4]), ((g_ (.load yy 3 2) 32 29 nn), [4]), ((g_ (.call 22 [32]) 33 29 nn), [7, 4, 4]), ((g_ (.bin .geq 3 31 33) 34 29 nn), [6, 8, 4]), ((o (.pick 29 (cb yy) 34) 35), [4, 9])]) (.cond 35 (q [o (.mv (cb nn)) 4] .ret) .skip)) (.ops [o (.add 0 7) 36, o (.load nn 1 36) 37, w 5 37])))) (.ops [o (.bin .add 3 21 (ci 1)) 38, w 21 38]))))))) (q [o (.mv (cb yy)) 4] .ret)))))
theorem SX : Fits Tryz.prog 136 2 Js [(.tmp 4)] := fk Tryz.func136
theorem SY (F : Nat) (a0 : aJ) (a1 : (List aB)) (r : Bool) (h : oL F a0 a1 = some r) : PC Tryz.prog 136 [S.agg [vi a0.ak, vi a0.ay, vi a0.aA], ss bM a1] (zb_ r) := by
 unfold oL at h
 refine eu SX rfl rfl ?_
 intro C hP
 unfold Js; dsimp
 apply Eso
 refine W1 dbx ?_
 apply WM
 refine Wk [1, 2] [2] ?_
 (try dsimp)
 apply bG
 apply Eso
 refine WQ qlA ?_
 obtain ⟨x1, x1h, h⟩ := aG h
 refine W1 (dc1 hP (nR F a0 x1 x1h)) ?_
 refine WQ qno ?_
 apply WM
 apply aF
 rfl
 intro b
 try rw [b]
 exact qm
 apply aF
 rfl
 intro b
 try rw [b]
 exact qls
 apply aF
 rfl
 intro b
 try rw [b]
 exact qi
 refine WQ qor ?_
 refine Wk [1, 2, 15] [2] ?_
 (try dsimp)
 refine Ec h rfl (fun h hc2 => ?_) (fun h hc2 => ?_)
 apply Eso
 apply WM
 refine Wk [4] [] ?_
 (try dsimp)
 apply bD
 cases h
 exact fe
 apply bf
 refine aX [1, 2] [2] ?_
 (try dsimp)
 apply Eso
 refine WQ qlA ?_
 obtain ⟨x3, x3h, h⟩ := aG h
 refine W1 (dc1 hP (FD F a0 (0 : Int) x3 x3h)) ?_
 obtain ⟨g4, h⟩ := aQ h
 refine WQ (qsu g4) ?_
 apply WM
 refine Wk [1, 2, 5] [2] ?_
 (try dsimp)
 obtain ⟨k5, k5d, h⟩ := eX h
 refine dJ (fun (i : Unit) => ⟨[], []⟩) (fun i => k5 () = some r) (fun i h => ?_) ?_
 rw [k5d] at h; dsimp only at h
 (try dsimp)
 apply Eso
 apply WM
 apply bW
 (try dsimp)
 apply bD
 cases h
 exact fe
 apply Eso
 apply WM
 refine WQ qls ?_
 apply WM
 refine Wk [2, 5, 19, 20, 21] [2] ?_
 (try dsimp)
 apply bT
 (try dsimp)
 refine eG (fun (i : Int × Int) => ⟨[(2, S.one (.ptr 2 0)), (5, zi_ i.1), (19, ss bM a1), (20, (zi_ ((a1.length : Nat) : Int))), (21, zi_ i.2)], [(2, ⟨true, [vi a0.ak, vi a0.ay, vi a0.aA]⟩)]⟩) (fun n i => lF F a0 a1 k5 n i.1 i.2 = some r) F ((x3 - (1 : Int)), (0 : Int)) h ?_ (fun n i h => ?_)
 exact LB
 obtain ⟨v18, v19⟩ := i; dsimp only at h
 obtain _ | n20 := n
 cases h
 unfold lF at h
 (try dsimp)
 apply Eso
 refine WQ qi ?_
 apply bW
 (try dsimp)
 apply bG
 refine Ec h rfl (fun h hc21 => ?_) (fun h hc21 => ?_)
 apply bf
 refine aX [2, 5, 19, 20, 21] [2] ?_
 (try dsimp)
 apply bG
 apply bT
 apply Eso
 obtain ⟨g22, h⟩ := aQ h
 refine WQ (qis g22) ?_
 refine WQ (qAF 2 g22 0) ?_
 refine W1 dnv ?_
 refine W1 dst ?_
 refine Wk [2, 5, 7, 19, 20, 21] [2, 7] ?_
 (try dsimp)
 apply bG
 apply bG
 obtain ⟨x23, Y8, h⟩ := aG h
 refine ig [0, 1, 2, 3, 4, 5, 6, 7, 9, 10] ?_
 refine XQ 0 rfl rfl rfl qap ?_
 refine XQ 1 rfl rfl rfl ql1 ?_
 refine XQ 2 rfl rfl rfl qm ?_
 refine XQ 3 rfl rfl rfl qi ?_
 refine XQ 4 rfl rfl rfl qm ?_
 apply fO 5
 rfl
 rfl
 rfl
 rfl
 intro hB; (try rw [hB]); exact qap
 apply fO 6
 rfl
 rfl
 rfl
 rfl
 intro hB; (try rw [hB]); exact ql1
 apply fO 7
 rfl
 rfl
 rfl
 rfl
 intro hB; (try rw [hB]); exact qlA
 (try dsimp)
 refine X1 rfl ?_
 apply AB
 rfl
 rfl
 intro hB; (try rw [hB]); exact dc1 hP (yj F a0 x23 (jA Y8 (bt hB)))
 apply fO 9
 rfl
 rfl
 rfl
 rfl
 intro hB; (try rw [hB]); exact qi
 refine XQ 10 rfl rfl rfl qor ?_
 refine dL rfl ?_
 refine aX [2, 7, 19, 20, 21, 35] [2, 7] ?_
 (try dsimp)
 refine Ec h rfl (fun h hc24 => ?_) (fun h hc24 => ?_)
 apply Eso
 apply WM
 refine Wk [4] [] ?_
 (try dsimp)
 apply bD
 cases h
 exact fe
 apply bf
 refine aX [2, 7, 19, 20, 21] [2, 7] ?_
 (try dsimp)
 apply dO
 refine WQ qap ?_
 refine WQ ql1 ?_
 apply WM
 refine Wk [2, 5, 19, 20, 21] [2] ?_
 (try dsimp)
 apply dO
 obtain ⟨g25, h⟩ := aQ h
 refine WQ (qad g25) ?_
 apply WM
 apply bW
 refine ⟨n20, ((nth a1 v19).xAt, (v19 + (1 : Int))), Nat.lt_succ_self _, h, ?_⟩
 exact LB
 apply gy
 refine ⟨(), h, ?_⟩
 exact LB
def Mc : cO := (q [o (.box 30 0) 2, o (.box 44 1) 3, o (.mv (cb nn)) 4] (q [o (.add 6 3) 7, o (.load yy 3 7) 8, o (.build [zi, zu, zi] []) 9, o (.eqA nn 41 8 9) 10, w 11 10, g_ (.add 9 3) 12 11 yy, g_ (.load nn 1 12) 13 11 yy, g_ (.len nn 13) 14 11 yy, g_ (.bin .eql 3 14 (ci 0)) 15 11 yy, o (.pick 11 15 (cb nn)) 16, w 5 16] (q [o (.add 6 3) 17, o (.load yy 3 17) 18, o (.jm [zi, zu, zi]) 6, n_ (.store 3 6 18)] (.seq (q [o (.load yy 3 2) 19, o (.add 9 3) 20, o (.load nn 1 20) 21, o (.call 136 [19, 21]) 22, o (.un .not 22) 23, w 24 23, g_ (.add 0 6) 25 24 nn, g_ (.load nn 1 25) 26 24 nn, g_ (.bin .lss 32 26 (ci 0)) 27 24 nn, o (.pick 24 (cb yy) 27) 28, w 29 28, g_ (.add 0 6) 30 29 nn, g_ (.load nn 1 30) 31 29 nn, g_ (.bin .gtr 32 31 (ci 255)) 32 29 nn, o (.pick 29 (cb yy) 32) 33, w 34 33, g_ (.add 2 6) 35 34 nn, g_ (.load nn 1 35) 36 34 nn, g_ (.bin .lss 3 36 (ci 0)) 37 34 nn, o (.pick 34 (cb yy) 37) 38, w 39 38, g_ (.add 2 6) 40 39 nn, g_ (.load nn 1 40) 41 39 nn, g_ (.bin .gtr 3 41 (ci 2147483647)) 42 39 nn, o (.pick 39 (cb yy) 42) 43] (.cond 43 (q [o (.mv (cb nn)) 4] .ret) .skip)) (.seq (q [o (.add 0 3) 44, o (.load nn 1 44) 45] (.block 0 (q [o (.bin .eql 3 45 (ci 0)) 47, w 46 47] (.cond 46 (q [w 48 5, w 49 48, g_ (.add 1 3) 50 49 yy, g_ (.load nn 1 50) 51 49 yy, g_ (.bin .eql 22 51 (.const (.int .u64 0))) 52 49 yy, o (.pick 49 52 (cb nn)) 53, w 54 53, g_ (.add 2 3) 55 54 yy, g_ (.load yy 4 55) 56 54 yy, g_ (.build [zu, zu, zu, zu] []) 57 54 yy, g_ (.eqA nn 23 56 57) 58 54 yy, o (.pick 54 58 (cb nn)) 59, w 4 59] .ret) (.seq (q [o (.bin .eql 3 45 (ci 1)) 61, w 60 61] (.cond 60 .skip (.ops [o (.bin .eql 3 45 (ci 4)) 62, w 60 62]))) (.cond 60 (q [w 63 5, w 64 63, g_ (.add 1 3) 65 64 yy, g_ (.load nn 1 65) 66 64 yy, g_ (.bin .geq 22 66 (.const (.int .u64 1))) 67 64 yy, o (.pick 64 67 (cb nn)) 68, w 69 68, g_ (.add 1 3) 70 69 yy, g_ (.load nn 1 70) 71 69 yy, g_ (.bin .leq 22 71 (.const (.int .u64 4294967295))) 72 69 yy, o (.pick 69 72 (cb nn)) 73, w 4 73] .ret) (.seq (q [o (.bin .eql 3 45 (ci 2)) 75, w 74 75] (.cond 74 .skip (.ops [o (.bin .eql 3 45 (ci 3)) 76, w 74 76]))) (.cond 74 (q [o (.add 1 3) 77, o (.load nn 1 77) 78, o (.bin .geq 22 78 (.const (.int .u64 1))) 79, w 80 79, g_ (.add 1 3) 81 80 yy, g_ (.load nn 1 81) 82 80 yy, g_ (.bin .leq 22 82 (.const (.int .u64 4294967295))) 83 80 yy, o (.pick 80 83 (cb nn)) 84, w 4 84] .ret) .skip)))))))) (q [o (.mv (cb nn)) 4] .ret))))))
theorem Vf : Fits Tryz.prog 98 2 Mc [(.tmp 4)] := fk Tryz.func98
theorem Vg (F : Nat) (a0 : aJ) (a1 : aV) (r : Bool) (h : oW F a0 a1 = some r) : PC Tryz.prog 98 [S.agg [vi a0.ak, vi a0.ay, vi a0.aA], S.agg [vi a1.bK, vu a1.jD, vu a1.xL.c0, vu a1.xL.c1, vu a1.xL.c2, vu a1.xL.c3, vi a1.bJ.kP, vu a1.bJ.xW, vi a1.bJ.xN, sl bM a1.xW]] (zb_ r) := by
 unfold oW at h
 refine eu Vf rfl rfl ?_
 intro C hP
 unfold Mc; dsimp
 apply Eso
 refine W1 dbx ?_
 refine W1 dbx ?_
 apply WM
 refine Wk [2, 3] [2, 3] ?_
 (try dsimp)
 apply Eso
 refine WQ qap ?_
 refine WQ qlA ?_
 refine WQ qbu ?_
 refine WQ (rJ hP abD rfl rfl rfl rfl ⟨rfl, ⟨rfl, ⟨rfl, trivial⟩⟩⟩) ?_
 apply WM
 apply aF
 rfl
 intro b
 try rw [b]
 exact qap
 apply aF
 rfl
 intro b
 try rw [b]
 exact ql1
 apply aF
 rfl
 intro b
 try rw [b]
 exact qls
 apply aF
 rfl
 intro b
 try rw [b]
 exact qi
 refine WQ qan ?_
 apply WM
 refine Wk [2, 3, 5] [2, 3] ?_
 (try dsimp)
 apply Eso
 refine WQ qap ?_
 refine WQ qlA ?_
 refine W1 dnv ?_
 refine W1 dst ?_
 refine Wk [2, 3, 5, 6] [2, 3, 6] ?_
 (try dsimp)
 apply bG
 apply Eso
 refine WQ qlA ?_
 refine WQ qap ?_
 refine WQ ql1 ?_
 obtain ⟨x1, x1h, h⟩ := aG h
 refine W1 (dc1 hP (SY F a0 a1.xW x1 x1h)) ?_
 refine WQ qno ?_
 apply WM
 apply aF
 rfl
 intro b
 try rw [b]
 exact qap
 apply aF
 rfl
 intro b
 try rw [b]
 exact ql1
 apply aF
 rfl
 intro b
 try rw [b]
 exact qi
 refine WQ qor ?_
 apply WM
 apply aF
 rfl
 intro b
 try rw [b]
 exact qap
 apply aF
 rfl
 intro b
 try rw [b]
 exact ql1
 apply aF
 rfl
 intro b
 try rw [b]
 exact qi
 refine WQ qor ?_
 apply WM
 apply aF
 rfl
 intro b
 try rw [b]
 exact qap
 apply aF
 rfl
 intro b
 try rw [b]
 exact ql1
 apply aF
 rfl
 intro b
 try rw [b]
 exact qi
 refine WQ qor ?_
 apply WM
 apply aF
 rfl
 intro b
 try rw [b]
 exact qap
 apply aF
 rfl
 intro b
 try rw [b]
 exact ql1
 apply aF
 rfl
 intro b
 try rw [b]
 exact qi
 refine WQ qor ?_
 refine Wk [3, 5, 43] [3] ?_
 (try dsimp)
 refine Ec h rfl (fun h hc2 => ?_) (fun h hc2 => ?_)
 apply Eso
 apply WM
 refine Wk [4] [] ?_
 (try dsimp)
 apply bD
 cases h
 exact fe
 apply bf
 refine aX [3, 5] [3] ?_
 (try dsimp)
 apply bG
 apply Eso
 refine WQ qap ?_
 refine WQ ql1 ?_
 refine Wk [3, 5, 45] [3] ?_
 (try dsimp)
 apply bT
 apply Eso
 refine WQ qi ?_
 apply WM
 refine Wk [3, 5, 45, 46] [3] ?_
 (try dsimp)
 refine Ec h rfl (fun h hc3 => ?_) (fun h hc3 => ?_)
 apply Eso
 apply WM
 apply WM
 apply aF
 rfl
 intro b
 try rw [b]
 exact qap
 apply aF
 rfl
 intro b
 try rw [b]
 exact ql1
 apply aF
 rfl
 intro b
 try rw [b]
 exact qi
 refine WQ qan ?_
 apply WM
 apply aF
 rfl
 intro b
 try rw [b]
 exact qap
 apply aF
 rfl
 intro b
 try rw [b]
 exact qlA
 apply aF
 rfl
 intro b
 try rw [b]
 exact qbu
 apply aF
 rfl
 intro b
 try rw [b]
 exact rJ hP Y1 rfl rfl rfl rfl ⟨rfl, ⟨rfl, ⟨rfl, ⟨rfl, trivial⟩⟩⟩⟩
 refine WQ qan ?_
 apply WM
 refine Wk [4] [] ?_
 (try dsimp)
 apply bD
 cases h
 exact fe
 obtain ⟨k5, k5d, h⟩ := eX h
 refine dJ (fun (i : Bool) => ⟨[(3, S.one (.ptr 3 0)), (5, (zb_ (((a1.bJ.kP == (0 : Int)) && ((a1.bJ.xW == (0 : Int)) && ((a1.bJ.xN == (0 : Int)) && true))) && (((a1.xW.length : Nat) : Int) == (0 : Int))))), (45, zi_ a1.bK), (60, zb_ i)], [(3, ⟨true, [vi a1.bK, vu a1.jD, vu a1.xL.c0, vu a1.xL.c1, vu a1.xL.c2, vu a1.xL.c3, vi a1.bJ.kP, vu a1.bJ.xW, vi a1.bJ.xN, sl bM a1.xW]⟩)]⟩) (fun i => k5 i = some r) (fun i h => ?_) ?_
 let iv := i; change k5 i = some r at h; generalize i = v4 at h ⊢
 rw [k5d] at h; dsimp only at h
 (try dsimp)
 refine Ec h rfl (fun h hc6 => ?_) (fun h hc6 => ?_)
 apply Eso
 apply WM
 apply WM
 apply aF
 rfl
 intro b
 try rw [b]
 exact qap
 apply aF
 rfl
 intro b
 try rw [b]
 exact ql1
 apply aF
 rfl
 intro b
 try rw [b]
 exact qi
 refine WQ qan ?_
 apply WM
 apply aF
 rfl
 intro b
 try rw [b]
 exact qap
 apply aF
 rfl
 intro b
 try rw [b]
 exact ql1
 apply aF
 rfl
 intro b
 try rw [b]
 exact qi
 refine WQ qan ?_
 apply WM
 refine Wk [4] [] ?_
 (try dsimp)
 apply bD
 cases h
 exact fe
 obtain ⟨k8, k8d, h⟩ := eX h
 refine dJ (fun (i : Bool) => ⟨[(3, S.one (.ptr 3 0)), (74, zb_ i)], [(3, ⟨true, [vi a1.bK, vu a1.jD, vu a1.xL.c0, vu a1.xL.c1, vu a1.xL.c2, vu a1.xL.c3, vi a1.bJ.kP, vu a1.bJ.xW, vi a1.bJ.xN, sl bM a1.xW]⟩)]⟩) (fun i => k8 i = some r) (fun i h => ?_) ?_
 let iv := i; change k8 i = some r at h; generalize i = v7 at h ⊢
 rw [k8d] at h; dsimp only at h
 (try dsimp)
 refine Ec h rfl (fun h hc9 => ?_) (fun h hc9 => ?_)
 apply Eso
 refine WQ qap ?_
 refine WQ ql1 ?_
 refine WQ qi ?_
 apply WM
 apply aF
 rfl
 intro b
 try rw [b]
 exact qap
 apply aF
 rfl
 intro b
 try rw [b]
 exact ql1
 apply aF
 rfl
 intro b
 try rw [b]
 exact qi
 refine WQ qan ?_
 apply WM
 refine Wk [4] [] ?_
 (try dsimp)
 apply bD
 cases h
 exact fe
 apply bf
 refine aX [] [] ?_
 (try dsimp)
 apply Eso
 apply WM
 apply bW
 (try dsimp)
 apply bD
 cases h
 exact fe
 apply Eso
 refine WQ qi ?_
 apply WM
 refine Wk [3, 45, 74] [3] ?_
 (try dsimp)
 refine Ec h rfl (fun h QA => ?_) (fun h QA => ?_)
 apply bf
 refine ⟨(a1.bK == (2 : Int)), h, ?_⟩
 exact LB
 apply dO
 refine WQ qi ?_
 apply WM
 apply bW
 refine ⟨(a1.bK == (3 : Int)), h, ?_⟩
 exact LB
 apply Eso
 refine WQ qi ?_
 apply WM
 refine Wk [3, 5, 45, 60] [3] ?_
 (try dsimp)
 refine Ec h rfl (fun h Y2 => ?_) (fun h Y2 => ?_)
 apply bf
 refine ⟨(a1.bK == (1 : Int)), h, ?_⟩
 exact LB
 apply dO
 refine WQ qi ?_
 apply WM
 apply bW
 refine ⟨(a1.bK == (4 : Int)), h, ?_⟩
 exact LB
end Go.V.P
