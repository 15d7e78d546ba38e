/- Walks: each function does what its model says. No premises. -/
import Derived.Test.YtopidcbmhdeclaaGreatP4
set_option linter.unusedVariables false
set_option linter.unusedSimpArgs false
set_option maxRecDepth 20000
set_option maxHeartbeats 4000000
namespace Go.V.P
open Go.V Go.Proofs
def Hg : cO := (q [o (.box 134 0) 1, o (.mv cn) 2] (q [o (.add 0 1) 10, o (.add 0 10) 11, o (.load yy 3 11) 12, o (.jm [zi, zi, zi]) 3, n_ (.store 3 3 12)] (q [o (.mv cn) 4] (q [o (.mv cn) 5] (.seq (q [o (.add 5 1) 13, o (.load nn 1 13) 14, o (.len nn 14) 15, o (.mv (ci 0)) 16] (.block 0 (.loop (q [o (.bin .lss 3 16 15) 17] (.seq (.cond 17 .skip (.exit 0)) (.seq (.block 1 (q [w 18 16, o (.fH 10 14 16) 19, o (.load yy 10 19) 20, o (.jm [zi, zu, zu, zu, zu, zu, zi, zu, zi, .nil]) 7, w 6 18, n_ (.store 10 7 20)] (q [o (.load yy 3 3) 22, w 23 6, o (.call 39 [22, 23]) 24, w 21 24, o (.ext 0 21) 25, o (.ext 1 21) 26, w 8 25, w 9 26] (.seq (q [o (.add 0 7) 27, o (.load nn 1 27) 28, o (.bin .eql 3 28 (ci 2)) 29] (.cond 29 (.ops [w 30 4, o (.add 9 7) 31, o (.load nn 1 31) 32, o (.iW 1 42 1 [.nil] [(0, (1, 32))]) 33, o (.app 137 42 1 24 30 33) 34, w 4 34]) .skip)) (.seq (q [o (.add 0 7) 35, o (.load nn 1 35) 36, o (.bin .eql 3 36 (ci 1)) 37] (.cond 37 (.ops [w 38 5, w 39 8, o (.bin .add 3 39 (ci 5)) 40, o (.build [zi, zu] [(0, (1, 40))]) 41, w 42 8, o (.bin .add 3 42 (ci 6)) 43, o (.build [zi, zu] [(0, (1, 43))]) 44, o (.iW 2 172 2 [zi, zu, zi, zu] [(0, (2, 41)), (2, (2, 44))]) 45, o (.app 42 172 2 16 38 45) 46, w 5 46]) .skip)) (.ops [w 47 5, w 48 8, o (.load yy 10 7) 49, o (.call 104 [49]) 50, o (.call 45 [50]) 51, o (.build [zi, zu] [(0, (1, 48)), (1, (1, 51))]) 52, o (.iW 2 172 1 [zi, zu] [(0, (2, 52))]) 53, o (.app 42 172 2 16 47 53) 54, w 5 54])))))) (.ops [o (.bin .add 3 16 (ci 1)) 55, w 16 55]))))))) (q [w 56 4, w 57 5, o (.load yy 3 3) 58, o (.call 47 [58]) 59, o (.build [zi, zu] [(0, (1, 59))]) 60, o (.iW 2 172 1 [zi, zu] [(0, (2, 60))]) 61, o (.iW 1 42 2 [.nil, .nil] [(0, (1, 57)), (1, (1, 61))]) 62, o (.app 137 42 1 24 56 62) 63, w 4 63] (.seq (q [o (.add 7 1) 64, o (.load nn 1 64) 65] (.cond 65 (.seq (.draw [((w 66 4), []), ((o (.load yy 8 1) 67), []), ((o (.load yy 3 3) 68), []), ((o (.call 22 [68]) 69), [2]), ((o (.call 105 [67, 69]) 70), [1, 3, 3]), ((o (.load yy 8 1) 71), []), ((o (.call 105 [71, ci 0]) 72), [5, 4]), ((o (.iW 1 42 2 [.nil, .nil] [(0, (1, 70)), (1, (1, 72))]) 73), [4, 6]), ((o (.app 137 42 1 24 66 73) 74), [0, 7, 6]), ((w 2 74), [8, 8, 0, 1, 2, 3, 4, 5, 6, 7, 8])]) .ret) .skip)) (.seq (.draw [((w 75 4), []), ((o (.load yy 8 1) 76), []), ((o (.call 105 [76, ci 0]) 77), [1]), ((o (.load yy 8 1) 78), []), ((o (.load yy 3 3) 79), []), ((o (.call 22 [79]) 80), [4, 2]), ((o (.call 105 [78, 80]) 81), [3, 5, 5]), ((o (.iW 1 42 2 [.nil, .nil] [(0, (1, 77)), (1, (1, 81))]) 82), [2, 6]), ((o (.app 137 42 1 24 75 82) 83), [0, 7, 6]), ((w 2 83), [8, 8, 0, 1, 2, 3, 4, 5, 6, 7, 8])]) .ret))))))))
theorem QE : Fits Tryz.prog 67 1 Hg [(.tmp 2)] := fk Tryz.func67
theorem QF (F : Nat) (a0 : gQ) (r : (List (List aB))) (h : oK F a0 = some r) : PC Tryz.prog 67 [S.agg [vi a0.xs.bH.ak, vi a0.xs.bH.ay, vi a0.xs.bH.aA, sl aK a0.xs.ay, sl aS a0.xs.aA, sl jf a0.mG, vu a0.lG, vb a0.lM]] (ss iC r) := by
 unfold oK at h
 refine eu QE rfl rfl ?_
 intro C hP
 unfold Hg; dsimp
 apply Eso
 refine W1 dbx ?_
 apply WM
 refine Wk [1] [1] ?_
 (try dsimp)
 apply Eso
 refine WQ qap ?_
 refine WQ qap ?_
 refine WQ qlA ?_
 refine W1 dnv ?_
 refine W1 dst ?_
 refine Wk [1, 3] [1, 3] ?_
 (try dsimp)
 apply Eso
 apply WM
 apply bW
 (try dsimp)
 apply Eso
 apply WM
 apply bW
 (try dsimp)
 obtain ⟨k3, k3d, h⟩ := eX h
 refine dJ (fun (i : (List aB) × (List (List aB))) => ⟨[(1, S.one (.ptr 1 0)), (3, S.one (.ptr 3 0)), (4, S.one (.own 1034 0 i.2.length (some (1, 42)))), (5, S.one (.own 1046 0 i.1.length (some (2, 172))))], [(1, ⟨true, [vi a0.xs.bH.ak, vi a0.xs.bH.ay, vi a0.xs.bH.aA, sl aK a0.xs.ay, sl aS a0.xs.aA, sl jf a0.mG, vu a0.lG, vb a0.lM]⟩), (3, ⟨true, [vi a0.xs.bH.ak, vi a0.xs.bH.ay, vi a0.xs.bH.aA]⟩), (1034, ⟨true, flat iC i.2⟩), (1046, ⟨true, flat bM i.1⟩)]⟩) (fun i => k3 i.1 i.2 = some r) (fun i h => ?_) ?_
 obtain ⟨v1, v2⟩ := i
 rw [k3d] at h; dsimp only at h
 (try dsimp)
 apply Eso
 apply WM
 apply WM
 refine WQ qlA ?_
 obtain ⟨x4, x4h, h⟩ := aG h
 refine W1 (dc1 hP (AP F a0.xs.bH x4 x4h)) ?_
 refine WQ qbu ?_
 refine W1 dbs ?_
 refine W1 dbs ?_
 obtain ⟨g5, h⟩ := aQ h
 obtain ⟨g6, h⟩ := aQ h
 obtain ⟨g7, h⟩ := aQ h
 refine W1 (Does.ghost (kY (r := 1046) rfl rfl).b (Does.ghost (fK (r := 61) (g' := ⟨true, flat bM ([(⟨x4, (0 : Int)⟩ : aB)] : List aB)⟩) rfl rfl).b (Does.ghost (jM (i := 61) _ rfl g5).b (Does.ghost (fK (r := 62) rfl (congrArg (fun n_ => ⟨false, [sl bM v1, .own 61 0 n_ (some (2, 172))]⟩) g6)).b (Does.ghost (kY (r := 61) rfl rfl).b (dY (e := iC) rfl rfl (fun _ => rfl) (fun _ => rfl) rfl (Src.lit (e := iC) ([v1, ([(⟨x4, (0 : Int)⟩ : aB)] : List aB)] : List (List aB)) rfl (fun _ => rfl) rfl rfl) g7 rfl)))))) ?_
 apply WM
 refine Wk [1, 3, 4] [1, 3, 1034] ?_
 (try dsimp)
 apply bG
 apply Eso
 refine WQ qap ?_
 refine WQ ql1 ?_
 refine Wk [1, 3, 4, 65] [1, 3, 1034] ?_
 (try dsimp)
 refine Ec h rfl (fun h hc8 => ?_) (fun h hc8 => ?_)
 apply bG
 obtain ⟨x9, x9h, h⟩ := aG h
 obtain ⟨x10, KU, h⟩ := aG h
 obtain ⟨x11, Zj, h⟩ := aG h
 obtain ⟨g12, h⟩ := aQ h
 refine ig [0, 1, 2, 5] ?_
 refine XQ 0 rfl rfl rfl qm ?_
 refine XQ 1 rfl rfl rfl qlA ?_
 refine XQ 2 rfl rfl rfl qlA ?_
 refine XQ 5 rfl rfl rfl qlA ?_
 refine X1 rfl (XK rfl (dc1 hP (yj F a0.xs.bH x9 x9h)) ?_)
 refine X1 rfl (XK rfl (dc1 hP (xC F a0 x9 x10 KU)) ?_)
 refine X1 rfl (XK rfl (dc1 hP (xC F a0 (0 : Int) x11 Zj)) ?_)
 refine X1 rfl (XK rfl dbs ?_)
 refine X1 rfl (XT rfl rfl (dY (e := iC) rfl rfl (fun _ => rfl) (fun _ => rfl) rfl (Src.lit (e := iC) ([x10, x11] : List (List aB)) rfl (fun _ => rfl) rfl rfl) g12 rfl) ?_)
 refine X1 rfl (XT rfl rfl ((qm).does) ?_)
 refine dL rfl ?_
 refine aX [2] [1034] ?_
 (try dsimp)
 refine dR (kY (r := 1034) rfl rfl).b ?_
 (try dsimp)
 apply bD
 cases h
 exact fe
 apply bf
 refine aX [1, 3, 4] [1, 3, 1034] ?_
 (try dsimp)
 apply bG
 obtain ⟨x13, Io, h⟩ := aG h
 obtain ⟨x14, SK, h⟩ := aG h
 obtain ⟨x15, SL, h⟩ := aG h
 obtain ⟨g16, h⟩ := aQ h
 refine ig [0, 1, 3, 4] ?_
 refine XQ 0 rfl rfl rfl qm ?_
 refine XQ 1 rfl rfl rfl qlA ?_
 refine XQ 3 rfl rfl rfl qlA ?_
 refine XQ 4 rfl rfl rfl qlA ?_
 refine X1 rfl (XK rfl (dc1 hP (xC F a0 (0 : Int) x13 Io)) ?_)
 refine X1 rfl (XK rfl (dc1 hP (yj F a0.xs.bH x14 SK)) ?_)
 refine X1 rfl (XK rfl (dc1 hP (xC F a0 x14 x15 SL)) ?_)
 refine X1 rfl (XK rfl dbs ?_)
 refine X1 rfl (XT rfl rfl (dY (e := iC) rfl rfl (fun _ => rfl) (fun _ => rfl) rfl (Src.lit (e := iC) ([x13, x15] : List (List aB)) rfl (fun _ => rfl) rfl rfl) g16 rfl) ?_)
 refine X1 rfl (XT rfl rfl ((qm).does) ?_)
 refine dL rfl ?_
 refine aX [2] [1034] ?_
 (try dsimp)
 refine dR (kY (r := 1034) rfl rfl).b ?_
 (try dsimp)
 apply bD
 cases h
 exact fe
 apply Eso
 refine WQ qap ?_
 refine WQ ql1 ?_
 refine WQ qls ?_
 apply WM
 refine Wk [1, 3, 4, 5, 14, 15, 16] [1, 3] ?_
 (try dsimp)
 apply bT
 (try dsimp)
 refine eG (fun (i : Int × (List aB) × (List (List aB))) => ⟨[(1, S.one (.ptr 1 0)), (3, S.one (.ptr 3 0)), (4, S.one (.own 1034 0 i.2.2.length (some (1, 42)))), (5, S.one (.own 1046 0 i.2.1.length (some (2, 172)))), (14, ss jf a0.mG), (15, (zi_ ((a0.mG.length : Nat) : Int))), (16, zi_ i.1)], [(1, ⟨true, [vi a0.xs.bH.ak, vi a0.xs.bH.ay, vi a0.xs.bH.aA, sl aK a0.xs.ay, sl aS a0.xs.aA, sl jf a0.mG, vu a0.lG, vb a0.lM]⟩), (3, ⟨true, [vi a0.xs.bH.ak, vi a0.xs.bH.ay, vi a0.xs.bH.aA]⟩), (1034, ⟨true, flat iC i.2.2⟩), (1046, ⟨true, flat bM i.2.1⟩)]⟩) (fun n i => gX F a0 k3 n i.1 i.2.1 i.2.2 = some r) F ((0 : Int), ([] : List aB), ([] : List (List aB))) h ?_ (fun n i h => ?_)
 refine fM (nT (i := 4) (r := 1034) 1 42 rfl rfl) ?_
 refine fM (nT (i := 5) (r := 1046) 2 172 rfl rfl) ?_
 exact LB
 obtain ⟨v54, v55, v56⟩ := i; dsimp only at h
 obtain _ | n57 := n
 cases h
 unfold gX at h
 (try dsimp)
 apply Eso
 refine WQ qi ?_
 apply bW
 (try dsimp)
 apply bG
 refine Ec h rfl (fun h aeB => ?_) (fun h aeB => ?_)
 apply bf
 refine aX [1, 3, 4, 5, 14, 15, 16] [1, 3, 1034, 1046] ?_
 (try dsimp)
 apply bG
 apply bT
 apply Eso
 apply WM
 obtain ⟨g59, h⟩ := aQ h
 refine WQ (qis g59) ?_
 refine WQ (qAF 10 g59 0) ?_
 refine W1 dnv ?_
 apply WM
 refine W1 dst ?_
 refine Wk [1, 3, 4, 5, 6, 7, 14, 15, 16] [1, 3, 7, 1034, 1046] ?_
 (try dsimp)
 apply Eso
 refine WQ qlA ?_
 apply WM
 obtain ⟨x60, aeC, h⟩ := aG h
 refine W1 (dc1 hP (qE F a0.xs.bH v54 x60 aeC)) ?_
 apply WM
 refine WQ qx ?_
 refine WQ qx ?_
 apply WM
 apply WM
 refine Wk [1, 3, 4, 5, 7, 8, 14, 15, 16] [1, 3, 7, 1034, 1046] ?_
 (try dsimp)
 obtain ⟨k62, aeD, h⟩ := eX h
 refine dJ (fun (i : (List (List aB))) => ⟨[(1, S.one (.ptr 1 0)), (3, S.one (.ptr 3 0)), (4, S.one (.own 1034 0 i.length (some (1, 42)))), (5, S.one (.own 1046 0 v55.length (some (2, 172)))), (7, S.one (.ptr 7 0)), (8, zi_ x60.1), (14, ss jf a0.mG), (15, (zi_ ((a0.mG.length : Nat) : Int))), (16, zi_ v54)], [(1, ⟨true, [vi a0.xs.bH.ak, vi a0.xs.bH.ay, vi a0.xs.bH.aA, sl aK a0.xs.ay, sl aS a0.xs.aA, sl jf a0.mG, vu a0.lG, vb a0.lM]⟩), (3, ⟨true, [vi a0.xs.bH.ak, vi a0.xs.bH.ay, vi a0.xs.bH.aA]⟩), (7, ⟨true, [vi (nth a0.mG v54).bK, vu (nth a0.mG v54).jD, vu (nth a0.mG v54).xL.c0, vu (nth a0.mG v54).xL.c1, vu (nth a0.mG v54).xL.c2, vu (nth a0.mG v54).xL.c3, vi (nth a0.mG v54).bJ.kP, vu (nth a0.mG v54).bJ.xW, vi (nth a0.mG v54).bJ.xN, .sl (flat bM (nth a0.mG v54).xW) (nth a0.mG v54).xW.length]⟩), (1034, ⟨true, flat iC i⟩), (1046, ⟨true, flat bM v55⟩)]⟩) (fun i => k62 i = some r) (fun i h => ?_) ?_
 let iv := i; change k62 i = some r at h; generalize i = v61 at h ⊢
 rw [aeD] at h; dsimp only at h
 (try dsimp)
 obtain ⟨k64, aeE, h⟩ := eX h
 refine dJ (fun (i : (List aB)) => ⟨[(1, S.one (.ptr 1 0)), (3, S.one (.ptr 3 0)), (4, S.one (.own 1034 0 v61.length (some (1, 42)))), (5, S.one (.own 1046 0 i.length (some (2, 172)))), (7, S.one (.ptr 7 0)), (8, zi_ x60.1), (14, ss jf a0.mG), (15, (zi_ ((a0.mG.length : Nat) : Int))), (16, zi_ v54)], [(1, ⟨true, [vi a0.xs.bH.ak, vi a0.xs.bH.ay, vi a0.xs.bH.aA, sl aK a0.xs.ay, sl aS a0.xs.aA, sl jf a0.mG, vu a0.lG, vb a0.lM]⟩), (3, ⟨true, [vi a0.xs.bH.ak, vi a0.xs.bH.ay, vi a0.xs.bH.aA]⟩), (7, ⟨true, [vi (nth a0.mG v54).bK, vu (nth a0.mG v54).jD, vu (nth a0.mG v54).xL.c0, vu (nth a0.mG v54).xL.c1, vu (nth a0.mG v54).xL.c2, vu (nth a0.mG v54).xL.c3, vi (nth a0.mG v54).bJ.kP, vu (nth a0.mG v54).bJ.xW, vi (nth a0.mG v54).bJ.xN, .sl (flat bM (nth a0.mG v54).xW) (nth a0.mG v54).xW.length]⟩), (1034, ⟨true, flat iC v61⟩), (1046, ⟨true, flat bM i⟩)]⟩) (fun i => k64 i = some r) (fun i h => ?_) ?_
 let iv := i; change k64 i = some r at h; generalize i = v63 at h ⊢
 rw [aeE] at h; dsimp only at h
 (try dsimp)
 apply dO
 apply WM
 apply WM
 refine WQ qlA ?_
 obtain ⟨x65, aeF, h⟩ := aG h
 refine W1 (dc1 hP (Tj F (nth a0.mG v54) x65 aeF)) ?_
 obtain ⟨x66, ab2, h⟩ := aG h
 refine W1 (dc1 hP (Dt F x65 x66 ab2)) ?_
 refine WQ qbu ?_
 refine W1 dbs ?_
 obtain ⟨g67, h⟩ := aQ h
 refine W1 (dY (e := bM) rfl rfl (fun _ => rfl) (fun _ => rfl) rfl (Src.lit (e := bM) ([(⟨x60.1, x66⟩ : aB)] : List aB) rfl (fun _ => rfl) rfl rfl) g67 rfl) ?_
 apply WM
 refine Wk [1, 3, 4, 5, 14, 15, 16] [1, 3, 1034, 1046] ?_
 (try dsimp)
 apply dO
 obtain ⟨g68, h⟩ := aQ h
 refine WQ (qad g68) ?_
 apply WM
 apply bW
 refine ⟨n57, ((v54 + (1 : Int)), (v63 ++ ([(⟨x60.1, x66⟩ : aB)] : List aB)), v61), Nat.lt_succ_self _, h, ?_⟩
 exact LB
 apply Eso
 refine WQ qap ?_
 refine WQ ql1 ?_
 refine WQ qi ?_
 refine Wk [1, 3, 4, 5, 7, 8, 14, 15, 16, 37] [1, 3, 7, 1034, 1046] ?_
 (try dsimp)
 refine Ec h rfl (fun h ab8 => ?_) (fun h ab8 => ?_)
 apply dO
 apply WM
 apply WM
 obtain ⟨g70, h⟩ := aQ h
 refine WQ (qad g70) ?_
 refine WQ qbu ?_
 apply WM
 obtain ⟨g71, h⟩ := aQ h
 refine WQ (qad g71) ?_
 refine WQ qbu ?_
 refine W1 dbs ?_
 obtain ⟨g72, h⟩ := aQ h
 refine W1 (dY (e := bM) rfl rfl (fun _ => rfl) (fun _ => rfl) rfl (Src.lit (e := bM) ([(⟨(x60.1 + (5 : Int)), (0 : Int)⟩ : aB), (⟨(x60.1 + (6 : Int)), (0 : Int)⟩ : aB)] : List aB) rfl (fun _ => rfl) rfl rfl) g72 rfl) ?_
 apply WM
 apply bW
 refine ⟨(v55 ++ ([(⟨(x60.1 + (5 : Int)), (0 : Int)⟩ : aB), (⟨(x60.1 + (6 : Int)), (0 : Int)⟩ : aB)] : List aB)), h, ?_⟩
 exact LB
 apply bf
 refine ⟨v55, h, ?_⟩
 exact LB
 apply Eso
 refine WQ qap ?_
 refine WQ ql1 ?_
 refine WQ qi ?_
 refine Wk [1, 3, 4, 5, 7, 8, 14, 15, 16, 29] [1, 3, 7, 1034, 1046] ?_
 (try dsimp)
 refine Ec h rfl (fun h abS => ?_) (fun h abS => ?_)
 apply dO
 apply WM
 refine WQ qap ?_
 refine WQ ql1 ?_
 refine W1 dbs ?_
 obtain ⟨g74, h⟩ := aQ h
 refine W1 (dY (e := iC) rfl rfl (fun _ => rfl) (fun _ => rfl) rfl (Src.lit (e := iC) ([(nth a0.mG v54).xW] : List (List aB)) rfl (fun _ => rfl) rfl rfl) g74 rfl) ?_
 apply WM
 apply bW
 refine ⟨(v56 ++ ([(nth a0.mG v54).xW] : List (List aB))), h, ?_⟩
 exact LB
 apply bf
 refine ⟨v56, h, ?_⟩
 exact LB
 apply gy
 refine ⟨(v55, v56), h, ?_⟩
 exact LB
def ET : cO := (q [o (.mv (ci 0)) 6] (.seq (.block 0 (q [w 8 0, o (.dG 8) 9, o (.add 1 9) 10, o (.load nn 1 10) 11, w 7 11] (.cond 7 (q [o (.mv (ci 12)) 6] .ret) (q [w 13 1, o (.bin .lss 3 13 (ci 0)) 14, w 15 14, g_ (.mv 1) 16 15 nn, g_ (.mv 2) 17 15 nn, g_ (.bin .geq 3 16 17) 18 15 nn, o (.pick 15 (cb yy) 18) 19, w 12 19] (.cond 12 (q [o (.mv (ci 1)) 6] .ret) .skip))))) (q [o (.mv (ci 0)) 6] .ret)))
theorem Oq : Fits Tryz.prog 70 3 ET [(.tmp 6)] := fk Tryz.func70
theorem vY (F : Nat) (a0 : aC) (a1 : Int) (a2 : Int) (r : Int) (h : nG F a0 a1 a2 = some r) : AC Tryz.prog 70 [S.one (.ptr 100900 0), (zi_ a1), (zi_ a2)] [(100900, ⟨false, [.own 100901 0 a0.xl.length (some (18, 115)), vb a0.dD, vi a0.bC, vi a0.bP, sl aT a0.bQ]⟩), (100901, ⟨true, flat aN a0.xl⟩)] (fun x s' => x = (zi_ r) ∧ l9 s' [(100900, ⟨false, [.own 100901 0 a0.xl.length (some (18, 115)), vb a0.dD, vi a0.bC, vi a0.bP, sl aT a0.bQ]⟩), (100901, ⟨true, flat aN a0.xl⟩)]) := by
 unfold nG at h
 refine lN Oq rfl ?_
 intro C hP
 unfold ET; dsimp
 apply Eso
 apply WM
 refine Wk [0, 1, 2] [100900, 100901] ?_
 apply bG
 apply bT
 apply Eso
 apply WM
 refine WQ qnc ?_
 refine WQ qap ?_
 refine WQ ql1 ?_
 apply WM
 refine Wk [1, 2, 7] [100900, 100901] ?_
 refine Ec h rfl (fun h hc1 => ?_) (fun h hc1 => ?_)
 apply Eso
 apply WM
 refine Wk [6] [100900, 100901] ?_
 apply bD
 cases h
 (try simp only [qt, qb, qn, qg])
 refine dN (xs := _) ⟨_, rfl, rfl⟩ ?_
 show _ ∧ _
 exact ⟨rfl, ⟨(by first | rfl | simp [aj, au, ah]), ⟨(by first | rfl | simp [aj, au, ah]), trivial⟩⟩⟩
 apply Eso
 apply WM
 refine WQ qi ?_
 apply WM
 apply aF
 rfl
 intro b
 try rw [b]
 exact qm
 apply aF
 rfl
 intro b
 try rw [b]
 exact qm
 apply aF
 rfl
 intro b
 try rw [b]
 exact qi
 refine WQ qor ?_
 apply WM
 refine Wk [12] [100900, 100901] ?_
 refine Ec h rfl (fun h hc2 => ?_) (fun h hc2 => ?_)
 apply Eso
 apply WM
 refine Wk [6] [100900, 100901] ?_
 apply bD
 cases h
 (try simp only [qt, qb, qn, qg])
 refine dN (xs := _) ⟨_, rfl, rfl⟩ ?_
 show _ ∧ _
 exact ⟨rfl, ⟨(by first | rfl | simp [aj, au, ah]), ⟨(by first | rfl | simp [aj, au, ah]), trivial⟩⟩⟩
 apply bf
 refine aX [] [100900, 100901] ?_
 apply Eso
 apply WM
 apply bW
 apply bD
 cases h
 (try simp only [qt, qb, qn, qg])
 refine dN (xs := _) ⟨_, rfl, rfl⟩ ?_
 show _ ∧ _
 exact ⟨rfl, ⟨(by first | rfl | simp [aj, au, ah]), ⟨(by first | rfl | simp [aj, au, ah]), trivial⟩⟩⟩
def yw : cO := (q [o (.mv (ci 0)) 4] (.seq (q [w 6 0, o (.len nn 6) 7, o (.mv (ci 0)) 8] (.block 0 (.loop (q [o (.bin .lss 3 8 7) 9] (.seq (.cond 9 .skip (.exit 0)) (.seq (.block 1 (q [w 10 8, w 5 10] (q [w 11 1, w 12 0, w 13 5, o (.fH 1 12 13) 14, o (.load nn 1 14) 15, o (.bin .eql 3 11 15) 16] (.cond 16 (q [w 17 5, w 4 17] .ret) .skip)))) (.ops [o (.bin .add 3 8 (ci 1)) 18, w 8 18]))))))) (q [o (.mv (.const (.int .i64 (-1)))) 4] .ret)))
theorem FI : Fits Tryz.prog 102 2 yw [(.tmp 4)] := fk Tryz.func102
theorem FK (F : Nat) (a0 : (List Int)) (a1 : Int) (r : Int) (h : uf F a0 a1 = some r) : PC Tryz.prog 102 [ss aT a0, (zi_ a1)] (zi_ r) := by
 unfold uf at h
 refine eu FI rfl rfl ?_
 intro C hP
 unfold yw; dsimp
 apply Eso
 apply WM
 refine Wk [0, 1] [] ?_
 obtain ⟨k1, k1d, h⟩ := eX h
 refine dJ (fun (i : Unit) => ⟨[], []⟩) (fun i => k1 () = some r) (fun i h => ?_) ?_
 rw [k1d] at h; dsimp only at h
 apply Eso
 apply WM
 apply bW
 apply bD
 cases h
 exact fe
 apply Eso
 apply WM
 refine WQ qls ?_
 apply WM
 refine Wk [0, 1, 7, 8] [] ?_
 apply bT
 refine eG (fun (i : Int) => ⟨[(0, ss aT a0), (1, zi_ a1), (7, (zi_ ((a0.length : Nat) : Int))), (8, zi_ i)], []⟩) (fun n i => og F a0 a1 k1 n i = some r) F (0 : Int) h ?_ (fun n i h => ?_)
 exact LB
 generalize i = v11 at h ⊢
 obtain _ | n12 := n
 cases h
 unfold og at h
 apply Eso
 refine WQ qi ?_
 apply bW
 apply bG
 refine Ec h rfl (fun h hc13 => ?_) (fun h hc13 => ?_)
 apply bf
 refine aX [0, 1, 7, 8] [] ?_
 apply bG
 apply bT
 apply Eso
 apply WM
 apply WM
 refine Wk [0, 1, 5, 7, 8] [] ?_
 apply Eso
 apply WM
 apply WM
 apply WM
 obtain ⟨g14, h⟩ := aQ h
 refine WQ (qis g14) ?_
 refine WQ (q1F 1 g14 0) ?_
 refine WQ qi ?_
 refine Wk [0, 1, 5, 7, 8, 16] [] ?_
 refine Ec h rfl (fun h UO => ?_) (fun h UO => ?_)
 apply Eso
 apply WM
 apply WM
 refine Wk [4] [] ?_
 apply bD
 cases h
 exact fe
 apply bf
 refine aX [0, 1, 7, 8] [] ?_
 apply dO
 obtain ⟨g16, h⟩ := aQ h
 refine WQ (qad g16) ?_
 apply WM
 apply bW
 refine ⟨n12, (v11 + (1 : Int)), Nat.lt_succ_self _, h, ?_⟩
 exact LB
 apply gy
 refine ⟨(), h, ?_⟩
 exact LB
def vG : cO := (q [o (.mv (cb nn)) 4] (q [w 5 0, w 6 1, o (.call 102 [5, 6]) 7, o (.bin .geq 3 7 (ci 0)) 8, w 4 8] .ret))
theorem Ce : Fits Tryz.prog 63 2 vG [(.tmp 4)] := fk Tryz.func63
theorem Ci (F : Nat) (a0 : (List Int)) (a1 : Int) (r : Bool) (h : nZ F a0 a1 = some r) : PC Tryz.prog 63 [ss aT a0, (zi_ a1)] (zb_ r) := by
 unfold nZ at h
 refine eu Ce rfl rfl ?_
 intro C hP
 unfold vG; dsimp
 apply Eso
 apply WM
 refine Wk [0, 1] [] ?_
 apply Eso
 apply WM
 apply WM
 obtain ⟨x1, x1h, h⟩ := aG h
 refine W1 (dc1 hP (FK F a0 a1 x1 x1h)) ?_
 refine WQ qi ?_
 apply WM
 refine Wk [4] [] ?_
 apply bD
 cases h
 exact fe
def Bj : cO := (q [o (.mv (cb nn)) 2] (.seq (q [w 3 0, o (.dG 3) 4, o (.add 16 4) 5, o (.load nn 1 5) 6, o (.un .not 6) 7] (.cond 7 (q [o (.mv (cb nn)) 2] .ret) .skip)) (q [w 8 0, w 9 0, o (.dG 9) 10, o (.add 8 10) 11, o (.load yy 8 11) 12, o (.dG 8) 13, o (.add 0 13) 14, n_ (.store 8 14 12)] (q [w 15 0, w 16 0, o (.dG 15) 17, o (.add 16 17) 18, n_ (.store 1 18 (cb nn)), o (.dG 16) 19, o (.add 17 19) 20, n_ (.store 1 20 (cb nn))] (q [o (.mv (cb yy)) 2] .ret)))))
theorem JR : Fits Tryz.prog 101 1 Bj [(.tmp 2)] := fk Tryz.func101
theorem Bl (F : Nat) (a0 : aC) (a0i : Int) (a0o : Nat) (a0h : a0o = a0i.toNat * 18) (r : aC × Bool) (h : mV F a0 a0i = some r) : AC Tryz.prog 101 [S.one (.ptr 100901 a0o)] [(100900, ⟨false, [.own 100901 0 a0.xl.length (some (18, 115)), vb a0.dD, vi a0.bC, vi a0.bP, sl aT a0.bQ]⟩), (100901, ⟨true, flat aN a0.xl⟩)] (fun x s' => x = (zb_ r.2) ∧ l9 s' [(100900, ⟨false, [.own 100901 0 r.1.xl.length (some (18, 115)), vb r.1.dD, vi r.1.bC, vi r.1.bP, sl aT r.1.bQ]⟩), (100901, ⟨true, flat aN r.1.xl⟩)]) := by
 unfold mV at h
 refine lN JR rfl ?_
 intro C hP
 unfold Bj; dsimp
 obtain ⟨ga0, h⟩ := aQ h
 apply Eso
 apply WM
 refine Wk [0] [100900, 100901] ?_
 apply bG
 apply Eso
 apply WM
 refine WQ qnc ?_
 refine WQ qap ?_
 refine WQ (gB (k := 18) rfl rfl (fun _ => rfl) ga0 16 (by omega) rfl) ?_
 refine WQ qno ?_
 refine Wk [0, 7] [100900, 100901] ?_
 refine Ec h rfl (fun h hc1 => ?_) (fun h hc1 => ?_)
 apply Eso
 apply WM
 refine Wk [2] [100900, 100901] ?_
 apply bD
 cases h
 (try simp only [qt, qb, qn, qg])
 refine dN (xs := _) ⟨_, rfl, rfl⟩ ?_
 show _ ∧ _
 exact ⟨rfl, ⟨(by first | rfl | simp [aj, au, ah]), ⟨(by first | rfl | simp [aj, au, ah]), trivial⟩⟩⟩
 apply bf
 refine aX [0] [100900, 100901] ?_
 apply Eso
 apply WM
 apply WM
 refine WQ qnc ?_
 refine WQ qap ?_
 refine WQ (uP (k := 18) rfl rfl (fun _ => rfl) ga0 8 (by omega) rfl rfl (by decide)) ?_
 refine WQ qnc ?_
 refine WQ qap ?_
 refine W1 (dI (e := aN) (n := 8) (k := 18) rfl rfl (fun _ => rfl) ga0 0 (by omega) rfl rfl rfl (by decide) (⟨(nth a0.xl a0i).xNew, (nth a0.xl a0i).xNew, (nth a0.xl a0i).rZ, (nth a0.xl a0i).pO⟩ : bV) rfl (by decide) rfl) ?_
 refine Wk [0] [100900, 100901] ?_
 apply Eso
 apply WM
 apply WM
 refine WQ qnc ?_
 refine WQ qap ?_
 refine W1 (mD (e := aN) (n := 1) (k := 18) rfl rfl (fun _ => rfl) (by first | exact ga0 | exact kH.1 ga0 | simpa only [kH] using ga0) 16 (by omega) rfl rfl rfl (by decide) (⟨(nth a0.xl a0i).xNew, (nth a0.xl a0i).xNew, false, (nth a0.xl a0i).pO⟩ : bV) rfl (by decide) rfl) ?_
 refine WQ qnc ?_
 refine WQ qap ?_
 refine W1 (mD (e := aN) (n := 1) (k := 18) rfl rfl (fun _ => rfl) (by first | exact ga0 | exact kH.1 ga0 | simpa only [kH] using ga0) 17 (by omega) rfl rfl rfl (by decide) (⟨(nth a0.xl a0i).xNew, (nth a0.xl a0i).xNew, false, false⟩ : bV) rfl (by decide) rfl) ?_
 refine Wk [] [100900, 100901] ?_
 apply Eso
 apply WM
 apply bW
 refine dR (fK (r := 100900) rfl (by simp [aj, au, ah] : ⟨false, [.own 100901 0 a0.xl.length (some (18, 115)), vb a0.dD, vi a0.bC, vi a0.bP, sl aT a0.bQ]⟩ = ⟨false, [.own 100901 0 (dZ a0.xl a0i (⟨(nth a0.xl a0i).xNew, (nth a0.xl a0i).xNew, false, false⟩ : bV)).length (some (18, 115)), vb a0.dD, vi a0.bC, vi a0.bP, sl aT a0.bQ]⟩)).b ?_
 apply bD
 cases h
 (try simp only [qt, qb, qn, qg])
 refine dN (xs := _) ⟨_, rfl, rfl⟩ ?_
 show _ ∧ _
 exact ⟨rfl, ⟨(by first | rfl | simp [aj, au, ah]), ⟨(by first | rfl | simp [aj, au, ah]), trivial⟩⟩⟩
def Du : cO := (q [o (.mv (cb nn)) 4] (.seq (q [w 5 1, w 6 5, g_ (.mv 0) 7 6 nn, g_ (.dG 7) 8 6 nn, g_ (.add 16 8) 9 6 nn, g_ (.load nn 1 9) 10 6 nn, g_ (.un .not 10) 11 6 nn, o (.pick 6 (cb yy) 11) 12] (.cond 12 (q [w 13 0, o (.call 101 [13]) 14, w 4 14] .ret) .skip)) (q [w 15 0, w 16 0, o (.dG 16) 17, o (.add 0 17) 18, o (.load yy 8 18) 19, o (.dG 15) 20, o (.add 8 20) 21, n_ (.store 8 21 19)] (q [w 22 0, w 23 0, o (.dG 22) 24, o (.add 16 24) 25, n_ (.store 1 25 (cb nn)), o (.dG 23) 26, o (.add 17 26) 27, n_ (.store 1 27 (cb nn))] (q [o (.mv (cb yy)) 4] .ret)))))
theorem MQ : Fits Tryz.prog 62 2 Du [(.tmp 4)] := fk Tryz.func62
theorem MR (F : Nat) (a0 : aC) (a0i : Int) (a0o : Nat) (a0h : a0o = a0i.toNat * 18) (a1 : Bool) (r : aC × Bool) (h : rH F a0 a0i a1 = some r) : AC Tryz.prog 62 [S.one (.ptr 100901 a0o), (zb_ a1)] [(100900, ⟨false, [.own 100901 0 a0.xl.length (some (18, 115)), vb a0.dD, vi a0.bC, vi a0.bP, sl aT a0.bQ]⟩), (100901, ⟨true, flat aN a0.xl⟩)] (fun x s' => x = (zb_ r.2) ∧ l9 s' [(100900, ⟨false, [.own 100901 0 r.1.xl.length (some (18, 115)), vb r.1.dD, vi r.1.bC, vi r.1.bP, sl aT r.1.bQ]⟩), (100901, ⟨true, flat aN r.1.xl⟩)]) := by
 unfold rH at h
 refine lN MQ rfl ?_
 intro C hP
 unfold Du; dsimp
 obtain ⟨ga0, h⟩ := aQ h
 apply Eso
 apply WM
 refine Wk [0, 1] [100900, 100901] ?_
 (try dsimp)
 apply bG
 apply Eso
 apply WM
 apply WM
 apply aF
 rfl
 intro b
 try rw [b]
 exact qm
 apply aF
 rfl
 intro b
 try rw [b]
 exact qnc
 apply aF
 rfl
 intro b
 try rw [b]
 exact qap
 apply aF
 rfl
 intro b
 try rw [b]
 exact gB (k := 18) rfl rfl (fun _ => rfl) ga0 16 (by omega) rfl
 apply aF
 rfl
 intro b
 try rw [b]
 exact qno
 refine WQ qor ?_
 refine Wk [0, 12] [100900, 100901] ?_
 (try dsimp)
 refine Ec h rfl (fun h hc1 => ?_) (fun h hc1 => ?_)
 apply Eso
 apply WM
 obtain ⟨x2, x2h, h⟩ := aG h
 refine W1 (aO [] false hP (Bl F a0 a0i _ (by omega) x2 x2h) rfl ⟨rfl, rfl, trivial⟩ rfl rfl rfl rfl rfl (fun h => by first | rfl | cases h) rfl) ?_
 (try dsimp)
 apply WM
 refine Wk [4] [100900, 100901] ?_
 (try dsimp)
 apply bD
 cases h
 (try simp only [qt, qb, qn, qg])
 refine dN (xs := _) ⟨_, rfl, rfl⟩ ?_
 show _ ∧ _
 exact ⟨rfl, ⟨(by first | rfl | simp [aj, au, ah]), ⟨(by first | rfl | simp [aj, au, ah]), trivial⟩⟩⟩
 apply bf
 refine aX [0] [100900, 100901] ?_
 (try dsimp)
 apply Eso
 apply WM
 apply WM
 refine WQ qnc ?_
 refine WQ qap ?_
 refine WQ (uP (k := 18) rfl rfl (fun _ => rfl) ga0 0 (by omega) rfl rfl (by decide)) ?_
 refine WQ qnc ?_
 refine WQ qap ?_
 refine W1 (dI (e := aN) (n := 8) (k := 18) rfl rfl (fun _ => rfl) ga0 8 (by omega) rfl rfl rfl (by decide) (⟨(nth a0.xl a0i).jl, (nth a0.xl a0i).jl, (nth a0.xl a0i).rZ, (nth a0.xl a0i).pO⟩ : bV) rfl (by decide) rfl) ?_
 refine Wk [0] [100900, 100901] ?_
 (try dsimp)
 apply Eso
 apply WM
 apply WM
 refine WQ qnc ?_
 refine WQ qap ?_
 refine W1 (mD (e := aN) (n := 1) (k := 18) rfl rfl (fun _ => rfl) (by first | exact ga0 | exact kH.1 ga0 | simpa only [kH] using ga0) 16 (by omega) rfl rfl rfl (by decide) (⟨(nth a0.xl a0i).jl, (nth a0.xl a0i).jl, false, (nth a0.xl a0i).pO⟩ : bV) rfl (by decide) rfl) ?_
 refine WQ qnc ?_
 refine WQ qap ?_
 refine W1 (mD (e := aN) (n := 1) (k := 18) rfl rfl (fun _ => rfl) (by first | exact ga0 | exact kH.1 ga0 | simpa only [kH] using ga0) 17 (by omega) rfl rfl rfl (by decide) (⟨(nth a0.xl a0i).jl, (nth a0.xl a0i).jl, false, false⟩ : bV) rfl (by decide) rfl) ?_
 refine Wk [] [100900, 100901] ?_
 (try dsimp)
 apply Eso
 apply WM
 apply bW
 (try dsimp)
 refine dR (fK (r := 100900) rfl (by simp [aj, au, ah] : ⟨false, [.own 100901 0 a0.xl.length (some (18, 115)), vb a0.dD, vi a0.bC, vi a0.bP, sl aT a0.bQ]⟩ = ⟨false, [.own 100901 0 (dZ a0.xl a0i (⟨(nth a0.xl a0i).jl, (nth a0.xl a0i).jl, false, false⟩ : bV)).length (some (18, 115)), vb a0.dD, vi a0.bC, vi a0.bP, sl aT a0.bQ]⟩)).b ?_
 (try dsimp)
 apply bD
 cases h
 (try simp only [qt, qb, qn, qg])
 refine dN (xs := _) ⟨_, rfl, rfl⟩ ?_
 show _ ∧ _
 exact ⟨rfl, ⟨(by first | rfl | simp [aj, au, ah]), ⟨(by first | rfl | simp [aj, au, ah]), trivial⟩⟩⟩
def Bo : cO := (.seq (q [w 5 0, o (.dG 5) 6, o (.add 1 6) 7, o (.load nn 1 7) 8] (.cond 8 .ret .skip)) (.seq (q [w 9 0, o (.dG 9) 10, o (.add 0 10) 11, o (.load nn 1 11) 12, o (.len nn 12) 13, o (.mv (ci 0)) 14] (.block 0 (.loop (q [o (.bin .lss 3 14 13) 15] (.seq (.cond 15 .skip (.exit 0)) (.seq (.block 1 (q [w 16 14, w 4 16] (.draw [((w 17 0), []), ((o (.dG 17) 18), [0]), ((o (.add 0 18) 19), [1]), ((o (.load nn 1 19) 20), [2]), ((w 21 4), []), ((o (.fH 18 20 21) 22), [3, 4]), ((w 23 1), []), ((w 24 4), []), ((o (.call 63 [23, 24]) 25), [6, 7]), ((o (.call 62 [22, 25]) 26), [5, 8, 8])]))) (.ops [o (.bin .add 3 14 (ci 1)) 27, w 14 27]))))))) (q [w 28 0, o (.dG 28) 29, o (.add 1 29) 30, n_ (.store 1 30 (cb yy))] (.ops [w 31 0, o (.dG 31) 32, o (.add 3 32) 33, n_ (.store 1 33 (ci 0))]))))
theorem JU : Fits Tryz.prog 28 2 Bo [] := fk Tryz.func28
theorem Bq (F : Nat) (a0 : aC) (a1 : (List Int)) (r : aC) (h : oC F a0 a1 = some r) : AC Tryz.prog 28 [S.one (.ptr 100900 0), ss aT a1] [(100900, ⟨false, [.own 100901 0 a0.xl.length (some (18, 115)), vb a0.dD, vi a0.bC, vi a0.bP, sl aT a0.bQ]⟩), (100901, ⟨true, flat aN a0.xl⟩)] (fun x s' => x = S.tup [] ∧ l9 s' [(100900, ⟨false, [.own 100901 0 r.xl.length (some (18, 115)), vb r.dD, vi r.bC, vi r.bP, sl aT r.bQ]⟩), (100901, ⟨true, flat aN r.xl⟩)]) := by
 unfold oC at h
 refine lN JU rfl ?_
 intro C hP
 unfold Bo; dsimp
 apply bG
 apply Eso
 apply WM
 refine WQ qnc ?_
 refine WQ qap ?_
 refine WQ ql1 ?_
 refine Wk [0, 1, 8] [100900, 100901] ?_
 (try dsimp)
 refine Ec h rfl (fun h hc1 => ?_) (fun h hc1 => ?_)
 apply bD
 cases h
 (try simp only [qt, qb, qn, qg])
 refine dN (xs := _) rfl ?_
 show _ ∧ _
 exact ⟨rfl, ⟨(by first | rfl | simp [aj, au, ah]), ⟨(by first | rfl | simp [aj, au, ah]), trivial⟩⟩⟩
 apply bf
 refine aX [0, 1] [100900, 100901] ?_
 (try dsimp)
 obtain ⟨k7, k7d, h⟩ := eX h
 refine dJ (fun (i : (List bV) × Bool × Int × Int × (List Int)) => ⟨[(0, S.one (.ptr 100900 0))], [(100900, ⟨false, [.own 100901 0 i.1.length (some (18, 115)), vb i.2.1, vi i.2.2.1, vi i.2.2.2.1, sl aT i.2.2.2.2]⟩), (100901, ⟨true, flat aN i.1⟩)]⟩) (fun i => k7 i.1 i.2.1 i.2.2.1 i.2.2.2.1 i.2.2.2.2 = some r) (fun i h => ?_) ?_
 obtain ⟨v2, v3, v4, v5, v6⟩ := i
 rw [k7d] at h; dsimp only at h
 (try dsimp)
 apply Eso
 apply WM
 refine WQ qnc ?_
 refine WQ qap ?_
 refine W1 dst ?_
 refine Wk [0] [100900, 100901] ?_
 (try dsimp)
 apply dO
 apply WM
 refine WQ qnc ?_
 refine WQ qap ?_
 refine W1 dst ?_
 apply bW
 cases h
 (try simp only [qt, qb, qn, qg])
 refine QG (xs := _) rfl ?_
 show _ ∧ _
 exact ⟨rfl, ⟨(by first | rfl | simp [aj, au, ah]), ⟨(by first | rfl | simp [aj, au, ah]), trivial⟩⟩⟩
 apply Eso
 apply WM
 refine WQ qnc ?_
 refine WQ qap ?_
 refine WQ ql1 ?_
 refine WQ (jg rfl rfl) ?_
 apply WM
 refine Wk [0, 1, 13, 14] [100900, 100901] ?_
 (try dsimp)
 apply bT
 (try dsimp)
 refine eG (fun (i : Int × (List bV) × Bool × Int × Int × (List Int)) => ⟨[(0, S.one (.ptr 100900 0)), (1, ss aT a1), (13, (zi_ ((a0.xl.length : Nat) : Int))), (14, zi_ i.1)], [(100900, ⟨false, [.own 100901 0 i.2.1.length (some (18, 115)), vb i.2.2.1, vi i.2.2.2.1, vi i.2.2.2.2.1, sl aT i.2.2.2.2.2]⟩), (100901, ⟨true, flat aN i.2.1⟩)]⟩) (fun n i => jr F a0 a1 k7 n i.1 i.2.1 i.2.2.1 i.2.2.2.1 i.2.2.2.2.1 i.2.2.2.2.2 = some r) F ((0 : Int), a0.xl, a0.dD, a0.bC, a0.bP, a0.bQ) h ?_ (fun n i h => ?_)
 exact LB
 obtain ⟨v24, v25, v26, v27, v28, v29⟩ := i; dsimp only at h
 obtain _ | n30 := n
 cases h
 unfold jr at h
 (try dsimp)
 apply Eso
 refine WQ qi ?_
 apply bW
 (try dsimp)
 apply bG
 refine Ec h rfl (fun h hc31 => ?_) (fun h hc31 => ?_)
 apply bf
 refine aX [0, 1, 13, 14] [100900, 100901] ?_
 (try dsimp)
 apply bG
 apply bT
 apply Eso
 apply WM
 apply WM
 refine Wk [0, 1, 4, 13, 14] [100900, 100901] ?_
 (try dsimp)
 obtain ⟨g32, h⟩ := aQ h
 obtain ⟨x33, Za, h⟩ := aG h
 obtain ⟨x34, Qh, h⟩ := aG h
 refine ig [0, 1, 2, 3, 4, 5, 6, 7] ?_
 refine XQ 0 rfl rfl rfl qm ?_
 refine XQ 1 rfl rfl rfl qnc ?_
 refine XQ 2 rfl rfl rfl qap ?_
 refine XQ 3 rfl rfl rfl ql1 ?_
 refine XQ 4 rfl rfl rfl qm ?_
 refine XQ 5 rfl rfl rfl (qio g32) ?_
 refine XQ 6 rfl rfl rfl qm ?_
 refine XQ 7 rfl rfl rfl qm ?_
 (try dsimp)
 refine X1 rfl (XK rfl (dc1 hP (Ci F a1 v24 x33 Za)) ?_)
 refine X1 rfl (XT rfl rfl (aO [] false hP (MR F (⟨v25, v26, v27, v28, v29⟩ : aC) v24 _ (by omega) x33 x34 Qh) rfl ⟨rfl, rfl, trivial⟩ rfl rfl rfl rfl rfl (fun h => by first | rfl | cases h) rfl) ?_)
 refine dL rfl ?_
 refine aX [0, 1, 13, 14] [100900, 100901] ?_
 (try dsimp)
 apply dO
 obtain ⟨g35, h⟩ := aQ h
 refine WQ (qad g35) ?_
 apply WM
 apply bW
 refine ⟨n30, ((v24 + (1 : Int)), x34.1.xl, x34.1.dD, x34.1.bC, x34.1.bP, x34.1.bQ), Nat.lt_succ_self _, h, ?_⟩
 exact LB
 apply gy
 refine ⟨(v25, v26, v27, v28, v29), h, ?_⟩
 exact LB
def Dv : cO := (q [o (.mv (cb nn)) 2] (.seq (q [w 3 0, o (.dG 3) 4, o (.add 3 4) 5, o (.load nn 1 5) 6, o (.bin .gtr 3 6 (ci 0)) 7] (.cond 7 (q [w 8 0, o (.dG 8) 9, o (.add 3 9) 10, o (.load nn 1 10) 11, o (.bin .sub 3 11 (ci 1)) 12, o (.dG 8) 13, o (.add 3 13) 14, n_ (.store 1 14 12)] (q [w 15 0, o (.dG 15) 16, o (.add 3 16) 17, o (.load nn 1 17) 18, o (.bin .eql 3 18 (ci 0)) 19] (.cond 19 (q [w 20 0, w 21 0, o (.dG 21) 22, o (.add 4 22) 23, o (.load nn 1 23) 24, o (.call 28 [20, 24]) 25] (q [o (.mv (cb nn)) 2] .ret)) .skip))) .skip)) (q [w 26 0, o (.dG 26) 27, o (.add 2 27) 28, o (.load nn 1 28) 29, o (.bin .add 2 29 (ci 1)) 30, o (.dG 26) 31, o (.add 2 31) 32, n_ (.store 1 32 30)] (q [o (.mv (cb yy)) 2] .ret))))
theorem MS : Fits Tryz.prog 71 1 Dv [(.tmp 2)] := fk Tryz.func71
theorem yx (F : Nat) (a0 : aC) (r : aC × Bool) (h : nM F a0 = some r) : AC Tryz.prog 71 [S.one (.ptr 100900 0)] [(100900, ⟨false, [.own 100901 0 a0.xl.length (some (18, 115)), vb a0.dD, vi a0.bC, vi a0.bP, sl aT a0.bQ]⟩), (100901, ⟨true, flat aN a0.xl⟩)] (fun x s' => x = (zb_ r.2) ∧ l9 s' [(100900, ⟨false, [.own 100901 0 r.1.xl.length (some (18, 115)), vb r.1.dD, vi r.1.bC, vi r.1.bP, sl aT r.1.bQ]⟩), (100901, ⟨true, flat aN r.1.xl⟩)]) := by
 unfold nM at h
 refine lN MS rfl ?_
 intro C hP
 unfold Dv; dsimp
 apply Eso
 apply WM
 refine Wk [0] [100900, 100901] ?_
 (try dsimp)
 obtain ⟨k2, k2d, h⟩ := eX h
 refine dJ (fun (i : Int) => ⟨[(0, S.one (.ptr 100900 0))], [(100900, ⟨false, [.own 100901 0 a0.xl.length (some (18, 115)), vb a0.dD, vi a0.bC, vi i, sl aT a0.bQ]⟩), (100901, ⟨true, flat aN a0.xl⟩)]⟩) (fun i => k2 i = some r) (fun i h => ?_) ?_
 let iv := i; change k2 i = some r at h; generalize i = v1 at h ⊢
 rw [k2d] at h; dsimp only at h
 (try dsimp)
 apply Eso
 apply WM
 refine WQ qnc ?_
 refine WQ qap ?_
 refine WQ ql1 ?_
 obtain ⟨g3, h⟩ := aQ h
 refine WQ (qad g3) ?_
 refine WQ qnc ?_
 refine WQ qap ?_
 refine W1 dst ?_
 refine Wk [] [100900, 100901] ?_
 (try dsimp)
 apply Eso
 apply WM
 apply bW
 (try dsimp)
 apply bD
 cases h
 (try simp only [qt, qb, qn, qg])
 refine dN (xs := _) ⟨_, rfl, rfl⟩ ?_
 show _ ∧ _
 exact ⟨rfl, ⟨(by first | rfl | simp [aj, au, ah]), ⟨(by first | rfl | simp [aj, au, ah]), trivial⟩⟩⟩
 apply Eso
 apply WM
 refine WQ qnc ?_
 refine WQ qap ?_
 refine WQ ql1 ?_
 refine WQ qi ?_
 refine Wk [0, 7] [100900, 100901] ?_
 (try dsimp)
 refine Ec h rfl (fun h hc4 => ?_) (fun h hc4 => ?_)
 apply Eso
 apply WM
 refine WQ qnc ?_
 refine WQ qap ?_
 refine WQ ql1 ?_
 obtain ⟨g5, h⟩ := aQ h
 refine WQ (qsu g5) ?_
 refine WQ qnc ?_
 refine WQ qap ?_
 refine W1 dst ?_
 refine Wk [0] [100900, 100901] ?_
 (try dsimp)
 apply Eso
 apply WM
 refine WQ qnc ?_
 refine WQ qap ?_
 refine WQ ql1 ?_
 refine WQ qi ?_
 refine Wk [0, 19] [100900, 100901] ?_
 (try dsimp)
 refine Ec h rfl (fun h hc6 => ?_) (fun h hc6 => ?_)
 apply Eso
 apply WM
 apply WM
 refine WQ qnc ?_
 refine WQ qap ?_
 refine WQ ql1 ?_
 obtain ⟨x7, x7h, h⟩ := aG h
 refine W1 (aO [] false hP (Bq F (⟨a0.xl, a0.dD, a0.bC, (a0.bP - (1 : Int)), a0.bQ⟩ : aC) a0.bQ x7 x7h) rfl ⟨rfl, rfl, trivial⟩ rfl rfl rfl rfl rfl (fun h => by first | rfl | cases h) rfl) ?_
 (try dsimp)
 refine Wk [] [100900, 100901] ?_
 (try dsimp)
 apply Eso
 apply WM
 apply bW
 (try dsimp)
 apply bD
 cases h
 (try simp only [qt, qb, qn, qg])
 refine dN (xs := _) ⟨_, rfl, rfl⟩ ?_
 show _ ∧ _
 exact ⟨rfl, ⟨(by first | rfl | simp [aj, au, ah]), ⟨(by first | rfl | simp [aj, au, ah]), trivial⟩⟩⟩
 apply bf
 refine ⟨(a0.bP - (1 : Int)), h, ?_⟩
 exact LB
 apply bf
 refine ⟨a0.bP, h, ?_⟩
 exact LB
def Tq : cO := (q [o (.mv (cb nn)) 2] (q [w 3 0, o (.bin .geq 3 3 (ci 0)) 4, w 5 4, g_ (.mv 0) 6 5 yy, g_ (.bin .lss 3 6 (ci 8)) 7 5 yy, o (.pick 5 7 (cb nn)) 8, w 2 8] .ret))
theorem Zm : Fits Tryz.prog 109 1 Tq [(.tmp 2)] := fk Tryz.func109
theorem Tt (F : Nat) (a0 : Int) (r : Bool) (h : xO F a0 = some r) : PC Tryz.prog 109 [(zi_ a0)] (zb_ r) := by
 unfold xO at h
 refine eu Zm rfl rfl ?_
 intro C hP
 unfold Tq; dsimp
 apply Eso
 apply WM
 refine Wk [0] [] ?_
 apply Eso
 apply WM
 refine WQ qi ?_
 apply WM
 apply aF
 rfl
 intro b
 try rw [b]
 exact qm
 apply aF
 rfl
 intro b
 try rw [b]
 exact qi
 refine WQ qan ?_
 apply WM
 refine Wk [2] [] ?_
 apply bD
 cases h
 exact fe
def Bv : cO := (q [o (.mv (cb nn)) 6] (.seq (q [w 7 1, o (.call 109 [7]) 8, o (.un .not 8) 9] (.cond 9 (q [o (.mv (cb nn)) 6] .ret) .skip)) (q [w 10 0, w 11 1, w 12 2, o (.dG 10) 13, o (.add 8 13) 14, o (.Vb 1 8 14 11) 15, n_ (.store 1 15 12)] (q [w 16 0, w 17 0, o (.dG 16) 18, o (.add 16 18) 19, n_ (.store 1 19 (cb yy)), o (.dG 17) 20, o (.add 17 20) 21, n_ (.store 1 21 (cb nn))] (q [o (.mv (cb yy)) 6] .ret)))))
theorem JV : Fits Tryz.prog 72 3 Bv [(.tmp 6)] := fk Tryz.func72
theorem JW (F : Nat) (a0 : aC) (a0i : Int) (a0o : Nat) (a0h : a0o = a0i.toNat * 18) (a1 : Int) (a2 : Int) (r : aC × Bool) (h : qK F a0 a0i a1 a2 = some r) : AC Tryz.prog 72 [S.one (.ptr 100901 a0o), (zi_ a1), (zu_ a2)] [(100900, ⟨false, [.own 100901 0 a0.xl.length (some (18, 115)), vb a0.dD, vi a0.bC, vi a0.bP, sl aT a0.bQ]⟩), (100901, ⟨true, flat aN a0.xl⟩)] (fun x s' => x = (zb_ r.2) ∧ l9 s' [(100900, ⟨false, [.own 100901 0 r.1.xl.length (some (18, 115)), vb r.1.dD, vi r.1.bC, vi r.1.bP, sl aT r.1.bQ]⟩), (100901, ⟨true, flat aN r.1.xl⟩)]) := by
 unfold qK at h
 refine lN JV rfl ?_
 intro C hP
 unfold Bv; dsimp
 obtain ⟨ga0, h⟩ := aQ h
 apply Eso
 apply WM
 refine Wk [0, 1, 2] [100900, 100901] ?_
 apply bG
 apply Eso
 apply WM
 obtain ⟨x1, x1h, h⟩ := aG h
 refine W1 (dc1 hP (Tt F a1 x1 x1h)) ?_
 refine WQ qno ?_
 refine Wk [0, 1, 2, 9] [100900, 100901] ?_
 refine Ec h rfl (fun h hc2 => ?_) (fun h hc2 => ?_)
 apply Eso
 apply WM
 refine Wk [6] [100900, 100901] ?_
 apply bD
 cases h
 (try simp only [qt, qb, qn, qg])
 refine dN (xs := _) ⟨_, rfl, rfl⟩ ?_
 show _ ∧ _
 exact ⟨rfl, ⟨(by first | rfl | simp [aj, au, ah]), ⟨(by first | rfl | simp [aj, au, ah]), trivial⟩⟩⟩
 apply bf
 refine aX [0, 1, 2] [100900, 100901] ?_
 apply Eso
 apply WM
 apply WM
 apply WM
 refine WQ qnc ?_
 refine WQ qap ?_
 obtain ⟨g3, h⟩ := aQ h
 refine WQ (vX rfl rfl rfl g3.1 g3.2) ?_
 refine W1 (dI (e := aN) (n := 1) (k := 18) rfl rfl (fun _ => rfl) ga0 (8 + a1.toNat) (by omega) rfl rfl rfl (by decide) (⟨(nth a0.xl a0i).jl, (((nth a0.xl a0i).xNew).put a1.toNat a2), (nth a0.xl a0i).rZ, (nth a0.xl a0i).pO⟩ : bV) (ab3 (n := 8) (fun j => aN (⟨(nth a0.xl a0i).jl, (((nth a0.xl a0i).xNew).put j a2), (nth a0.xl a0i).rZ, (nth a0.xl a0i).pO⟩ : bV) = splice (aN (nth a0.xl a0i)) (8 + j) [vu a2]) g3 (by intro j hj; rcases j with _|_|_|_|_|_|_|_|j <;> first | rfl | omega)) (by omega) rfl) ?_
 refine Wk [0] [100900, 100901] ?_
 apply Eso
 apply WM
 apply WM
 refine WQ qnc ?_
 refine WQ qap ?_
 refine W1 (mD (e := aN) (n := 1) (k := 18) rfl rfl (fun _ => rfl) (by first | exact ga0 | exact kH.1 ga0 | simpa only [kH] using ga0) 16 (by omega) rfl rfl rfl (by decide) (⟨(nth a0.xl a0i).jl, (((nth a0.xl a0i).xNew).put a1.toNat a2), true, (nth a0.xl a0i).pO⟩ : bV) rfl (by decide) rfl) ?_
 refine WQ qnc ?_
 refine WQ qap ?_
 refine W1 (mD (e := aN) (n := 1) (k := 18) rfl rfl (fun _ => rfl) (by first | exact ga0 | exact kH.1 ga0 | simpa only [kH] using ga0) 17 (by omega) rfl rfl rfl (by decide) (⟨(nth a0.xl a0i).jl, (((nth a0.xl a0i).xNew).put a1.toNat a2), true, false⟩ : bV) rfl (by decide) rfl) ?_
 refine Wk [] [100900, 100901] ?_
 apply Eso
 apply WM
 apply bW
 refine dR (fK (r := 100900) rfl (by simp [aj, au, ah] : ⟨false, [.own 100901 0 a0.xl.length (some (18, 115)), vb a0.dD, vi a0.bC, vi a0.bP, sl aT a0.bQ]⟩ = ⟨false, [.own 100901 0 (dZ a0.xl a0i (⟨(nth a0.xl a0i).jl, (((nth a0.xl a0i).xNew).put a1.toNat a2), true, false⟩ : bV)).length (some (18, 115)), vb a0.dD, vi a0.bC, vi a0.bP, sl aT a0.bQ]⟩)).b ?_
 apply bD
 cases h
 (try simp only [qt, qb, qn, qg])
 refine dN (xs := _) ⟨_, rfl, rfl⟩ ?_
 show _ ∧ _
 exact ⟨rfl, ⟨(by first | rfl | simp [aj, au, ah]), ⟨(by first | rfl | simp [aj, au, ah]), trivial⟩⟩⟩
def Bz : cO := (q [o (.mv (ci 0)) 6] (.seq (q [w 8 0, w 9 1, w 10 0, o (.dG 10) 11, o (.add 0 11) 12, o (.load nn 1 12) 13, o (.len nn 13) 14, o (.bin .mul 3 14 (ci 8)) 15, o (.call 70 [8, 9, 15]) 16, w 7 16] (q [w 17 7, o (.bin .neq 32 17 (ci 0)) 18] (.cond 18 (q [w 19 7, w 6 19] .ret) .skip))) (.seq (q [w 20 0, o (.call 71 [20]) 21, o (.un .not 21) 22] (.cond 22 (q [o (.mv (ci 12)) 6] .ret) .skip)) (q [w 23 0, o (.dG 23) 24, o (.add 0 24) 25, o (.load nn 1 25) 26, w 27 1, o (.bin .quo 3 27 (ci 8)) 28, o (.fH 18 26 28) 29, w 30 1, o (.bin .rem 3 30 (ci 8)) 31, w 32 2, o (.call 72 [29, 31, 32]) 33] (q [o (.mv (ci 0)) 6] .ret)))))
theorem JX : Fits Tryz.prog 40 3 Bz [(.tmp 6)] := fk Tryz.func40
theorem dw (F : Nat) (a0 : aC) (a1 : Int) (a2 : Int) (r : aC × Int) (h : jh F a0 a1 a2 = some r) : AC Tryz.prog 40 [S.one (.ptr 100900 0), (zi_ a1), (zu_ a2)] [(100900, ⟨false, [.own 100901 0 a0.xl.length (some (18, 115)), vb a0.dD, vi a0.bC, vi a0.bP, sl aT a0.bQ]⟩), (100901, ⟨true, flat aN a0.xl⟩)] (fun x s' => x = (zi_ r.2) ∧ l9 s' [(100900, ⟨false, [.own 100901 0 r.1.xl.length (some (18, 115)), vb r.1.dD, vi r.1.bC, vi r.1.bP, sl aT r.1.bQ]⟩), (100901, ⟨true, flat aN r.1.xl⟩)]) := by
 unfold jh at h
 refine lN JX rfl ?_
 intro C hP
 unfold Bz; dsimp
 apply Eso
 apply WM
 refine Wk [0, 1, 2] [100900, 100901] ?_
 (try dsimp)
 apply bG
 apply Eso
 apply WM
 apply WM
 apply WM
 refine WQ qnc ?_
 refine WQ qap ?_
 refine WQ ql1 ?_
 refine WQ (jg rfl rfl) ?_
 obtain ⟨g1, h⟩ := aQ h
 refine WQ (qmu g1) ?_
 obtain ⟨x2, x2h, h⟩ := aG h
 refine W1 (aO [] false hP (vY F a0 a1 (((a0.xl.length : Nat) : Int) * (8 : Int)) x2 x2h) rfl ⟨rfl, rfl, trivial⟩ rfl rfl rfl rfl rfl (fun h => by first | rfl | cases h) rfl) ?_
 (try dsimp)
 apply WM
 refine Wk [0, 1, 2, 7] [100900, 100901] ?_
 (try dsimp)
 apply Eso
 apply WM
 refine WQ qi ?_
 refine Wk [0, 1, 2, 7, 18] [100900, 100901] ?_
 (try dsimp)
 refine Ec h rfl (fun h hc3 => ?_) (fun h hc3 => ?_)
 apply Eso
 apply WM
 apply WM
 refine Wk [6] [100900, 100901] ?_
 (try dsimp)
 apply bD
 cases h
 (try simp only [qt, qb, qn, qg])
 refine dN (xs := _) ⟨_, rfl, rfl⟩ ?_
 show _ ∧ _
 exact ⟨rfl, ⟨(by first | rfl | simp [aj, au, ah]), ⟨(by first | rfl | simp [aj, au, ah]), trivial⟩⟩⟩
 apply bf
 refine aX [0, 1, 2] [100900, 100901] ?_
 (try dsimp)
 apply bG
 apply Eso
 apply WM
 obtain ⟨x4, x4h, h⟩ := aG h
 refine W1 (aO [] false hP (yx F a0 x4 x4h) rfl ⟨rfl, rfl, trivial⟩ rfl rfl rfl rfl rfl (fun h => by first | rfl | cases h) rfl) ?_
 (try dsimp)
 refine WQ qno ?_
 refine Wk [0, 1, 2, 22] [100900, 100901] ?_
 (try dsimp)
 refine Ec h rfl (fun h hc5 => ?_) (fun h hc5 => ?_)
 apply Eso
 apply WM
 refine Wk [6] [100900, 100901] ?_
 (try dsimp)
 apply bD
 cases h
 (try simp only [qt, qb, qn, qg])
 refine dN (xs := _) ⟨_, rfl, rfl⟩ ?_
 show _ ∧ _
 exact ⟨rfl, ⟨(by first | rfl | simp [aj, au, ah]), ⟨(by first | rfl | simp [aj, au, ah]), trivial⟩⟩⟩
 apply bf
 refine aX [0, 1, 2] [100900, 100901] ?_
 (try dsimp)
 apply Eso
 apply WM
 refine WQ qnc ?_
 refine WQ qap ?_
 refine WQ ql1 ?_
 apply WM
 refine WQ qi ?_
 obtain ⟨g6, h⟩ := aQ h
 refine WQ (qio g6) ?_
 apply WM
 refine WQ qi ?_
 apply WM
 obtain ⟨x7, x7h, h⟩ := aG h
 refine W1 (aO [] false hP (JW F x4.1 (IntKind.i64.wrap (Int.tdiv a1 8)) _ (by omega) (Int.tmod a1 8) a2 x7 x7h) rfl ⟨rfl, rfl, trivial⟩ rfl rfl rfl rfl rfl (fun h => by first | rfl | cases h) rfl) ?_
 (try dsimp)
 refine Wk [] [100900, 100901] ?_
 (try dsimp)
 apply Eso
 apply WM
 apply bW
 (try dsimp)
 apply bD
 cases h
 (try simp only [qt, qb, qn, qg])
 refine dN (xs := _) ⟨_, rfl, rfl⟩ ?_
 show _ ∧ _
 exact ⟨rfl, ⟨(by first | rfl | simp [aj, au, ah]), ⟨(by first | rfl | simp [aj, au, ah]), trivial⟩⟩⟩
theorem yZ (l : List Int) (g : l.length < 4611686018427387904) : AC Tryz.prog 83 [S.one (.own 100800 0 l.length (some (1, 3)))] [(100800, ⟨true, flat aT l⟩)] (fun x s => x = S.tup [] ∧ l9 s [(100800, ⟨true, flat aT (qj l)⟩)]) := aaw Tryz.slices_Sort_int Tryz.slices_Sort_int_none l g
theorem wG (l : List Int) (g : l.length < 4611686018427387904) : AC Tryz.prog 84 [S.one (.own 100800 0 l.length (some (1, 3)))] [(100800, ⟨true, flat aT l⟩)] (fun x s => x = S.one (.own 100800 0 (rD l).length (some (1, 3))) ∧ l9 s [(100800, ⟨true, flat aT (rD l)⟩)]) := Vo Tryz.slices_Compact_int Tryz.slices_Compact_int_empty l g
def JA : cO := (q [o (.mv cn) 2] (q [o (.mv cn) 3] (.seq (q [w 6 0, o (.len nn 6) 7, o (.mv (ci 0)) 8] (.block 0 (.loop (q [o (.bin .lss 3 8 7) 9] (.seq (.cond 9 .skip (.exit 0)) (.seq (.block 1 (q [o (.fH 2 6 8) 10, o (.load yy 2 10) 11, o (.jm [zi, zu]) 5, n_ (.store 2 5 11)] (q [o (.add 0 5) 12, o (.load nn 1 12) 13, o (.bin .geq 3 13 (ci 0)) 14] (.cond 14 (.ops [w 15 3, o (.add 0 5) 16, o (.load nn 1 16) 17, o (.bin .quo 3 17 (ci 8)) 18, o (.iW 1 3 1 [zi] [(0, (1, 18))]) 19, o (.app 47 3 1 8 15 19) 20, w 3 20]) .skip)))) (.ops [o (.bin .add 3 8 (ci 1)) 21, w 8 21]))))))) (q [w 22 3, o (.call 83 [22]) 23] (q [w 24 3, o (.call 84 [24]) 25, w 2 25] .ret)))))
theorem Tv : Fits Tryz.prog 106 1 JA [(.tmp 2)] := fk Tryz.func106
theorem Tz (F : Nat) (a0 : (List aB)) (r : (List Int)) (h : oJ F a0 = some r) : PC Tryz.prog 106 [ss bM a0] (ss aT r) := by
 unfold oJ at h
 refine eu Tv rfl rfl ?_
 intro C hP
 unfold JA; dsimp
 apply Eso
 apply WM
 refine Wk [0] [] ?_
 (try dsimp)
 apply Eso
 apply WM
 apply bW
 (try dsimp)
 obtain ⟨k2, k2d, h⟩ := eX h
 refine dJ (fun (i : (List Int)) => ⟨[(3, S.one (.own 1020 0 i.length (some (1, 3))))], [(1020, ⟨true, flat aT i⟩)]⟩) (fun i => k2 i = some r) (fun i h => ?_) ?_
 let iv := i; change k2 i = some r at h; generalize i = v1 at h ⊢
 rw [k2d] at h; dsimp only at h
 (try dsimp)
 apply Eso
 apply WM
 obtain ⟨g3, h⟩ := aQ h
 refine W1 (aO [(100800, 1020)] false hP (yZ v1 g3) rfl ⟨rfl, trivial⟩ rfl rfl rfl rfl rfl (fun h => by cases h) rfl) ?_
 (try dsimp)
 refine Wk [3] [1020] ?_
 (try dsimp)
 apply Eso
 apply WM
 obtain ⟨g4, h⟩ := aQ h
 refine W1 (Does.ghost (jM (i := 24) _ rfl (by simp [aj, au, ah] : v1.length = (qj v1).length)).b (aO [(100800, 1020)] false hP (wG (qj v1) g4) rfl ⟨rfl, trivial⟩ rfl rfl rfl rfl rfl (fun h => by cases h) rfl)) ?_
 (try dsimp)
 apply WM
 refine Wk [2] [1020] ?_
 (try dsimp)
 refine dR (kY (r := 1020) rfl rfl).b ?_
 (try dsimp)
 apply bD
 cases h
 exact fe
 apply Eso
 apply WM
 refine WQ qls ?_
 apply WM
 refine Wk [3, 6, 7, 8] [] ?_
 (try dsimp)
 apply bT
 (try dsimp)
 refine eG (fun (i : Int × (List Int)) => ⟨[(3, S.one (.own 1020 0 i.2.length (some (1, 3)))), (6, ss bM a0), (7, (zi_ ((a0.length : Nat) : Int))), (8, zi_ i.1)], [(1020, ⟨true, flat aT i.2⟩)]⟩) (fun n i => kN F a0 k2 n i.1 i.2 = some r) F ((0 : Int), ([] : List Int)) h ?_ (fun n i h => ?_)
 refine fM (nT (i := 3) (r := 1020) 1 3 rfl rfl) ?_
 exact LB
 obtain ⟨v21, v22⟩ := i; dsimp only at h
 obtain _ | n23 := n
 cases h
 unfold kN at h
 (try dsimp)
 apply Eso
 refine WQ qi ?_
 apply bW
 (try dsimp)
 apply bG
 refine Ec h rfl (fun h hc24 => ?_) (fun h hc24 => ?_)
 apply bf
 refine aX [3, 6, 7, 8] [1020] ?_
 (try dsimp)
 obtain ⟨k26, abN, h⟩ := eX h
 refine dJ (fun (i : (List Int)) => ⟨[(3, S.one (.own 1020 0 i.length (some (1, 3)))), (6, ss bM a0), (7, (zi_ ((a0.length : Nat) : Int))), (8, zi_ v21)], [(1020, ⟨true, flat aT i⟩)]⟩) (fun i => k26 i = some r) (fun i h => ?_) ?_
 let iv := i; change k26 i = some r at h; generalize i = v25 at h ⊢
 rw [abN] at h; dsimp only at h
 (try dsimp)
 apply dO
 obtain ⟨g27, h⟩ := aQ h
 refine WQ (qad g27) ?_
 apply WM
 apply bW
 refine ⟨n23, ((v21 + (1 : Int)), v25), Nat.lt_succ_self _, h, ?_⟩
 exact LB
 apply bT
 apply Eso
 obtain ⟨g28, h⟩ := aQ h
 refine WQ (qis g28) ?_
 refine WQ (qAF 2 g28 0) ?_
 refine W1 dnv ?_
 refine W1 dst ?_
 refine Wk [3, 5, 6, 7, 8] [5, 1020] ?_
 (try dsimp)
 apply Eso
 refine WQ qap ?_
 refine WQ ql1 ?_
 refine WQ qi ?_
 refine Wk [3, 5, 6, 7, 8, 14] [5, 1020] ?_
 (try dsimp)
 refine Ec h rfl (fun h hc29 => ?_) (fun h hc29 => ?_)
 apply dO
 apply WM
 refine WQ qap ?_
 refine WQ ql1 ?_
 refine WQ qi ?_
 refine W1 dbs ?_
 obtain ⟨g30, h⟩ := aQ h
 refine W1 (dY (e := aT) rfl rfl (fun _ => rfl) (fun _ => rfl) rfl (Src.lit (e := aT) ([(IntKind.i64.wrap (Int.tdiv ((nth a0 v21).xAt) 8))] : List Int) rfl (fun _ => rfl) rfl rfl) g30 rfl) ?_
 apply WM
 apply bW
 refine ⟨(v22 ++ ([(IntKind.i64.wrap (Int.tdiv ((nth a0 v21).xAt) 8))] : List Int)), h, ?_⟩
 exact LB
 apply bf
 refine ⟨v22, h, ?_⟩
 exact LB
 apply gy
 refine ⟨v22, h, ?_⟩
 exact LB
def BA : cO := (.ops [w 2 0, w 3 0, o (.dG 3) 4, o (.add 17 4) 5, o (.load nn 1 5) 6, w 7 6, g_ (.mv 0) 8 7 nn, g_ (.dG 8) 9 7 nn, g_ (.add 16 9) 10 7 nn, g_ (.load nn 1 10) 11 7 nn, o (.pick 7 (cb yy) 11) 12, o (.dG 2) 13, o (.add 17 13) 14, n_ (.store 1 14 12)])
theorem JY : Fits Tryz.prog 139 1 BA [] := fk Tryz.func139
theorem JZ (F : Nat) (a0 : aC) (a0i : Int) (a0o : Nat) (a0h : a0o = a0i.toNat * 18) (r : aC) (h : qL F a0 a0i = some r) : AC Tryz.prog 139 [S.one (.ptr 100901 a0o)] [(100900, ⟨false, [.own 100901 0 a0.xl.length (some (18, 115)), vb a0.dD, vi a0.bC, vi a0.bP, sl aT a0.bQ]⟩), (100901, ⟨true, flat aN a0.xl⟩)] (fun x s' => x = S.tup [] ∧ l9 s' [(100900, ⟨false, [.own 100901 0 r.xl.length (some (18, 115)), vb r.dD, vi r.bC, vi r.bP, sl aT r.bQ]⟩), (100901, ⟨true, flat aN r.xl⟩)]) := by
 unfold qL at h
 refine lN JY rfl ?_
 intro C hP
 unfold BA; dsimp
 obtain ⟨ga0, h⟩ := aQ h
 apply dO
 apply WM
 apply WM
 refine WQ qnc ?_
 refine WQ qap ?_
 refine WQ (gB (k := 18) rfl rfl (fun _ => rfl) ga0 17 (by omega) rfl) ?_
 apply WM
 apply aF
 rfl
 intro b
 try rw [b]
 exact qm
 apply aF
 rfl
 intro b
 try rw [b]
 exact qnc
 apply aF
 rfl
 intro b
 try rw [b]
 exact qap
 apply aF
 rfl
 intro b
 try rw [b]
 exact gB (k := 18) rfl rfl (fun _ => rfl) ga0 16 (by omega) rfl
 refine WQ qor ?_
 refine WQ qnc ?_
 refine WQ qap ?_
 refine W1 (dI (e := aN) (n := 1) (k := 18) rfl rfl (fun _ => rfl) ga0 17 (by omega) rfl rfl rfl (by decide) (⟨(nth a0.xl a0i).jl, (nth a0.xl a0i).xNew, (nth a0.xl a0i).rZ, ((nth a0.xl a0i).pO || (nth a0.xl a0i).rZ)⟩ : bV) rfl (by decide) rfl) ?_
 apply bW
 cases h
 (try simp only [qt, qb, qn, qg])
 refine QG (xs := _) rfl ?_
 show _ ∧ _
 exact ⟨rfl, ⟨(by first | rfl | simp [aj, au, ah]), ⟨(by first | rfl | simp [aj, au, ah]), trivial⟩⟩⟩
def BD : cO := (q [o (.mv (ci 0)) 4] (.seq (q [w 6 0, w 7 1, w 8 0, o (.dG 8) 9, o (.add 0 9) 10, o (.load nn 1 10) 11, o (.len nn 11) 12, o (.call 70 [6, 7, 12]) 13, w 5 13] (q [w 14 5, o (.bin .neq 32 14 (ci 0)) 15] (.cond 15 (q [w 16 5, w 4 16] .ret) .skip))) (.seq (q [w 17 0, o (.call 71 [17]) 18, o (.un .not 18) 19] (.cond 19 (q [o (.mv (ci 12)) 4] .ret) .skip)) (q [w 20 0, o (.dG 20) 21, o (.add 0 21) 22, o (.load nn 1 22) 23, w 24 1, o (.fH 18 23 24) 25, o (.call 139 [25]) 26] (q [o (.mv (ci 0)) 4] .ret)))))
theorem J3 : Fits Tryz.prog 107 2 BD [(.tmp 4)] := fk Tryz.func107
theorem BF (F : Nat) (a0 : aC) (a1 : Int) (r : aC × Int) (h : jU F a0 a1 = some r) : AC Tryz.prog 107 [S.one (.ptr 100900 0), (zi_ a1)] [(100900, ⟨false, [.own 100901 0 a0.xl.length (some (18, 115)), vb a0.dD, vi a0.bC, vi a0.bP, sl aT a0.bQ]⟩), (100901, ⟨true, flat aN a0.xl⟩)] (fun x s' => x = (zi_ r.2) ∧ l9 s' [(100900, ⟨false, [.own 100901 0 r.1.xl.length (some (18, 115)), vb r.1.dD, vi r.1.bC, vi r.1.bP, sl aT r.1.bQ]⟩), (100901, ⟨true, flat aN r.1.xl⟩)]) := by
 unfold jU at h
 refine lN J3 rfl ?_
 intro C hP
 unfold BD; dsimp
 apply Eso
 apply WM
 refine Wk [0, 1] [100900, 100901] ?_
 apply bG
 apply Eso
 apply WM
 apply WM
 apply WM
 refine WQ qnc ?_
 refine WQ qap ?_
 refine WQ ql1 ?_
 refine WQ (jg rfl rfl) ?_
 obtain ⟨x1, x1h, h⟩ := aG h
 refine W1 (aO [] false hP (vY F a0 a1 ((a0.xl.length : Nat) : Int) x1 x1h) rfl ⟨rfl, rfl, trivial⟩ rfl rfl rfl rfl rfl (fun h => by first | rfl | cases h) rfl) ?_
 apply WM
 refine Wk [0, 1, 5] [100900, 100901] ?_
 apply Eso
 apply WM
 refine WQ qi ?_
 refine Wk [0, 1, 5, 15] [100900, 100901] ?_
 refine Ec h rfl (fun h hc2 => ?_) (fun h hc2 => ?_)
 apply Eso
 apply WM
 apply WM
 refine Wk [4] [100900, 100901] ?_
 apply bD
 cases h
 (try simp only [qt, qb, qn, qg])
 refine dN (xs := _) ⟨_, rfl, rfl⟩ ?_
 show _ ∧ _
 exact ⟨rfl, ⟨(by first | rfl | simp [aj, au, ah]), ⟨(by first | rfl | simp [aj, au, ah]), trivial⟩⟩⟩
 apply bf
 refine aX [0, 1] [100900, 100901] ?_
 apply bG
 apply Eso
 apply WM
 obtain ⟨x3, x3h, h⟩ := aG h
 refine W1 (aO [] false hP (yx F a0 x3 x3h) rfl ⟨rfl, rfl, trivial⟩ rfl rfl rfl rfl rfl (fun h => by first | rfl | cases h) rfl) ?_
 refine WQ qno ?_
 refine Wk [0, 1, 19] [100900, 100901] ?_
 refine Ec h rfl (fun h hc4 => ?_) (fun h hc4 => ?_)
 apply Eso
 apply WM
 refine Wk [4] [100900, 100901] ?_
 apply bD
 cases h
 (try simp only [qt, qb, qn, qg])
 refine dN (xs := _) ⟨_, rfl, rfl⟩ ?_
 show _ ∧ _
 exact ⟨rfl, ⟨(by first | rfl | simp [aj, au, ah]), ⟨(by first | rfl | simp [aj, au, ah]), trivial⟩⟩⟩
 apply bf
 refine aX [0, 1] [100900, 100901] ?_
 apply Eso
 apply WM
 refine WQ qnc ?_
 refine WQ qap ?_
 refine WQ ql1 ?_
 apply WM
 obtain ⟨g5, h⟩ := aQ h
 refine WQ (qio g5) ?_
 obtain ⟨x6, x6h, h⟩ := aG h
 refine W1 (aO [] false hP (JZ F x3.1 a1 _ (by omega) x6 x6h) rfl ⟨rfl, rfl, trivial⟩ rfl rfl rfl rfl rfl (fun h => by first | rfl | cases h) rfl) ?_
 refine Wk [] [100900, 100901] ?_
 apply Eso
 apply WM
 apply bW
 apply bD
 cases h
 (try simp only [qt, qb, qn, qg])
 refine dN (xs := _) ⟨_, rfl, rfl⟩ ?_
 show _ ∧ _
 exact ⟨rfl, ⟨(by first | rfl | simp [aj, au, ah]), ⟨(by first | rfl | simp [aj, au, ah]), trivial⟩⟩⟩
def BG : cO := (q [o (.mv (cb nn)) 2] (q [w 3 0, o (.dG 3) 4, o (.add 17 4) 5, o (.load nn 1 5) 6, w 7 6, g_ (.mv 0) 8 7 yy, g_ (.call 101 [8]) 9 7 yy, o (.pick 7 9 (cb nn)) 10, w 2 10] .ret))
theorem J4 : Fits Tryz.prog 140 1 BG [(.tmp 2)] := fk Tryz.func140
theorem J5 (F : Nat) (a0 : aC) (a0i : Int) (a0o : Nat) (a0h : a0o = a0i.toNat * 18) (r : aC × Bool) (h : mQ F a0 a0i = some r) : AC Tryz.prog 140 [S.one (.ptr 100901 a0o)] [(100900, ⟨false, [.own 100901 0 a0.xl.length (some (18, 115)), vb a0.dD, vi a0.bC, vi a0.bP, sl aT a0.bQ]⟩), (100901, ⟨true, flat aN a0.xl⟩)] (fun x s' => x = (zb_ r.2) ∧ l9 s' [(100900, ⟨false, [.own 100901 0 r.1.xl.length (some (18, 115)), vb r.1.dD, vi r.1.bC, vi r.1.bP, sl aT r.1.bQ]⟩), (100901, ⟨true, flat aN r.1.xl⟩)]) := by
 unfold mQ at h
 refine lN J4 rfl ?_
 intro C hP
 unfold BG; dsimp
 obtain ⟨ga0, h⟩ := aQ h
 apply Eso
 apply WM
 refine Wk [0] [100900, 100901] ?_
 apply Eso
 apply WM
 refine WQ qnc ?_
 refine WQ qap ?_
 refine WQ (gB (k := 18) rfl rfl (fun _ => rfl) ga0 17 (by omega) rfl) ?_
 apply WM
 rcases tf ((nth a0.xl a0i).pO) with hs1 | hs1
 replace h := V9 h hs1
 refine TA rfl hs1 ((qm).does) ?_
 obtain ⟨x2, x2h, h⟩ := aG h
 refine TA rfl hs1 (aO [] false hP (Bl F a0 a0i _ (by omega) x2 x2h) rfl ⟨rfl, rfl, trivial⟩ rfl rfl rfl rfl rfl (fun h => by first | rfl | cases h) rfl) ?_
 refine WQ (FM hs1 rfl rfl) ?_
 apply WM
 refine Wk [2] [100900, 100901] ?_
 apply bD
 cases h
 (try simp only [qt, qb, qn, qg])
 refine dN (xs := _) ⟨_, rfl, rfl⟩ ?_
 show _ ∧ _
 exact ⟨rfl, ⟨(by first | rfl | simp [aj, au, ah]), ⟨(by first | rfl | simp [aj, au, ah]), trivial⟩⟩⟩
 replace h := Wh h hs1
 refine Ot rfl hs1 ?_
 refine Ot rfl hs1 ?_
 refine WQ (MV hs1 rfl rfl) ?_
 apply WM
 refine Wk [2] [100900, 100901] ?_
 apply bD
 cases h
 (try simp only [qt, qb, qn, qg])
 refine dN (xs := _) ⟨_, rfl, rfl⟩ ?_
 show _ ∧ _
 exact ⟨rfl, ⟨(by first | rfl | simp [aj, au, ah]), ⟨(by first | rfl | simp [aj, au, ah]), trivial⟩⟩⟩
def BH : cO := (q [o (.mv (ci 0)) 2] (.seq (q [w 5 0, o (.call 70 [5, ci 0, ci 1]) 6, w 3 6] (q [w 7 3, o (.bin .neq 32 7 (ci 0)) 8] (.cond 8 (q [w 9 3, w 2 9] .ret) .skip))) (.seq (q [w 10 0, o (.call 71 [10]) 11, o (.un .not 11) 12] (.cond 12 (q [o (.mv (ci 12)) 2] .ret) .skip)) (.seq (q [w 13 0, o (.dG 13) 14, o (.add 0 14) 15, o (.load nn 1 15) 16, o (.len nn 16) 17, o (.mv (ci 0)) 18] (.block 0 (.loop (q [o (.bin .lss 3 18 17) 19] (.seq (.cond 19 .skip (.exit 0)) (.seq (.block 1 (q [w 20 18, w 4 20] (.ops [w 21 0, o (.dG 21) 22, o (.add 0 22) 23, o (.load nn 1 23) 24, w 25 4, o (.fH 18 24 25) 26, o (.call 140 [26]) 27]))) (.ops [o (.bin .add 3 18 (ci 1)) 28, w 18 28]))))))) (q [o (.mv (ci 0)) 2] .ret)))))
theorem J6 : Fits Tryz.prog 108 1 BH [(.tmp 2)] := fk Tryz.func108
theorem BI (F : Nat) (a0 : aC) (r : aC × Int) (h : lI F a0 = some r) : AC Tryz.prog 108 [S.one (.ptr 100900 0)] [(100900, ⟨false, [.own 100901 0 a0.xl.length (some (18, 115)), vb a0.dD, vi a0.bC, vi a0.bP, sl aT a0.bQ]⟩), (100901, ⟨true, flat aN a0.xl⟩)] (fun x s' => x = (zi_ r.2) ∧ l9 s' [(100900, ⟨false, [.own 100901 0 r.1.xl.length (some (18, 115)), vb r.1.dD, vi r.1.bC, vi r.1.bP, sl aT r.1.bQ]⟩), (100901, ⟨true, flat aN r.1.xl⟩)]) := by
 unfold lI at h
 refine lN J6 rfl ?_
 intro C hP
 unfold BH; dsimp
 apply Eso
 apply WM
 refine Wk [0] [100900, 100901] ?_
 (try dsimp)
 apply bG
 apply Eso
 apply WM
 obtain ⟨x1, x1h, h⟩ := aG h
 refine W1 (aO [] false hP (vY F a0 (0 : Int) (1 : Int) x1 x1h) rfl ⟨rfl, rfl, trivial⟩ rfl rfl rfl rfl rfl (fun h => by first | rfl | cases h) rfl) ?_
 (try dsimp)
 apply WM
 refine Wk [0, 3] [100900, 100901] ?_
 (try dsimp)
 apply Eso
 apply WM
 refine WQ qi ?_
 refine Wk [0, 3, 8] [100900, 100901] ?_
 (try dsimp)
 refine Ec h rfl (fun h hc2 => ?_) (fun h hc2 => ?_)
 apply Eso
 apply WM
 apply WM
 refine Wk [2] [100900, 100901] ?_
 (try dsimp)
 apply bD
 cases h
 (try simp only [qt, qb, qn, qg])
 refine dN (xs := _) ⟨_, rfl, rfl⟩ ?_
 show _ ∧ _
 exact ⟨rfl, ⟨(by first | rfl | simp [aj, au, ah]), ⟨(by first | rfl | simp [aj, au, ah]), trivial⟩⟩⟩
 apply bf
 refine aX [0] [100900, 100901] ?_
 (try dsimp)
 apply bG
 apply Eso
 apply WM
 obtain ⟨x3, x3h, h⟩ := aG h
 refine W1 (aO [] false hP (yx F a0 x3 x3h) rfl ⟨rfl, rfl, trivial⟩ rfl rfl rfl rfl rfl (fun h => by first | rfl | cases h) rfl) ?_
 (try dsimp)
 refine WQ qno ?_
 refine Wk [0, 12] [100900, 100901] ?_
 (try dsimp)
 refine Ec h rfl (fun h hc4 => ?_) (fun h hc4 => ?_)
 apply Eso
 apply WM
 refine Wk [2] [100900, 100901] ?_
 (try dsimp)
 apply bD
 cases h
 (try simp only [qt, qb, qn, qg])
 refine dN (xs := _) ⟨_, rfl, rfl⟩ ?_
 show _ ∧ _
 exact ⟨rfl, ⟨(by first | rfl | simp [aj, au, ah]), ⟨(by first | rfl | simp [aj, au, ah]), trivial⟩⟩⟩
 apply bf
 refine aX [0] [100900, 100901] ?_
 (try dsimp)
 obtain ⟨k10, abG, h⟩ := eX h
 refine dJ (fun (i : (List bV) × Bool × Int × Int × (List Int)) => ⟨[], [(100900, ⟨false, [.own 100901 0 i.1.length (some (18, 115)), vb i.2.1, vi i.2.2.1, vi i.2.2.2.1, sl aT i.2.2.2.2]⟩), (100901, ⟨true, flat aN i.1⟩)]⟩) (fun i => k10 i.1 i.2.1 i.2.2.1 i.2.2.2.1 i.2.2.2.2 = some r) (fun i h => ?_) ?_
 obtain ⟨v5, v6, v7, v8, v9⟩ := i
 rw [abG] at h; dsimp only at h
 (try dsimp)
 apply Eso
 apply WM
 apply bW
 (try dsimp)
 apply bD
 cases h
 (try simp only [qt, qb, qn, qg])
 refine dN (xs := _) ⟨_, rfl, rfl⟩ ?_
 show _ ∧ _
 exact ⟨rfl, ⟨(by first | rfl | simp [aj, au, ah]), ⟨(by first | rfl | simp [aj, au, ah]), trivial⟩⟩⟩
 apply Eso
 apply WM
 refine WQ qnc ?_
 refine WQ qap ?_
 refine WQ ql1 ?_
 refine WQ (jg rfl rfl) ?_
 apply WM
 refine Wk [0, 17, 18] [100900, 100901] ?_
 (try dsimp)
 apply bT
 (try dsimp)
 refine eG (fun (i : Int × (List bV) × Bool × Int × Int × (List Int)) => ⟨[(0, S.one (.ptr 100900 0)), (17, (zi_ ((x3.1.xl.length : Nat) : Int))), (18, zi_ i.1)], [(100900, ⟨false, [.own 100901 0 i.2.1.length (some (18, 115)), vb i.2.2.1, vi i.2.2.2.1, vi i.2.2.2.2.1, sl aT i.2.2.2.2.2]⟩), (100901, ⟨true, flat aN i.2.1⟩)]⟩) (fun n i => jR F x3 k10 n i.1 i.2.1 i.2.2.1 i.2.2.2.1 i.2.2.2.2.1 i.2.2.2.2.2 = some r) F ((0 : Int), x3.1.xl, x3.1.dD, x3.1.bC, x3.1.bP, x3.1.bQ) h ?_ (fun n i h => ?_)
 exact LB
 obtain ⟨v25, v26, v27, v28, v29, v30⟩ := i; dsimp only at h
 obtain _ | n31 := n
 cases h
 unfold jR at h
 (try dsimp)
 apply Eso
 refine WQ qi ?_
 apply bW
 (try dsimp)
 apply bG
 refine Ec h rfl (fun h hc32 => ?_) (fun h hc32 => ?_)
 apply bf
 refine aX [0, 17, 18] [100900, 100901] ?_
 (try dsimp)
 apply bG
 apply bT
 apply Eso
 apply WM
 apply WM
 refine Wk [0, 4, 17, 18] [100900, 100901] ?_
 (try dsimp)
 apply dO
 apply WM
 refine WQ qnc ?_
 refine WQ qap ?_
 refine WQ ql1 ?_
 apply WM
 obtain ⟨g33, h⟩ := aQ h
 refine WQ (qio g33) ?_
 obtain ⟨x34, Qh, h⟩ := aG h
 refine W1 (aO [] false hP (J5 F (⟨v26, v27, v28, v29, v30⟩ : aC) v25 _ (by omega) x34 Qh) rfl ⟨rfl, rfl, trivial⟩ rfl rfl rfl rfl rfl (fun h => by first | rfl | cases h) rfl) ?_
 (try dsimp)
 refine Wk [0, 17, 18] [100900, 100901] ?_
 (try dsimp)
 apply dO
 obtain ⟨g35, h⟩ := aQ h
 refine WQ (qad g35) ?_
 apply WM
 apply bW
 refine ⟨n31, ((v25 + (1 : Int)), x34.1.xl, x34.1.dD, x34.1.bC, x34.1.bP, x34.1.bQ), Nat.lt_succ_self _, h, ?_⟩
 exact LB
 apply gy
 refine ⟨(v26, v27, v28, v29, v30), h, ?_⟩
 exact LB
def JB : cO := (q [o (.mv (ci 0)) 4] (.seq (q [w 11 1, o (.len nn 11) 12, o (.mv (ci 0)) 13] (.block 0 (.loop (q [o (.bin .lss 3 13 12) 14] (.seq (.cond 14 .skip (.exit 0)) (.seq (.block 1 (q [o (.fH 2 11 13) 15, o (.load yy 2 15) 16, o (.jm [zi, zu]) 6, n_ (.store 2 6 16)] (q [w 17 0, o (.add 0 6) 18, o (.load nn 1 18) 19, o (.add 1 6) 20, o (.load nn 1 20) 21, o (.call 40 [17, 19, 21]) 22, w 7 22] (q [w 23 7, o (.bin .neq 32 23 (ci 0)) 24] (.cond 24 (q [w 25 7, w 4 25] .ret) .skip))))) (.ops [o (.bin .add 3 13 (ci 1)) 26, w 13 26]))))))) (.seq (q [w 27 1, o (.call 106 [27]) 28, o (.len nn 28) 29, o (.mv (ci 0)) 30] (.block 2 (.loop (q [o (.bin .lss 3 30 29) 31] (.seq (.cond 31 .skip (.exit 2)) (.seq (.block 3 (q [o (.fH 1 28 30) 32, o (.load nn 1 32) 33, w 9 33] (q [w 34 0, w 35 9, o (.call 107 [34, 35]) 36, w 10 36] (q [w 37 10, o (.bin .neq 32 37 (ci 0)) 38] (.cond 38 (q [w 39 10, w 4 39] .ret) .skip))))) (.ops [o (.bin .add 3 30 (ci 1)) 40, w 30 40]))))))) (q [w 41 0, o (.call 108 [41]) 42, w 4 42] .ret))))
theorem TB : Fits Tryz.prog 68 2 JB [(.tmp 4)] := fk Tryz.func68
theorem TD (F : Nat) (a0 : aC) (a1 : (List aB)) (r : aC × Int) (h : rE F a0 a1 = some r) : AC Tryz.prog 68 [S.one (.ptr 100900 0), ss bM a1] [(100900, ⟨false, [.own 100901 0 a0.xl.length (some (18, 115)), vb a0.dD, vi a0.bC, vi a0.bP, sl aT a0.bQ]⟩), (100901, ⟨true, flat aN a0.xl⟩)] (fun x s' => x = (zi_ r.2) ∧ l9 s' [(100900, ⟨false, [.own 100901 0 r.1.xl.length (some (18, 115)), vb r.1.dD, vi r.1.bC, vi r.1.bP, sl aT r.1.bQ]⟩), (100901, ⟨true, flat aN r.1.xl⟩)]) := by
 unfold rE at h
 refine lN TB rfl ?_
 intro C hP
 unfold JB; dsimp
 apply Eso
 apply WM
 refine Wk [0, 1] [100900, 100901] ?_
 (try dsimp)
 obtain ⟨k6, k6d, h⟩ := eX h
 refine dJ (fun (i : (List bV) × Bool × Int × Int × (List Int)) => ⟨[(0, S.one (.ptr 100900 0)), (1, ss bM a1)], [(100900, ⟨false, [.own 100901 0 i.1.length (some (18, 115)), vb i.2.1, vi i.2.2.1, vi i.2.2.2.1, sl aT i.2.2.2.2]⟩), (100901, ⟨true, flat aN i.1⟩)]⟩) (fun i => k6 i.1 i.2.1 i.2.2.1 i.2.2.2.1 i.2.2.2.2 = some r) (fun i h => ?_) ?_
 obtain ⟨v1, v2, v3, v4, v5⟩ := i
 rw [k6d] at h; dsimp only at h
 (try dsimp)
 obtain ⟨k12, U9, h⟩ := eX h
 refine dJ (fun (i : (List bV) × Bool × Int × Int × (List Int)) => ⟨[(0, S.one (.ptr 100900 0))], [(100900, ⟨false, [.own 100901 0 i.1.length (some (18, 115)), vb i.2.1, vi i.2.2.1, vi i.2.2.2.1, sl aT i.2.2.2.2]⟩), (100901, ⟨true, flat aN i.1⟩)]⟩) (fun i => k12 i.1 i.2.1 i.2.2.1 i.2.2.2.1 i.2.2.2.2 = some r) (fun i h => ?_) ?_
 obtain ⟨v7, v8, v9, v10, v11⟩ := i
 rw [U9] at h; dsimp only at h
 (try dsimp)
 apply Eso
 apply WM
 obtain ⟨x13, Io, h⟩ := aG h
 refine W1 (aO [] false hP (BI F (⟨v7, v8, v9, v10, v11⟩ : aC) x13 Io) rfl ⟨rfl, rfl, trivial⟩ rfl rfl rfl rfl rfl (fun h => by first | rfl | cases h) rfl) ?_
 (try dsimp)
 apply WM
 refine Wk [4] [100900, 100901] ?_
 (try dsimp)
 apply bD
 cases h
 (try simp only [qt, qb, qn, qg])
 refine dN (xs := _) ⟨_, rfl, rfl⟩ ?_
 show _ ∧ _
 exact ⟨rfl, ⟨(by first | rfl | simp [aj, au, ah]), ⟨(by first | rfl | simp [aj, au, ah]), trivial⟩⟩⟩
 apply Eso
 apply WM
 obtain ⟨x14, SK, h⟩ := aG h
 refine W1 (dc1 hP (Tz F a1 x14 SK)) ?_
 refine WQ qls ?_
 apply WM
 refine Wk [0, 28, 29, 30] [100900, 100901] ?_
 (try dsimp)
 apply bT
 (try dsimp)
 refine eG (fun (i : Int × (List bV) × Bool × Int × Int × (List Int)) => ⟨[(0, S.one (.ptr 100900 0)), (28, ss aT x14), (29, (zi_ ((x14.length : Nat) : Int))), (30, zi_ i.1)], [(100900, ⟨false, [.own 100901 0 i.2.1.length (some (18, 115)), vb i.2.2.1, vi i.2.2.2.1, vi i.2.2.2.2.1, sl aT i.2.2.2.2.2]⟩), (100901, ⟨true, flat aN i.2.1⟩)]⟩) (fun n i => lW F k12 x14 n i.1 i.2.1 i.2.2.1 i.2.2.2.1 i.2.2.2.2.1 i.2.2.2.2.2 = some r) F ((0 : Int), v1, v2, v3, v4, v5) h ?_ (fun n i h => ?_)
 exact LB
 obtain ⟨v31, v32, v33, v34, v35, v36⟩ := i; dsimp only at h
 obtain _ | n37 := n
 cases h
 unfold lW at h
 (try dsimp)
 apply Eso
 refine WQ qi ?_
 apply bW
 (try dsimp)
 apply bG
 refine Ec h rfl (fun h hc38 => ?_) (fun h hc38 => ?_)
 apply bf
 refine aX [0, 28, 29, 30] [100900, 100901] ?_
 (try dsimp)
 apply bG
 apply bT
 apply Eso
 obtain ⟨g39, h⟩ := aQ h
 refine WQ (qis g39) ?_
 refine WQ (q1F 1 g39 0) ?_
 apply WM
 refine Wk [0, 9, 28, 29, 30] [100900, 100901] ?_
 (try dsimp)
 apply Eso
 apply WM
 apply WM
 obtain ⟨x40, Zh, h⟩ := aG h
 refine W1 (aO [] false hP (BF F (⟨v32, v33, v34, v35, v36⟩ : aC) (nth x14 v31) x40 Zh) rfl ⟨rfl, rfl, trivial⟩ rfl rfl rfl rfl rfl (fun h => by first | rfl | cases h) rfl) ?_
 (try dsimp)
 apply WM
 refine Wk [0, 10, 28, 29, 30] [100900, 100901] ?_
 (try dsimp)
 apply Eso
 apply WM
 refine WQ qi ?_
 refine Wk [0, 10, 28, 29, 30, 38] [100900, 100901] ?_
 (try dsimp)
 refine Ec h rfl (fun h abJ => ?_) (fun h abJ => ?_)
 apply Eso
 apply WM
 apply WM
 refine Wk [4] [100900, 100901] ?_
 (try dsimp)
 apply bD
 cases h
 (try simp only [qt, qb, qn, qg])
 refine dN (xs := _) ⟨_, rfl, rfl⟩ ?_
 show _ ∧ _
 exact ⟨rfl, ⟨(by first | rfl | simp [aj, au, ah]), ⟨(by first | rfl | simp [aj, au, ah]), trivial⟩⟩⟩
 apply bf
 refine aX [0, 28, 29, 30] [100900, 100901] ?_
 (try dsimp)
 apply dO
 obtain ⟨g42, h⟩ := aQ h
 refine WQ (qad g42) ?_
 apply WM
 apply bW
 refine ⟨n37, ((v31 + (1 : Int)), x40.1.xl, x40.1.dD, x40.1.bC, x40.1.bP, x40.1.bQ), Nat.lt_succ_self _, h, ?_⟩
 exact LB
 apply gy
 refine ⟨(v32, v33, v34, v35, v36), h, ?_⟩
 exact LB
 apply Eso
 apply WM
 refine WQ qls ?_
 apply WM
 apply bW
 (try dsimp)
 apply bT
 (try dsimp)
 refine eG (fun (i : Int × (List bV) × Bool × Int × Int × (List Int)) => ⟨[(0, S.one (.ptr 100900 0)), (1, ss bM a1), (11, ss bM a1), (12, (zi_ ((a1.length : Nat) : Int))), (13, zi_ i.1)], [(100900, ⟨false, [.own 100901 0 i.2.1.length (some (18, 115)), vb i.2.2.1, vi i.2.2.2.1, vi i.2.2.2.2.1, sl aT i.2.2.2.2.2]⟩), (100901, ⟨true, flat aN i.2.1⟩)]⟩) (fun n i => lV F a1 k6 n i.1 i.2.1 i.2.2.1 i.2.2.2.1 i.2.2.2.2.1 i.2.2.2.2.2 = some r) F ((0 : Int), a0.xl, a0.dD, a0.bC, a0.bP, a0.bQ) h ?_ (fun n i h => ?_)
 exact LB
 obtain ⟨v59, v60, v61, v62, v63, v64⟩ := i; dsimp only at h
 obtain _ | n65 := n
 cases h
 unfold lV at h
 (try dsimp)
 apply Eso
 refine WQ qi ?_
 apply bW
 (try dsimp)
 apply bG
 refine Ec h rfl (fun h ab9 => ?_) (fun h ab9 => ?_)
 apply bf
 refine aX [0, 1, 11, 12, 13] [100900, 100901] ?_
 (try dsimp)
 apply bG
 apply bT
 apply Eso
 obtain ⟨g67, h⟩ := aQ h
 refine WQ (qis g67) ?_
 refine WQ (qAF 2 g67 0) ?_
 refine W1 dnv ?_
 refine W1 dst ?_
 refine Wk [0, 1, 6, 11, 12, 13] [6, 100900, 100901] ?_
 (try dsimp)
 apply Eso
 apply WM
 refine WQ qap ?_
 refine WQ ql1 ?_
 refine WQ qap ?_
 refine WQ ql1 ?_
 obtain ⟨x68, aeG, h⟩ := aG h
 refine W1 (aO [] false hP (dw F (⟨v60, v61, v62, v63, v64⟩ : aC) ((nth a1 v59).xAt) ((nth a1 v59).xV) x68 aeG) rfl ⟨rfl, rfl, trivial⟩ rfl rfl rfl rfl rfl (fun h => by first | rfl | cases h) rfl) ?_
 (try dsimp)
 apply WM
 refine Wk [0, 1, 7, 11, 12, 13] [100900, 100901] ?_
 (try dsimp)
 apply Eso
 apply WM
 refine WQ qi ?_
 refine Wk [0, 1, 7, 11, 12, 13, 24] [100900, 100901] ?_
 (try dsimp)
 refine Ec h rfl (fun h ab8 => ?_) (fun h ab8 => ?_)
 apply Eso
 apply WM
 apply WM
 refine Wk [4] [100900, 100901] ?_
 (try dsimp)
 apply bD
 cases h
 (try simp only [qt, qb, qn, qg])
 refine dN (xs := _) ⟨_, rfl, rfl⟩ ?_
 show _ ∧ _
 exact ⟨rfl, ⟨(by first | rfl | simp [aj, au, ah]), ⟨(by first | rfl | simp [aj, au, ah]), trivial⟩⟩⟩
 apply bf
 refine aX [0, 1, 11, 12, 13] [100900, 100901] ?_
 (try dsimp)
 apply dO
 obtain ⟨g70, h⟩ := aQ h
 refine WQ (qad g70) ?_
 apply WM
 apply bW
 refine ⟨n65, ((v59 + (1 : Int)), x68.1.xl, x68.1.dD, x68.1.bC, x68.1.bP, x68.1.bQ), Nat.lt_succ_self _, h, ?_⟩
 exact LB
 apply gy
 refine ⟨(v60, v61, v62, v63, v64), h, ?_⟩
 exact LB
def MW : cO := (q [o (.mv cp) 2, o (.mv (ci 0)) 3] (.seq (q [w 12 0, o (.eqP nn 12 cp) 13] (.cond 13 (q [o (.mv cp) 2, o (.mv (ci 1)) 3] .ret) .skip)) (.seq (q [w 14 0, o (.call 56 [14]) 15] (.cond 15 (q [o (.mv cp) 2, o (.mv (ci 12)) 3] .ret) .skip)) (q [w 16 0, o (.call 18 [16]) 17, w 4 17] (q [w 19 4, o (.call 57 [19]) 20, w 18 20, o (.ext 0 18) 21, o (.ext 1 18) 22, o (.jm [zi, zi, zi, .nil, .nil]) 5, n_ (.store 5 5 21), w 6 22] (.seq (q [w 23 6, o (.bin .neq 32 23 (ci 0)) 24, w 25 24, g_ (.mv 4) 26 25 nn, g_ (.add 0 5) 27 25 nn, g_ (.load yy 3 27) 28 25 nn, g_ (.call 47 [28]) 29 25 nn, g_ (.fH 1 26 29) 30 25 nn, g_ (.load nn 1 30) 31 25 nn, g_ (.bin .neq 22 31 (.const (.int .u64 0))) 32 25 nn, o (.pick 25 (cb yy) 32) 33] (.cond 33 (q [o (.mv cp) 2, o (.mv (ci 2)) 3] .ret) .skip)) (.seq (q [o (.add 0 5) 34, o (.add 0 34) 35, o (.load nn 1 35) 36, o (.mv (ci 0)) 37] (.block 0 (.loop (q [o (.bin .lss 3 37 36) 38] (.seq (.cond 38 .skip (.exit 0)) (.seq (.block 1 (q [w 39 37, w 7 39] (q [o (.add 0 5) 41, o (.load yy 3 41) 42, w 43 7, o (.call 39 [42, 43]) 44, w 40 44, o (.ext 0 40) 45, o (.ext 1 40) 46, w 8 45, w 9 46] (.seq (.draw [((o (.add 0 5) 48), []), ((o (.load yy 3 48) 49), [0]), ((w 50 4), []), ((w 51 8), []), ((w 52 8), []), ((w 53 9), []), ((o (.bin .add 3 52 53) 54), [4, 5]), ((o (.slc 1 50 (.some 51) (.some 54) .none) 55), [2, 3, 6]), ((o (.call 58 [49, 55]) 56), [1, 7]), ((w 47 56), [8]), ((o (.ext 0 47) 57), [9]), ((o (.ext 1 47) 58), [9]), ((o (.jm [zi, zu, zu, zu, zu, zu, zi, zu, zi, .nil]) 10), []), ((n_ (.store 10 10 57)), [12, 10, 8, 0, 1, 2, 3, 4, 5, 6, 7, 8, 9, 10, 12]), ((w 11 58), [11, 13, 0, 1, 2, 3, 4, 5, 6, 7, 8, 9, 10, 11, 12, 13])]) (q [w 59 11, o (.un .not 59) 60, w 61 60, g_ (.add 0 10) 62 61 nn, g_ (.load nn 1 62) 63 61 nn, g_ (.bin .eql 3 63 (ci 1)) 64 61 nn, o (.pick 61 (cb yy) 64) 65, w 66 65, g_ (.add 0 10) 67 66 nn, g_ (.load nn 1 67) 68 66 nn, g_ (.bin .eql 3 68 (ci 2)) 69 66 nn, o (.pick 66 (cb yy) 69) 70] (.cond 70 (q [o (.mv cp) 2, o (.mv (ci 2)) 3] .ret) .skip)))))) (.ops [o (.bin .add 3 37 (ci 1)) 71, w 37 71]))))))) (.seq (.draw [((w 72 0), []), ((o (.add 0 5) 73), []), ((o (.load yy 3 73) 74), [1]), ((o (.add 0 5) 75), []), ((o (.add 0 75) 76), [3]), ((o (.load nn 1 76) 77), [4]), ((o (.mk 94 101 12 128 [zi, zi, zu, zu, zu, zu, zu, zi, zu, zi, .nil, .nil] 77 77) 78), [5, 5]), ((o (.build [.v (.pointer .none), zi, zi, zi, .nil, .nil, zb] [(0, (1, 72)), (1, (3, 74)), (4, (1, 78))]) 79), [0, 2, 6]), ((o (.box 96 79) 80), [7]), ((w 2 80), [8, 0, 1, 2, 3, 4, 5, 6, 7, 8]), ((o (.mv (ci 0)) 3), [9, 0, 1, 2, 3, 4, 5, 6, 7, 8, 9])]) .ret))))))))
theorem Vp : Fits Tryz.prog 24 1 MW [(.tmp 2), (.tmp 3)] := fk Tryz.func24
theorem MX (F : Nat) (a0 : aC) (r : Option aW × Int) (h : oV F a0 = some r) : AC Tryz.prog 24 [S.one (.ptr 100900 0)] [(100900, ⟨false, [.own 100901 0 a0.xl.length (some (18, 115)), vb a0.dD, vi a0.bC, vi a0.bP, sl aT a0.bQ]⟩), (100901, ⟨true, flat aN a0.xl⟩)] (fun x s' => Va (r.1) (x = S.tup [S.one (.v (.pointer none)), (zi_ r.2)] ∧ l9 s' [(100900, ⟨false, [.own 100901 0 a0.xl.length (some (18, 115)), vb a0.dD, vi a0.bC, vi a0.bP, sl aT a0.bQ]⟩), (100901, ⟨true, flat aN a0.xl⟩)]) (fun G => x = S.tup [S.one (.ptr 80 0), (zi_ r.2)] ∧ l9 s' [(78, ⟨true, flat bU G.xw⟩), (80, ⟨false, [.ptr 100900 0, vi G.dB.ak, vi G.dB.ay, vi G.dB.aA, .own 78 0 G.xw.length (some (12, 101)), .own 6805 0 G.cu.length (some (1, 3)), vb G.fP]⟩), (6805, ⟨true, flat aT G.cu⟩), (100900, ⟨false, [.own 100901 0 a0.xl.length (some (18, 115)), vb a0.dD, vi a0.bC, vi a0.bP, sl aT a0.bQ]⟩), (100901, ⟨true, flat aN a0.xl⟩)])) := by
 unfold oV at h
 refine lN Vp rfl ?_
 intro C hP
 unfold MW; dsimp
 apply Eso
 apply WM
 apply WM
 refine Wk [0] [100900, 100901] ?_
 (try dsimp)
 apply bG
 apply Eso
 apply WM
 refine WQ (qF rfl rfl rfl) ?_
 refine Wk [0, 13] [100900, 100901] ?_
 (try dsimp)
 refine FC rfl (fun hc1 => ?_) (fun hc1 => ?_)
 cases hc1
 apply bf
 refine aX [0] [100900, 100901] ?_
 (try dsimp)
 apply bG
 apply Eso
 apply WM
 obtain ⟨x2, x2h, h⟩ := aG h
 refine W1 (aO [] false hP (zC F a0 x2 x2h) rfl ⟨rfl, rfl, trivial⟩ rfl rfl rfl rfl rfl (fun h => by first | rfl | cases h) rfl) ?_
 (try dsimp)
 refine Wk [0, 15] [100900, 100901] ?_
 (try dsimp)
 refine Ec h rfl (fun h hc3 => ?_) (fun h hc3 => ?_)
 apply Eso
 apply WM
 apply WM
 refine Wk [2, 3] [100900, 100901] ?_
 (try dsimp)
 apply bD
 cases h
 (try simp only [qt, qb, qn, qg])
 refine dN (xs := _) ⟨_, rfl, ⟨_, rfl, rfl⟩⟩ ?_
 show _ ∧ _
 exact ⟨rfl, ⟨(by first | rfl | simp [aj, au, ah]), ⟨(by first | rfl | simp [aj, au, ah]), trivial⟩⟩⟩
 apply bf
 refine aX [0] [100900, 100901] ?_
 (try dsimp)
 apply Eso
 apply WM
 obtain ⟨x4, x4h, h⟩ := aG h
 refine W1 (aO [] false hP (qO F a0 x4 x4h) rfl ⟨rfl, rfl, trivial⟩ rfl rfl rfl rfl rfl (fun h => by first | rfl | cases h) rfl) ?_
 (try dsimp)
 apply WM
 refine Wk [0, 4] [100900, 100901] ?_
 (try dsimp)
 apply Eso
 apply WM
 obtain ⟨x5, x5h, h⟩ := aG h
 refine W1 (dc1 hP (Dq F x4 x5 x5h)) ?_
 apply WM
 refine WQ qx ?_
 refine WQ qx ?_
 refine W1 dnv ?_
 refine W1 dst ?_
 apply WM
 refine Wk [0, 4, 5, 6] [5, 100900, 100901] ?_
 (try dsimp)
 apply bG
 apply Eso
 apply WM
 refine WQ qi ?_
 apply WM
 apply aF
 rfl
 intro b
 try rw [b]
 exact qm
 apply aF
 rfl
 intro b
 try rw [b]
 exact qap
 apply aF
 rfl
 intro b
 try rw [b]
 exact qlA
 obtain ⟨x6, x6h, h⟩ := aG h
 apply iM
 rfl
 intro hB; (try rw [hB]); exact dc1 hP (AP F x5.1.bH x6 (jA x6h (bt hB)))
 obtain ⟨g7, h⟩ := aQ h
 apply aF
 rfl
 intro b
 try rw [b]
 exact qis (g7 b)
 apply aF
 rfl
 intro b
 try rw [b]
 exact q1F 1 (g7 b) 0
 apply aF
 rfl
 intro b
 try rw [b]
 exact qi
 refine WQ qor ?_
 refine Wk [0, 4, 5, 33] [5, 100900, 100901] ?_
 (try dsimp)
 refine Ec h rfl (fun h hc8 => ?_) (fun h hc8 => ?_)
 apply Eso
 apply WM
 apply WM
 refine Wk [2, 3] [100900, 100901] ?_
 (try dsimp)
 apply bD
 cases h
 (try simp only [qt, qb, qn, qg])
 refine dN (xs := _) ⟨_, rfl, ⟨_, rfl, rfl⟩⟩ ?_
 show _ ∧ _
 exact ⟨rfl, ⟨(by first | rfl | simp [aj, au, ah]), ⟨(by first | rfl | simp [aj, au, ah]), trivial⟩⟩⟩
 apply bf
 refine aX [0, 4, 5] [5, 100900, 100901] ?_
 (try dsimp)
 obtain ⟨k9, k9d, h⟩ := eX h
 refine dJ (fun (i : Unit) => ⟨[(0, S.one (.ptr 100900 0)), (5, S.one (.ptr 5 0))], [(5, ⟨true, [vi x5.1.bH.ak, vi x5.1.bH.ay, vi x5.1.bH.aA, sl aK x5.1.ay, sl aS x5.1.aA]⟩), (100900, ⟨false, [.own 100901 0 a0.xl.length (some (18, 115)), vb a0.dD, vi a0.bC, vi a0.bP, sl aT a0.bQ]⟩), (100901, ⟨true, flat aN a0.xl⟩)]⟩) (fun i => k9 () = some r) (fun i h => ?_) ?_
 rw [k9d] at h; dsimp only at h
 (try dsimp)
 apply bG
 obtain ⟨g10, h⟩ := aQ h
 refine ig [0, 1, 2, 3, 4, 5, 7, 9, 10] ?_
 refine XQ 0 rfl rfl rfl qm ?_
 refine XQ 1 rfl rfl rfl qap ?_
 refine XQ 2 rfl rfl rfl qlA ?_
 refine XQ 3 rfl rfl rfl qap ?_
 refine XQ 4 rfl rfl rfl qap ?_
 refine XQ 5 rfl rfl rfl ql1 ?_
 refine X1 rfl (XK rfl (Zn (e := bU) (⟨(0 : Int), (⟨(0 : Int), (0 : Int), (⟨(0 : Int), (0 : Int), (0 : Int), (0 : Int)⟩ : V4 Int), (⟨(0 : Int), (0 : Int), (0 : Int)⟩ : dP), ([] : (List aB))⟩ : aV), ([] : (List bI))⟩ : aY) rfl rfl rfl rfl (fun _ => rfl) g10.1 g10.2.1 g10.2.2.1 g10.2.2.2 rfl) ?_)
 refine XQ 7 rfl rfl rfl qbu ?_
 refine X1 rfl (XK rfl dbx ?_)
 refine XQ 9 rfl rfl rfl qm ?_
 refine XQ 10 rfl rfl rfl qm ?_
 refine dL rfl ?_
 refine aX [2, 3] [78, 80, 100900, 100901] ?_
 (try dsimp)
 refine dR (rM (q := 80) (j := 5) (r := 6805) 1 3 rfl rfl rfl rfl) ?_
 (try dsimp)
 apply bD
 cases h
 (try simp only [qt, qb, qn, qg])
 refine dN (xs := _) ⟨_, rfl, ⟨_, rfl, rfl⟩⟩ ?_
 show _ ∧ _
 exact ⟨rfl, ⟨(by first | rfl | simp [aj, au, ah]), ⟨(by first | rfl | simp [aj, au, ah]), ⟨(by first | rfl | simp [aj, au, ah]), ⟨(by first | rfl | simp [aj, au, ah]), ⟨(by first | rfl | simp [aj, au, ah]), trivial⟩⟩⟩⟩⟩⟩
 apply Eso
 refine WQ qap ?_
 refine WQ qap ?_
 refine WQ ql1 ?_
 apply WM
 refine Wk [0, 4, 5, 36, 37] [5, 100900, 100901] ?_
 (try dsimp)
 apply bT
 (try dsimp)
 refine eG (fun (i : Int) => ⟨[(0, S.one (.ptr 100900 0)), (4, ss dh x4), (5, S.one (.ptr 5 0)), (36, zi_ x5.1.bH.ak), (37, zi_ i)], [(5, ⟨true, [vi x5.1.bH.ak, vi x5.1.bH.ay, vi x5.1.bH.aA, sl aK x5.1.ay, sl aS x5.1.aA]⟩), (100900, ⟨false, [.own 100901 0 a0.xl.length (some (18, 115)), vb a0.dD, vi a0.bC, vi a0.bP, sl aT a0.bQ]⟩), (100901, ⟨true, flat aN a0.xl⟩)]⟩) (fun n i => jV F x4 x5 k9 n i = some r) F (0 : Int) h ?_ (fun n i h => ?_)
 exact LB
 generalize i = v50 at h ⊢
 obtain _ | n51 := n
 cases h
 unfold jV at h
 (try dsimp)
 apply Eso
 refine WQ qi ?_
 apply bW
 (try dsimp)
 apply bG
 refine Ec h rfl (fun h ab5 => ?_) (fun h ab5 => ?_)
 apply bf
 refine aX [0, 4, 5, 36, 37] [5, 100900, 100901] ?_
 (try dsimp)
 apply bG
 apply bT
 apply Eso
 apply WM
 apply WM
 refine Wk [0, 4, 5, 7, 36, 37] [5, 100900, 100901] ?_
 (try dsimp)
 apply Eso
 refine WQ qap ?_
 refine WQ qlA ?_
 apply WM
 obtain ⟨x53, aeH, h⟩ := aG h
 refine W1 (dc1 hP (qE F x5.1.bH v50 x53 aeH)) ?_
 apply WM
 refine WQ qx ?_
 refine WQ qx ?_
 apply WM
 apply WM
 refine Wk [0, 4, 5, 8, 9, 36, 37] [5, 100900, 100901] ?_
 (try dsimp)
 obtain ⟨k65, aeI, h⟩ := eX h
 refine dJ (fun (i : Bool × Int × Int × Int × Int × Int × Int × Int × Int × Int × (List aB)) => ⟨[(0, S.one (.ptr 100900 0)), (4, ss dh x4), (5, S.one (.ptr 5 0)), (10, S.one (.ptr 10 0)), (11, zb_ i.1), (36, zi_ x5.1.bH.ak), (37, zi_ v50)], [(5, ⟨true, [vi x5.1.bH.ak, vi x5.1.bH.ay, vi x5.1.bH.aA, sl aK x5.1.ay, sl aS x5.1.aA]⟩), (10, ⟨true, [vi i.2.1, vu i.2.2.1, vu i.2.2.2.1, vu i.2.2.2.2.1, vu i.2.2.2.2.2.1, vu i.2.2.2.2.2.2.1, vi i.2.2.2.2.2.2.2.1, vu i.2.2.2.2.2.2.2.2.1, vi i.2.2.2.2.2.2.2.2.2.1, sl bM i.2.2.2.2.2.2.2.2.2.2]⟩), (100900, ⟨false, [.own 100901 0 a0.xl.length (some (18, 115)), vb a0.dD, vi a0.bC, vi a0.bP, sl aT a0.bQ]⟩), (100901, ⟨true, flat aN a0.xl⟩)]⟩) (fun i => k65 i.1 i.2.1 i.2.2.1 i.2.2.2.1 i.2.2.2.2.1 i.2.2.2.2.2.1 i.2.2.2.2.2.2.1 i.2.2.2.2.2.2.2.1 i.2.2.2.2.2.2.2.2.1 i.2.2.2.2.2.2.2.2.2.1 i.2.2.2.2.2.2.2.2.2.2 = some r) (fun i h => ?_) ?_
 obtain ⟨v54, v55, v56, v57, v58, v59, v60, v61, v62, v63, v64⟩ := i
 rw [aeI] at h; dsimp only at h
 (try dsimp)
 apply Eso
 apply WM
 refine WQ qno ?_
 apply WM
 apply aF
 rfl
 intro b
 try rw [b]
 exact qap
 apply aF
 rfl
 intro b
 try rw [b]
 exact ql1
 apply aF
 rfl
 intro b
 try rw [b]
 exact qi
 refine WQ qor ?_
 apply WM
 apply aF
 rfl
 intro b
 try rw [b]
 exact qap
 apply aF
 rfl
 intro b
 try rw [b]
 exact ql1
 apply aF
 rfl
 intro b
 try rw [b]
 exact qi
 refine WQ qor ?_
 refine Wk [0, 4, 5, 36, 37, 70] [5, 100900, 100901] ?_
 (try dsimp)
 refine Ec h rfl (fun h ab9 => ?_) (fun h ab9 => ?_)
 apply Eso
 apply WM
 apply WM
 refine Wk [2, 3] [100900, 100901] ?_
 (try dsimp)
 apply bD
 cases h
 (try simp only [qt, qb, qn, qg])
 refine dN (xs := _) ⟨_, rfl, ⟨_, rfl, rfl⟩⟩ ?_
 show _ ∧ _
 exact ⟨rfl, ⟨(by first | rfl | simp [aj, au, ah]), ⟨(by first | rfl | simp [aj, au, ah]), trivial⟩⟩⟩
 apply bf
 refine aX [0, 4, 5, 36, 37] [5, 100900, 100901] ?_
 (try dsimp)
 apply dO
 obtain ⟨g67, h⟩ := aQ h
 refine WQ (qad g67) ?_
 apply WM
 apply bW
 refine ⟨n51, (v50 + (1 : Int)), Nat.lt_succ_self _, h, ?_⟩
 exact LB
 obtain ⟨g68, h⟩ := aQ h
 obtain ⟨g69, h⟩ := aQ h
 obtain ⟨x70, ac3, h⟩ := aG h
 refine ig [0, 1, 2, 3, 4, 5, 6, 7, 9, 10] ?_
 refine XQ 0 rfl rfl rfl qap ?_
 refine XQ 1 rfl rfl rfl qlA ?_
 refine XQ 2 rfl rfl rfl qm ?_
 refine XQ 3 rfl rfl rfl qm ?_
 refine XQ 4 rfl rfl rfl qm ?_
 refine XQ 5 rfl rfl rfl qm ?_
 refine XQ 6 rfl rfl rfl (qad g68) ?_
 refine XQ 7 rfl rfl rfl (lS rfl (fun _ => rfl) rfl rfl g69.1 g69.2.1 g69.2.2) ?_
 (try dsimp)
 refine X2 rfl ?_ ?_
 refine XK rfl (dc1 hP (zU F x5.1.bH (cut x4 x53.1 (x53.1 + x53.2)) x70 ac3)) ?_
 refine XQ 9 rfl rfl rfl qm ?_
 refine XQ 10 rfl rfl rfl qx ?_
 refine X2 rfl ?_ ?_
 refine XK rfl ((qx).does) ?_
 refine X1 rfl (XK rfl dnv ?_)
 refine X1 rfl (XT rfl rfl dst ?_)
 refine X1 rfl (XT rfl rfl ((qm).does) ?_)
 refine dL rfl ?_
 refine ⟨(x70.2, x70.1.bK, x70.1.jD, x70.1.xL.c0, x70.1.xL.c1, x70.1.xL.c2, x70.1.xL.c3, x70.1.bJ.kP, x70.1.bJ.xW, x70.1.bJ.xN, x70.1.xW), h, ?_⟩
 exact LB
 refine XK rfl dnv ?_
 refine X2 rfl ?_ ?_
 refine XK rfl ((qx).does) ?_
 refine X1 rfl (XT rfl rfl dst ?_)
 refine X1 rfl (XT rfl rfl ((qm).does) ?_)
 refine dL rfl ?_
 refine ⟨(x70.2, x70.1.bK, x70.1.jD, x70.1.xL.c0, x70.1.xL.c1, x70.1.xL.c2, x70.1.xL.c3, x70.1.bJ.kP, x70.1.bJ.xW, x70.1.bJ.xN, x70.1.xW), h, ?_⟩
 exact LB
 refine XT rfl rfl dst ?_
 refine X1 rfl (XT rfl rfl ((qx).does) ?_)
 refine X1 rfl (XT rfl rfl ((qm).does) ?_)
 refine dL rfl ?_
 refine ⟨(x70.2, x70.1.bK, x70.1.jD, x70.1.xL.c0, x70.1.xL.c1, x70.1.xL.c2, x70.1.xL.c3, x70.1.bJ.kP, x70.1.bJ.xW, x70.1.bJ.xN, x70.1.xW), h, ?_⟩
 exact LB
 refine XK rfl dnv ?_
 refine X1 rfl (XK rfl (dc1 hP (zU F x5.1.bH (cut x4 x53.1 (x53.1 + x53.2)) x70 ac3)) ?_)
 refine XQ 9 rfl rfl rfl qm ?_
 refine XQ 10 rfl rfl rfl qx ?_
 refine X2 rfl ?_ ?_
 refine XK rfl ((qx).does) ?_
 refine X1 rfl (XT rfl rfl dst ?_)
 refine X1 rfl (XT rfl rfl ((qm).does) ?_)
 refine dL rfl ?_
 refine ⟨(x70.2, x70.1.bK, x70.1.jD, x70.1.xL.c0, x70.1.xL.c1, x70.1.xL.c2, x70.1.xL.c3, x70.1.bJ.kP, x70.1.bJ.xW, x70.1.bJ.xN, x70.1.xW), h, ?_⟩
 exact LB
 refine XT rfl rfl dst ?_
 refine X1 rfl (XT rfl rfl ((qx).does) ?_)
 refine X1 rfl (XT rfl rfl ((qm).does) ?_)
 refine dL rfl ?_
 refine ⟨(x70.2, x70.1.bK, x70.1.jD, x70.1.xL.c0, x70.1.xL.c1, x70.1.xL.c2, x70.1.xL.c3, x70.1.bJ.kP, x70.1.bJ.xW, x70.1.bJ.xN, x70.1.xW), h, ?_⟩
 exact LB
 apply gy
 refine ⟨(), h, ?_⟩
 exact LB
def JC : cO := (q [o (.mv cp) 2, o (.mv (ci 0)) 3] (.seq (q [w 9 0, o (.eqP nn 9 cp) 10] (.cond 10 (q [o (.mv cp) 2, o (.mv (ci 1)) 3] .ret) .skip)) (.seq (q [w 11 0, o (.call 56 [11]) 12] (.cond 12 (q [o (.mv cp) 2, o (.mv (ci 12)) 3] .ret) .skip)) (q [w 14 0, o (.call 18 [14]) 15, o (.call 66 [15]) 16, w 13 16, o (.ext 0 13) 17, o (.ext 1 13) 18, o (.jm [zi, zi, zi, .nil, .nil, .nil, zu, zb]) 4, n_ (.store 8 4 17), w 5 18] (.seq (q [w 19 5, o (.un .not 19) 20] (.cond 20 (q [o (.mv cp) 2, o (.mv (ci 2)) 3] .ret) .skip)) (.seq (q [o (.load yy 8 4) 21, o (.call 67 [21]) 22, o (.len nn 22) 23, o (.mv (ci 0)) 24] (.block 0 (.loop (q [o (.bin .lss 3 24 23) 25] (.seq (.cond 25 .skip (.exit 0)) (.seq (.block 1 (q [o (.fH 1 22 24) 26, o (.load nn 1 26) 27, w 7 27] (q [w 28 0, w 29 7, o (.call 68 [28, 29]) 30, w 8 30] (q [w 31 8, o (.bin .neq 32 31 (ci 0)) 32] (.cond 32 (q [w 33 8, o (.mv cp) 2, w 3 33] .ret) .skip))))) (.ops [o (.bin .add 3 24 (ci 1)) 34, w 24 34]))))))) (q [w 35 0, o (.call 24 [35]) 36, o (.ext 0 36) 37, o (.ext 1 36) 38, w 2 37, w 3 38] .ret)))))))
theorem TF : Fits Tryz.prog 32 1 JC [(.tmp 2), (.tmp 3)] := fk Tryz.func32
theorem uy (F : Nat) (a0 : aC) (r : aC × Option aW × Int) (h : lY F a0 = some r) : AC Tryz.prog 32 [S.one (.ptr 100900 0)] [(100900, ⟨false, [.own 100901 0 a0.xl.length (some (18, 115)), vb a0.dD, vi a0.bC, vi a0.bP, sl aT a0.bQ]⟩), (100901, ⟨true, flat aN a0.xl⟩)] (fun x s' => Va (r.2.1) (x = S.tup [S.one (.v (.pointer none)), (zi_ r.2.2)] ∧ l9 s' [(100900, ⟨false, [.own 100901 0 r.1.xl.length (some (18, 115)), vb r.1.dD, vi r.1.bC, vi r.1.bP, sl aT r.1.bQ]⟩), (100901, ⟨true, flat aN r.1.xl⟩)]) (fun G => x = S.tup [S.one (.ptr 7361 0), (zi_ r.2.2)] ∧ l9 s' [(7360, ⟨true, flat bU G.xw⟩), (7361, ⟨false, [.ptr 100900 0, vi G.dB.ak, vi G.dB.ay, vi G.dB.aA, .own 7360 0 G.xw.length (some (12, 101)), .own 7362 0 G.cu.length (some (1, 3)), vb G.fP]⟩), (7362, ⟨true, flat aT G.cu⟩), (100900, ⟨false, [.own 100901 0 r.1.xl.length (some (18, 115)), vb r.1.dD, vi r.1.bC, vi r.1.bP, sl aT r.1.bQ]⟩), (100901, ⟨true, flat aN r.1.xl⟩)])) := by
 unfold lY at h
 refine lN TF rfl ?_
 intro C hP
 unfold JC; dsimp
 apply Eso
 apply WM
 apply WM
 refine Wk [0] [100900, 100901] ?_
 (try dsimp)
 apply bG
 apply Eso
 apply WM
 refine WQ (qF rfl rfl rfl) ?_
 refine Wk [0, 10] [100900, 100901] ?_
 (try dsimp)
 refine FC rfl (fun hc1 => ?_) (fun hc1 => ?_)
 cases hc1
 apply bf
 refine aX [0] [100900, 100901] ?_
 (try dsimp)
 apply bG
 apply Eso
 apply WM
 obtain ⟨x2, x2h, h⟩ := aG h
 refine W1 (aO [] false hP (zC F a0 x2 x2h) rfl ⟨rfl, rfl, trivial⟩ rfl rfl rfl rfl rfl (fun h => by first | rfl | cases h) rfl) ?_
 (try dsimp)
 refine Wk [0, 12] [100900, 100901] ?_
 (try dsimp)
 refine Ec h rfl (fun h hc3 => ?_) (fun h hc3 => ?_)
 apply Eso
 apply WM
 apply WM
 refine Wk [2, 3] [100900, 100901] ?_
 (try dsimp)
 apply bD
 cases h
 (try simp only [qt, qb, qn, qg])
 refine dN (xs := _) ⟨_, rfl, ⟨_, rfl, rfl⟩⟩ ?_
 show _ ∧ _
 exact ⟨rfl, ⟨(by first | rfl | simp [aj, au, ah]), ⟨(by first | rfl | simp [aj, au, ah]), trivial⟩⟩⟩
 apply bf
 refine aX [0] [100900, 100901] ?_
 (try dsimp)
 apply Eso
 apply WM
 obtain ⟨x4, x4h, h⟩ := aG h
 refine W1 (aO [] false hP (qO F a0 x4 x4h) rfl ⟨rfl, rfl, trivial⟩ rfl rfl rfl rfl rfl (fun h => by first | rfl | cases h) rfl) ?_
 (try dsimp)
 obtain ⟨x5, x5h, h⟩ := aG h
 refine W1 (dc1 hP (Jw F x4 x5 x5h)) ?_
 apply WM
 refine WQ qx ?_
 refine WQ qx ?_
 refine W1 dnv ?_
 refine W1 dst ?_
 apply WM
 refine Wk [0, 4, 5] [4, 100900, 100901] ?_
 (try dsimp)
 apply bG
 apply Eso
 apply WM
 refine WQ qno ?_
 refine Wk [0, 4, 20] [4, 100900, 100901] ?_
 (try dsimp)
 refine Ec h rfl (fun h hc6 => ?_) (fun h hc6 => ?_)
 apply Eso
 apply WM
 apply WM
 refine Wk [2, 3] [100900, 100901] ?_
 (try dsimp)
 apply bD
 cases h
 (try simp only [qt, qb, qn, qg])
 refine dN (xs := _) ⟨_, rfl, ⟨_, rfl, rfl⟩⟩ ?_
 show _ ∧ _
 exact ⟨rfl, ⟨(by first | rfl | simp [aj, au, ah]), ⟨(by first | rfl | simp [aj, au, ah]), trivial⟩⟩⟩
 apply bf
 refine aX [0, 4] [4, 100900, 100901] ?_
 (try dsimp)
 obtain ⟨k12, U9, h⟩ := eX h
 refine dJ (fun (i : (List bV) × Bool × Int × Int × (List Int)) => ⟨[(0, S.one (.ptr 100900 0))], [(100900, ⟨false, [.own 100901 0 i.1.length (some (18, 115)), vb i.2.1, vi i.2.2.1, vi i.2.2.2.1, sl aT i.2.2.2.2]⟩), (100901, ⟨true, flat aN i.1⟩)]⟩) (fun i => k12 i.1 i.2.1 i.2.2.1 i.2.2.2.1 i.2.2.2.2 = some r) (fun i h => ?_) ?_
 obtain ⟨v7, v8, v9, v10, v11⟩ := i
 rw [U9] at h; dsimp only at h
 (try dsimp)
 apply Eso
 apply WM
 obtain ⟨x13, Io, h⟩ := aG h
 rcases yU h with ⟨acd, h⟩ | ⟨o14, acd, h⟩
 refine W1 (aO [] false hP (yV acd (MX F (⟨v7, v8, v9, v10, v11⟩ : aC) x13 Io)) rfl ⟨rfl, rfl, trivial⟩ rfl rfl rfl rfl rfl (fun h => by first | rfl | cases h) rfl) ?_
 (try dsimp)
 refine WQ qx ?_
 refine WQ qx ?_
 apply WM
 apply WM
 refine Wk [2, 3] [100900, 100901] ?_
 (try dsimp)
 apply bD
 cases h
 (try simp only [qt, qb, qn, qg])
 refine dN (xs := _) ⟨_, rfl, ⟨_, rfl, rfl⟩⟩ ?_
 show _ ∧ _
 exact ⟨rfl, ⟨(by first | rfl | simp [aj, au, ah]), ⟨(by first | rfl | simp [aj, au, ah]), trivial⟩⟩⟩
 refine W1 (aO [(78, 7360), (80, 7361), (6805, 7362)] false hP (yX acd (MX F (⟨v7, v8, v9, v10, v11⟩ : aC) x13 Io)) rfl ⟨rfl, rfl, trivial⟩ rfl rfl rfl rfl rfl (fun h => by first | rfl | cases h) rfl) ?_
 (try dsimp)
 refine WQ qx ?_
 refine WQ qx ?_
 apply WM
 apply WM
 refine Wk [2, 3] [7360, 7361, 7362, 100900, 100901] ?_
 (try dsimp)
 apply bD
 cases h
 (try simp only [qt, qb, qn, qg])
 refine dN (xs := _) ⟨_, rfl, ⟨_, rfl, rfl⟩⟩ ?_
 show _ ∧ _
 exact ⟨rfl, ⟨(by first | rfl | simp [aj, au, ah]), ⟨(by first | rfl | simp [aj, au, ah]), ⟨(by first | rfl | simp [aj, au, ah]), ⟨(by first | rfl | simp [aj, au, ah]), ⟨(by first | rfl | simp [aj, au, ah]), trivial⟩⟩⟩⟩⟩⟩
 apply Eso
 refine WQ qlA ?_
 obtain ⟨x15, SL, h⟩ := aG h
 refine W1 (dc1 hP (QF F x5.1 x15 SL)) ?_
 refine WQ qls ?_
 apply WM
 refine Wk [0, 22, 23, 24] [100900, 100901] ?_
 (try dsimp)
 apply bT
 (try dsimp)
 refine eG (fun (i : Int × (List bV) × Bool × Int × Int × (List Int)) => ⟨[(0, S.one (.ptr 100900 0)), (22, ss iC x15), (23, (zi_ ((x15.length : Nat) : Int))), (24, zi_ i.1)], [(100900, ⟨false, [.own 100901 0 i.2.1.length (some (18, 115)), vb i.2.2.1, vi i.2.2.2.1, vi i.2.2.2.2.1, sl aT i.2.2.2.2.2]⟩), (100901, ⟨true, flat aN i.2.1⟩)]⟩) (fun n i => lX F k12 x15 n i.1 i.2.1 i.2.2.1 i.2.2.2.1 i.2.2.2.2.1 i.2.2.2.2.2 = some r) F ((0 : Int), a0.xl, a0.dD, a0.bC, a0.bP, a0.bQ) h ?_ (fun n i h => ?_)
 exact LB
 obtain ⟨v32, v33, v34, v35, v36, v37⟩ := i; dsimp only at h
 obtain _ | n38 := n
 cases h
 unfold lX at h
 (try dsimp)
 apply Eso
 refine WQ qi ?_
 apply bW
 (try dsimp)
 apply bG
 refine Ec h rfl (fun h hc39 => ?_) (fun h hc39 => ?_)
 apply bf
 refine aX [0, 22, 23, 24] [100900, 100901] ?_
 (try dsimp)
 apply bG
 apply bT
 apply Eso
 obtain ⟨g40, h⟩ := aQ h
 refine WQ (qis g40) ?_
 refine WQ (q1F 1 g40 0) ?_
 apply WM
 refine Wk [0, 7, 22, 23, 24] [100900, 100901] ?_
 (try dsimp)
 apply Eso
 apply WM
 apply WM
 obtain ⟨x41, Y7, h⟩ := aG h
 refine W1 (aO [] false hP (TD F (⟨v33, v34, v35, v36, v37⟩ : aC) (nth x15 v32) x41 Y7) rfl ⟨rfl, rfl, trivial⟩ rfl rfl rfl rfl rfl (fun h => by first | rfl | cases h) rfl) ?_
 (try dsimp)
 apply WM
 refine Wk [0, 8, 22, 23, 24] [100900, 100901] ?_
 (try dsimp)
 apply Eso
 apply WM
 refine WQ qi ?_
 refine Wk [0, 8, 22, 23, 24, 32] [100900, 100901] ?_
 (try dsimp)
 refine Ec h rfl (fun h abP => ?_) (fun h abP => ?_)
 apply Eso
 apply WM
 apply WM
 apply WM
 refine Wk [2, 3] [100900, 100901] ?_
 (try dsimp)
 apply bD
 cases h
 (try simp only [qt, qb, qn, qg])
 refine dN (xs := _) ⟨_, rfl, ⟨_, rfl, rfl⟩⟩ ?_
 show _ ∧ _
 exact ⟨rfl, ⟨(by first | rfl | simp [aj, au, ah]), ⟨(by first | rfl | simp [aj, au, ah]), trivial⟩⟩⟩
 apply bf
 refine aX [0, 22, 23, 24] [100900, 100901] ?_
 (try dsimp)
 apply dO
 obtain ⟨g43, h⟩ := aQ h
 refine WQ (qad g43) ?_
 apply WM
 apply bW
 refine ⟨n38, ((v32 + (1 : Int)), x41.1.xl, x41.1.dD, x41.1.bC, x41.1.bP, x41.1.bQ), Nat.lt_succ_self _, h, ?_⟩
 exact LB
 apply gy
 refine ⟨(v33, v34, v35, v36, v37), h, ?_⟩
 exact LB
def BJ : cO := (q [o (.mv (ci 0)) 4] (.seq (.block 0 (q [w 6 0, o (.dG 6) 7, o (.add 0 7) 8, o (.load nn 1 8) 9, o (.call 56 [9]) 10, w 11 10, g_ (.mv 0) 12 11 nn, g_ (.dG 12) 13 11 nn, g_ (.add 6 13) 14 11 nn, g_ (.load nn 1 14) 15 11 nn, o (.pick 11 (cb yy) 15) 16, w 5 16] (.cond 5 (q [o (.mv (ci 12)) 4] .ret) (q [w 18 1, o (.bin .lss 3 18 (ci 0)) 19, w 20 19, g_ (.mv 1) 21 20 nn, g_ (.mv 0) 22 20 nn, g_ (.dG 22) 23 20 nn, g_ (.add 4 23) 24 20 nn, g_ (.load nn 1 24) 25 20 nn, g_ (.len nn 25) 26 20 nn, g_ (.bin .geq 3 21 26) 27 20 nn, o (.pick 20 (cb yy) 27) 28, w 17 28] (.cond 17 (q [o (.mv (ci 1)) 4] .ret) .skip))))) (q [o (.mv (ci 0)) 4] .ret)))
theorem J7 : Fits Tryz.prog 43 2 BJ [(.tmp 4)] := fk Tryz.func43
theorem tH (F : Nat) (a0 : aW) (a1 : Int) (r : Int) (h : jy F a0 a1 = some r) : AC Tryz.prog 43 [S.one (.ptr 100900 0), (zi_ a1)] [(904, ⟨true, flat aT a0.cu⟩), (100900, ⟨false, [.ptr 100950 0, vi a0.dB.ak, vi a0.dB.ay, vi a0.dB.aA, .own 100903 0 a0.xw.length (some (12, 101)), .own 904 0 a0.cu.length (some (1, 3)), vb a0.fP]⟩), (100903, ⟨true, flat bU a0.xw⟩), (100950, ⟨false, [.own 100951 0 a0.xm.xl.length (some (18, 115)), vb a0.xm.dD, vi a0.xm.bC, vi a0.xm.bP, sl aT a0.xm.bQ]⟩), (100951, ⟨true, flat aN a0.xm.xl⟩)] (fun x s' => x = (zi_ r) ∧ l9 s' [(904, ⟨true, flat aT a0.cu⟩), (100900, ⟨false, [.ptr 100950 0, vi a0.dB.ak, vi a0.dB.ay, vi a0.dB.aA, .own 100903 0 a0.xw.length (some (12, 101)), .own 904 0 a0.cu.length (some (1, 3)), vb a0.fP]⟩), (100903, ⟨true, flat bU a0.xw⟩), (100950, ⟨false, [.own 100951 0 a0.xm.xl.length (some (18, 115)), vb a0.xm.dD, vi a0.xm.bC, vi a0.xm.bP, sl aT a0.xm.bQ]⟩), (100951, ⟨true, flat aN a0.xm.xl⟩)]) := by
 unfold jy at h
 refine lN J7 rfl ?_
 intro C hP
 unfold BJ; dsimp
 apply Eso
 apply WM
 refine Wk [0, 1] [904, 100900, 100903, 100950, 100951] ?_
 (try dsimp)
 apply bG
 apply bT
 apply Eso
 apply WM
 refine WQ qnc ?_
 refine WQ qap ?_
 refine WQ ql1 ?_
 obtain ⟨x1, x1h, h⟩ := aG h
 refine W1 (aO [(100900, 100950), (100901, 100951)] false hP (zC F a0.xm x1 x1h) rfl ⟨rfl, rfl, trivial⟩ rfl rfl rfl rfl rfl (fun h => by first | rfl | cases h) rfl) ?_
 (try dsimp)
 apply WM
 apply aF
 rfl
 intro b
 try rw [b]
 exact qm
 apply aF
 rfl
 intro b
 try rw [b]
 exact qnc
 apply aF
 rfl
 intro b
 try rw [b]
 exact qap
 apply aF
 rfl
 intro b
 try rw [b]
 exact ql1
 refine WQ qor ?_
 apply WM
 refine Wk [0, 1, 5] [904, 100900, 100903, 100950, 100951] ?_
 (try dsimp)
 refine Ec h rfl (fun h hc2 => ?_) (fun h hc2 => ?_)
 apply Eso
 apply WM
 refine Wk [4] [904, 100900, 100903, 100950, 100951] ?_
 (try dsimp)
 apply bD
 cases h
 (try simp only [qt, qb, qn, qg])
 refine dN (xs := _) ⟨_, rfl, rfl⟩ ?_
 show _ ∧ _
 exact ⟨rfl, ⟨(by first | rfl | simp [aj, au, ah]), ⟨(by first | rfl | simp [aj, au, ah]), ⟨(by first | rfl | simp [aj, au, ah]), ⟨(by first | rfl | simp [aj, au, ah]), ⟨(by first | rfl | simp [aj, au, ah]), trivial⟩⟩⟩⟩⟩⟩
 apply Eso
 apply WM
 refine WQ qi ?_
 apply WM
 apply aF
 rfl
 intro b
 try rw [b]
 exact qm
 apply aF
 rfl
 intro b
 try rw [b]
 exact qm
 apply aF
 rfl
 intro b
 try rw [b]
 exact qnc
 apply aF
 rfl
 intro b
 try rw [b]
 exact qap
 apply aF
 rfl
 intro b
 try rw [b]
 exact ql1
 apply aF
 rfl
 intro b
 try rw [b]
 exact jg rfl rfl
 apply aF
 rfl
 intro b
 try rw [b]
 exact qi
 refine WQ qor ?_
 apply WM
 refine Wk [17] [904, 100900, 100903, 100950, 100951] ?_
 (try dsimp)
 refine Ec h rfl (fun h hc3 => ?_) (fun h hc3 => ?_)
 apply Eso
 apply WM
 refine Wk [4] [904, 100900, 100903, 100950, 100951] ?_
 (try dsimp)
 apply bD
 cases h
 (try simp only [qt, qb, qn, qg])
 refine dN (xs := _) ⟨_, rfl, rfl⟩ ?_
 show _ ∧ _
 exact ⟨rfl, ⟨(by first | rfl | simp [aj, au, ah]), ⟨(by first | rfl | simp [aj, au, ah]), ⟨(by first | rfl | simp [aj, au, ah]), ⟨(by first | rfl | simp [aj, au, ah]), ⟨(by first | rfl | simp [aj, au, ah]), trivial⟩⟩⟩⟩⟩⟩
 apply bf
 refine aX [] [904, 100900, 100903, 100950, 100951] ?_
 (try dsimp)
 apply Eso
 apply WM
 apply bW
 (try dsimp)
 apply bD
 cases h
 (try simp only [qt, qb, qn, qg])
 refine dN (xs := _) ⟨_, rfl, rfl⟩ ?_
 show _ ∧ _
 exact ⟨rfl, ⟨(by first | rfl | simp [aj, au, ah]), ⟨(by first | rfl | simp [aj, au, ah]), ⟨(by first | rfl | simp [aj, au, ah]), ⟨(by first | rfl | simp [aj, au, ah]), ⟨(by first | rfl | simp [aj, au, ah]), trivial⟩⟩⟩⟩⟩⟩
def zW : cO := (q [o (.jm [zi, zu, zu, zu, zu, zu, zi, zu, zi, .nil]) 6, o (.mv (cb nn)) 7] (q [w 11 0, o (.dG 11) 12, o (.add 1 12) 13, o (.load yy 3 13) 14, w 15 2, o (.call 39 [14, 15]) 16, w 10 16, o (.ext 0 10) 17, o (.ext 1 10) 18, w 8 17, w 9 18] (.seq (.draw [((w 19 0), []), ((o (.dG 19) 20), [0]), ((o (.add 1 20) 21), [1]), ((o (.load yy 3 21) 22), [2]), ((w 23 1), []), ((w 24 8), []), ((w 25 8), []), ((w 26 9), []), ((o (.bin .add 3 25 26) 27), [6, 7]), ((o (.slc 1 23 (.some 24) (.some 27) .none) 28), [4, 5, 8]), ((o (.call 58 [22, 28]) 29), [3, 9]), ((o (.ext 0 29) 30), [10]), ((o (.ext 1 29) 31), [10]), ((n_ (.store 10 6 30)), [11, 10, 0, 1, 2, 3, 4, 5, 6, 7, 8, 9, 10, 11, 12]), ((w 7 31), [12, 13, 0, 1, 2, 3, 4, 5, 6, 7, 8, 9, 10, 11, 12, 13])]) .ret)))
theorem Iq : Fits Tryz.prog 49 3 zW [(.cell true 10 6), (.tmp 7)] := fk Tryz.func49
theorem zX (F : Nat) (a0 : aW) (a1 : (List Int)) (a2 : Int) (r : aV × Bool) (h : nI F a0 a1 a2 = some r) : AC Tryz.prog 49 [S.one (.ptr 100900 0), ss dh a1, (zi_ a2)] [(904, ⟨true, flat aT a0.cu⟩), (100900, ⟨false, [.ptr 100950 0, vi a0.dB.ak, vi a0.dB.ay, vi a0.dB.aA, .own 100903 0 a0.xw.length (some (12, 101)), .own 904 0 a0.cu.length (some (1, 3)), vb a0.fP]⟩), (100903, ⟨true, flat bU a0.xw⟩), (100950, ⟨false, [.own 100951 0 a0.xm.xl.length (some (18, 115)), vb a0.xm.dD, vi a0.xm.bC, vi a0.xm.bP, sl aT a0.xm.bQ]⟩), (100951, ⟨true, flat aN a0.xm.xl⟩)] (fun x s' => x = S.tup [S.agg [vi r.1.bK, vu r.1.jD, vu r.1.xL.c0, vu r.1.xL.c1, vu r.1.xL.c2, vu r.1.xL.c3, vi r.1.bJ.kP, vu r.1.bJ.xW, vi r.1.bJ.xN, sl bM r.1.xW], (zb_ r.2)] ∧ l9 s' [(904, ⟨true, flat aT a0.cu⟩), (100900, ⟨false, [.ptr 100950 0, vi a0.dB.ak, vi a0.dB.ay, vi a0.dB.aA, .own 100903 0 a0.xw.length (some (12, 101)), .own 904 0 a0.cu.length (some (1, 3)), vb a0.fP]⟩), (100903, ⟨true, flat bU a0.xw⟩), (100950, ⟨false, [.own 100951 0 a0.xm.xl.length (some (18, 115)), vb a0.xm.dD, vi a0.xm.bC, vi a0.xm.bP, sl aT a0.xm.bQ]⟩), (100951, ⟨true, flat aN a0.xm.xl⟩)]) := by
 unfold nI at h
 refine lN Iq rfl ?_
 intro C hP
 unfold zW; dsimp
 apply Eso
 refine W1 dnv ?_
 apply WM
 refine Wk [0, 1, 2, 6] [6, 904, 100900, 100903, 100950, 100951] ?_
 apply Eso
 apply WM
 refine WQ qnc ?_
 refine WQ qap ?_
 refine WQ qlA ?_
 apply WM
 obtain ⟨x1, x1h, h⟩ := aG h
 refine W1 (dc1 hP (qE F a0.dB a2 x1 x1h)) ?_
 apply WM
 refine WQ qx ?_
 refine WQ qx ?_
 apply WM
 apply WM
 refine Wk [0, 1, 6, 8, 9] [6, 904, 100900, 100903, 100950, 100951] ?_
 apply bG
 obtain ⟨g2, h⟩ := aQ h
 obtain ⟨g3, h⟩ := aQ h
 obtain ⟨x4, x4h, h⟩ := aG h
 refine ig [0, 1, 2, 3, 4, 5, 6, 7, 8, 9, 11, 12] ?_
 refine XQ 0 rfl rfl rfl qm ?_
 refine XQ 1 rfl rfl rfl qnc ?_
 refine XQ 2 rfl rfl rfl qap ?_
 refine XQ 3 rfl rfl rfl qlA ?_
 refine XQ 4 rfl rfl rfl qm ?_
 refine XQ 5 rfl rfl rfl qm ?_
 refine XQ 6 rfl rfl rfl qm ?_
 refine XQ 7 rfl rfl rfl qm ?_
 refine XQ 8 rfl rfl rfl (qad g2) ?_
 refine XQ 9 rfl rfl rfl (lS rfl (fun _ => rfl) rfl rfl g3.1 g3.2.1 g3.2.2) ?_
 refine X1 rfl (XK rfl (dc1 hP (zU F a0.dB (cut a1 x1.1 (x1.1 + x1.2)) x4 x4h)) ?_)
 refine XQ 11 rfl rfl rfl qx ?_
 refine XQ 12 rfl rfl rfl qx ?_
 refine X1 rfl (XT rfl rfl dst ?_)
 refine X1 rfl (XT rfl rfl ((qm).does) ?_)
 refine dL rfl ?_
 refine aX [6, 7] [6, 904, 100900, 100903, 100950, 100951] ?_
 apply bD
 cases h
 (try simp only [qt, qb, qn, qg])
 refine dN (xs := _) ⟨_, _, uQ rfl (by simp), rfl, rfl, ⟨_, rfl, rfl⟩⟩ ?_
 show _ ∧ _
 exact ⟨rfl, ⟨(by first | rfl | simp [aj, au, ah]), ⟨(by first | rfl | simp [aj, au, ah]), ⟨(by first | rfl | simp [aj, au, ah]), ⟨(by first | rfl | simp [aj, au, ah]), ⟨(by first | rfl | simp [aj, au, ah]), trivial⟩⟩⟩⟩⟩⟩
end Go.V.P
