/- Walks: each function does what its model says. No premises. -/
import Derived.Test.YtopidcbmhdeclaaGreatP5
set_option linter.unusedVariables false
set_option linter.unusedSimpArgs false
set_option maxRecDepth 20000
set_option maxHeartbeats 4000000
namespace Go.V.P
open Go.V Go.Proofs
def y5 : cO := (q [o (.jm [zi, zi, zi, .nil, .nil]) 2, o (.mv (ci 0)) 3] (.seq (q [w 9 0, o (.call 43 [9, ci 0]) 10, w 4 10] (q [w 11 4, o (.bin .neq 32 11 (ci 0)) 12] (.cond 12 (q [o (.build [zi, zi, zi, .nil, .nil] []) 13, w 14 4, n_ (.store 5 2 13), w 3 14] .ret) .skip))) (q [w 15 0, o (.dG 15) 16, o (.add 0 16) 17, o (.load nn 1 17) 18, o (.call 18 [18]) 19, w 5 19] (.seq (q [w 20 0, o (.dG 20) 21, o (.add 4 21) 22, o (.load nn 1 22) 23, o (.len nn 23) 24, o (.mv (ci 0)) 25] (.block 0 (.loop (q [o (.bin .lss 3 25 24) 26] (.seq (.cond 26 .skip (.exit 0)) (.seq (.block 1 (q [w 27 25, w 6 27] (q [w 29 0, w 30 5, w 31 6, o (.call 49 [29, 30, 31]) 32, w 28 32, o (.ext 0 28) 33, o (.ext 1 28) 34, o (.jm [zi, zu, zu, zu, zu, zu, zi, zu, zi, .nil]) 7, n_ (.store 10 7 33), w 8 34] (q [w 35 8, w 36 35, g_ (.add 0 7) 37 36 yy, g_ (.load nn 1 37) 38 36 yy, g_ (.bin .eql 3 38 (ci 2)) 39 36 yy, o (.pick 36 39 (cb nn)) 40] (.cond 40 (.ops [w 41 5, o (.add 9 7) 42, o (.load nn 1 42) 43, o (.call 59 [41, 43]) 44, w 5 44]) .skip))))) (.ops [o (.bin .add 3 25 (ci 1)) 45, w 25 45]))))))) (q [w 46 5, o (.call 57 [46]) 47, o (.ext 0 47) 48, o (.ext 1 47) 49, n_ (.store 5 2 48), w 3 49] .ret)))))
theorem Hl : Fits Tryz.prog 26 1 y5 [(.cell true 5 2), (.tmp 3)] := fk Tryz.func26
theorem y7 (F : Nat) (a0 : aW) (r : aI × Int) (h : mO F a0 = some r) : AC Tryz.prog 26 [S.one (.ptr 100900 0)] [(904, ⟨true, flat aT a0.cu⟩), (100900, ⟨false, [.ptr 100950 0, vi a0.dB.ak, vi a0.dB.ay, vi a0.dB.aA, .own 100903 0 a0.xw.length (some (12, 101)), .own 904 0 a0.cu.length (some (1, 3)), vb a0.fP]⟩), (100903, ⟨true, flat bU a0.xw⟩), (100950, ⟨false, [.own 100951 0 a0.xm.xl.length (some (18, 115)), vb a0.xm.dD, vi a0.xm.bC, vi a0.xm.bP, sl aT a0.xm.bQ]⟩), (100951, ⟨true, flat aN a0.xm.xl⟩)] (fun x s' => x = S.tup [S.agg [vi r.1.bH.ak, vi r.1.bH.ay, vi r.1.bH.aA, sl aK r.1.ay, sl aS r.1.aA], (zi_ r.2)] ∧ l9 s' [(904, ⟨true, flat aT a0.cu⟩), (100900, ⟨false, [.ptr 100950 0, vi a0.dB.ak, vi a0.dB.ay, vi a0.dB.aA, .own 100903 0 a0.xw.length (some (12, 101)), .own 904 0 a0.cu.length (some (1, 3)), vb a0.fP]⟩), (100903, ⟨true, flat bU a0.xw⟩), (100950, ⟨false, [.own 100951 0 a0.xm.xl.length (some (18, 115)), vb a0.xm.dD, vi a0.xm.bC, vi a0.xm.bP, sl aT a0.xm.bQ]⟩), (100951, ⟨true, flat aN a0.xm.xl⟩)]) := by
 unfold mO at h
 refine lN Hl rfl ?_
 intro C hP
 unfold y5; dsimp
 apply Eso
 refine W1 dnv ?_
 apply WM
 refine Wk [0, 2] [2, 904, 100900, 100903, 100950, 100951] ?_
 (try dsimp)
 apply bG
 apply Eso
 apply WM
 obtain ⟨x1, x1h, h⟩ := aG h
 refine W1 (aO [] false hP (tH F a0 (0 : Int) x1 x1h) rfl ⟨rfl, rfl, rfl, rfl, rfl, trivial⟩ rfl rfl rfl rfl rfl (fun h => by first | rfl | cases h) rfl) ?_
 (try dsimp)
 apply WM
 refine Wk [0, 2, 4] [2, 904, 100900, 100903, 100950, 100951] ?_
 (try dsimp)
 apply Eso
 apply WM
 refine WQ qi ?_
 refine Wk [0, 2, 4, 12] [2, 904, 100900, 100903, 100950, 100951] ?_
 (try dsimp)
 refine Ec h rfl (fun h hc2 => ?_) (fun h hc2 => ?_)
 apply Eso
 refine WQ qbu ?_
 apply WM
 refine W1 dst ?_
 apply WM
 refine Wk [2, 3] [2, 904, 100900, 100903, 100950, 100951] ?_
 (try dsimp)
 refine dR (ni (q := 2) rfl).b ?_
 (try dsimp)
 apply bD
 cases h
 (try simp only [qt, qb, qn, qg])
 refine dN (xs := _) ⟨_, _, uQ rfl (by simp), rfl, rfl, ⟨_, rfl, rfl⟩⟩ ?_
 show _ ∧ _
 exact ⟨rfl, ⟨(by first | rfl | simp [aj, au, ah]), ⟨(by first | rfl | simp [aj, au, ah]), ⟨(by first | rfl | simp [aj, au, ah]), ⟨(by first | rfl | simp [aj, au, ah]), ⟨(by first | rfl | simp [aj, au, ah]), trivial⟩⟩⟩⟩⟩⟩
 apply bf
 refine aX [0, 2] [2, 904, 100900, 100903, 100950, 100951] ?_
 (try dsimp)
 apply Eso
 apply WM
 refine WQ qnc ?_
 refine WQ qap ?_
 refine WQ ql1 ?_
 obtain ⟨x3, x3h, h⟩ := aG h
 refine W1 (aO [(100900, 100950), (100901, 100951)] false hP (qO F a0.xm x3 x3h) rfl ⟨rfl, rfl, trivial⟩ rfl rfl rfl rfl rfl (fun h => by first | rfl | cases h) rfl) ?_
 (try dsimp)
 apply WM
 refine Wk [0, 2, 5] [2, 904, 100900, 100903, 100950, 100951] ?_
 (try dsimp)
 obtain ⟨k5, k5d, h⟩ := eX h
 refine dJ (fun (i : (List Int)) => ⟨[(2, S.one (.ptr 2 0)), (5, ss dh i)], [(2, ⟨true, [vi (0 : Int), vi (0 : Int), vi (0 : Int), .nil, .nil]⟩), (904, ⟨true, flat aT a0.cu⟩), (100900, ⟨false, [.ptr 100950 0, vi a0.dB.ak, vi a0.dB.ay, vi a0.dB.aA, .own 100903 0 a0.xw.length (some (12, 101)), .own 904 0 a0.cu.length (some (1, 3)), vb a0.fP]⟩), (100903, ⟨true, flat bU a0.xw⟩), (100950, ⟨false, [.own 100951 0 a0.xm.xl.length (some (18, 115)), vb a0.xm.dD, vi a0.xm.bC, vi a0.xm.bP, sl aT a0.xm.bQ]⟩), (100951, ⟨true, flat aN a0.xm.xl⟩)]⟩) (fun i => k5 i = some r) (fun i h => ?_) ?_
 let iv := i; change k5 i = some r at h; generalize i = v4 at h ⊢
 rw [k5d] at h; dsimp only at h
 (try dsimp)
 apply Eso
 apply WM
 obtain ⟨x6, x6h, h⟩ := aG h
 refine W1 (dc1 hP (Dq F v4 x6 x6h)) ?_
 refine WQ qx ?_
 refine WQ qx ?_
 refine W1 dst ?_
 apply WM
 refine Wk [2, 3] [2, 904, 100900, 100903, 100950, 100951] ?_
 (try dsimp)
 apply bD
 cases h
 (try simp only [qt, qb, qn, qg])
 refine dN (xs := _) ⟨_, _, uQ rfl (by simp), rfl, rfl, ⟨_, rfl, rfl⟩⟩ ?_
 show _ ∧ _
 exact ⟨rfl, ⟨(by first | rfl | simp [aj, au, ah]), ⟨(by first | rfl | simp [aj, au, ah]), ⟨(by first | rfl | simp [aj, au, ah]), ⟨(by first | rfl | simp [aj, au, ah]), ⟨(by first | rfl | simp [aj, au, ah]), trivial⟩⟩⟩⟩⟩⟩
 apply Eso
 apply WM
 refine WQ qnc ?_
 refine WQ qap ?_
 refine WQ ql1 ?_
 refine WQ (jg rfl rfl) ?_
 apply WM
 refine Wk [0, 2, 5, 24, 25] [2, 904, 100900, 100903, 100950, 100951] ?_
 (try dsimp)
 apply bT
 (try dsimp)
 refine eG (fun (i : (List Int) × Int) => ⟨[(0, S.one (.ptr 100900 0)), (2, S.one (.ptr 2 0)), (5, ss dh i.1), (24, (zi_ ((a0.xw.length : Nat) : Int))), (25, zi_ i.2)], [(2, ⟨true, [vi (0 : Int), vi (0 : Int), vi (0 : Int), .nil, .nil]⟩), (904, ⟨true, flat aT a0.cu⟩), (100900, ⟨false, [.ptr 100950 0, vi a0.dB.ak, vi a0.dB.ay, vi a0.dB.aA, .own 100903 0 a0.xw.length (some (12, 101)), .own 904 0 a0.cu.length (some (1, 3)), vb a0.fP]⟩), (100903, ⟨true, flat bU a0.xw⟩), (100950, ⟨false, [.own 100951 0 a0.xm.xl.length (some (18, 115)), vb a0.xm.dD, vi a0.xm.bC, vi a0.xm.bP, sl aT a0.xm.bQ]⟩), (100951, ⟨true, flat aN a0.xm.xl⟩)]⟩) (fun n i => jS F a0 k5 n i.1 i.2 = some r) F (x3, (0 : Int)) h ?_ (fun n i h => ?_)
 exact LB
 obtain ⟨v23, v24⟩ := i; dsimp only at h
 obtain _ | n25 := n
 cases h
 unfold jS at h
 (try dsimp)
 apply Eso
 refine WQ qi ?_
 apply bW
 (try dsimp)
 apply bG
 refine Ec h rfl (fun h abY => ?_) (fun h abY => ?_)
 apply bf
 refine aX [0, 2, 5, 24, 25] [2, 904, 100900, 100903, 100950, 100951] ?_
 (try dsimp)
 obtain ⟨k28, aeJ, h⟩ := eX h
 refine dJ (fun (i : (List Int)) => ⟨[(0, S.one (.ptr 100900 0)), (2, S.one (.ptr 2 0)), (5, ss dh i), (24, (zi_ ((a0.xw.length : Nat) : Int))), (25, zi_ v24)], [(2, ⟨true, [vi (0 : Int), vi (0 : Int), vi (0 : Int), .nil, .nil]⟩), (904, ⟨true, flat aT a0.cu⟩), (100900, ⟨false, [.ptr 100950 0, vi a0.dB.ak, vi a0.dB.ay, vi a0.dB.aA, .own 100903 0 a0.xw.length (some (12, 101)), .own 904 0 a0.cu.length (some (1, 3)), vb a0.fP]⟩), (100903, ⟨true, flat bU a0.xw⟩), (100950, ⟨false, [.own 100951 0 a0.xm.xl.length (some (18, 115)), vb a0.xm.dD, vi a0.xm.bC, vi a0.xm.bP, sl aT a0.xm.bQ]⟩), (100951, ⟨true, flat aN a0.xm.xl⟩)]⟩) (fun i => k28 i = some r) (fun i h => ?_) ?_
 let iv := i; change k28 i = some r at h; generalize i = v27 at h ⊢
 rw [aeJ] at h; dsimp only at h
 (try dsimp)
 apply dO
 obtain ⟨g29, h⟩ := aQ h
 refine WQ (qad g29) ?_
 apply WM
 apply bW
 refine ⟨n25, (v27, (v24 + (1 : Int))), Nat.lt_succ_self _, h, ?_⟩
 exact LB
 apply bT
 apply Eso
 apply WM
 apply WM
 refine Wk [0, 2, 5, 6, 24, 25] [2, 904, 100900, 100903, 100950, 100951] ?_
 (try dsimp)
 apply Eso
 apply WM
 apply WM
 apply WM
 obtain ⟨x30, Zd, h⟩ := aG h
 refine W1 (aO [] false hP (zX F a0 v23 v24 x30 Zd) rfl ⟨rfl, rfl, rfl, rfl, rfl, trivial⟩ rfl rfl rfl rfl rfl (fun h => by first | rfl | cases h) rfl) ?_
 (try dsimp)
 apply WM
 refine WQ qx ?_
 refine WQ qx ?_
 refine W1 dnv ?_
 refine W1 dst ?_
 apply WM
 refine Wk [0, 2, 5, 7, 8, 24, 25] [2, 7, 904, 100900, 100903, 100950, 100951] ?_
 (try dsimp)
 apply Eso
 apply WM
 apply WM
 apply aF
 rfl
 intro b
 try rw [b]
 exact qap
 apply aF
 rfl
 intro b
 try rw [b]
 exact ql1
 apply aF
 rfl
 intro b
 try rw [b]
 exact qi
 refine WQ qan ?_
 refine Wk [0, 2, 5, 7, 24, 25, 40] [2, 7, 904, 100900, 100903, 100950, 100951] ?_
 (try dsimp)
 refine Ec h rfl (fun h hc31 => ?_) (fun h hc31 => ?_)
 apply dO
 apply WM
 refine WQ qap ?_
 refine WQ ql1 ?_
 obtain ⟨x32, ace, h⟩ := aG h
 refine W1 (dc1 hP (OZ F v23 x30.1.xW x32 ace)) ?_
 apply WM
 apply bW
 refine ⟨x32, h, ?_⟩
 exact LB
 apply bf
 refine ⟨v23, h, ?_⟩
 exact LB
 apply gy
 refine ⟨v23, h, ?_⟩
 exact LB
def sO : cO := (q [o (.mv (cb nn)) 4] (.seq (q [w 6 0, o (.len nn 6) 7, w 8 1, o (.len nn 8) 9, o (.bin .neq 3 7 9) 10] (.cond 10 (q [o (.mv (cb nn)) 4] .ret) .skip)) (.seq (q [w 11 0, o (.len nn 11) 12, o (.mv (ci 0)) 13] (.block 0 (.loop (q [o (.bin .lss 3 13 12) 14] (.seq (.cond 14 .skip (.exit 0)) (.seq (.block 1 (q [w 15 13, w 5 15] (.seq (.draw [((w 16 0), []), ((w 17 5), []), ((o (.fH 5 16 17) 18), [0, 1]), ((o (.load yy 5 18) 19), [2]), ((w 20 1), []), ((w 21 5), []), ((o (.fH 5 20 21) 22), [4, 5]), ((o (.load yy 5 22) 23), [6]), ((o (.eqA yy 128 19 23) 24), [3, 7])]) (.cond 24 (q [o (.mv (cb nn)) 4] .ret) .skip)))) (.ops [o (.bin .add 3 13 (ci 1)) 25, w 13 25]))))))) (q [o (.mv (cb yy)) 4] .ret))))
theorem yL : Fits Tryz.prog 64 2 sO [(.tmp 4)] := fk Tryz.func64
theorem yM (F : Nat) (a0 : (List aZ)) (a1 : (List aZ)) (r : Bool) (h : ku F a0 a1 = some r) : PC Tryz.prog 64 [ss aK a0, ss aK a1] (zb_ r) := by
 unfold ku at h
 refine eu yL rfl rfl ?_
 intro C hP
 unfold sO; dsimp
 apply Eso
 apply WM
 refine Wk [0, 1] [] ?_
 (try dsimp)
 apply bG
 apply Eso
 apply WM
 refine WQ qls ?_
 apply WM
 refine WQ qls ?_
 refine WQ qi ?_
 refine Wk [0, 1, 10] [] ?_
 (try dsimp)
 refine Ec h rfl (fun h hc1 => ?_) (fun h hc1 => ?_)
 apply Eso
 apply WM
 refine Wk [4] [] ?_
 (try dsimp)
 apply bD
 cases h
 exact fe
 apply bf
 refine aX [0, 1] [] ?_
 (try dsimp)
 obtain ⟨k2, k2d, h⟩ := eX h
 refine dJ (fun (i : Unit) => ⟨[], []⟩) (fun i => k2 () = some r) (fun i h => ?_) ?_
 rw [k2d] at h; dsimp only at h
 (try dsimp)
 apply Eso
 apply WM
 apply bW
 (try dsimp)
 apply bD
 cases h
 exact fe
 apply Eso
 apply WM
 refine WQ qls ?_
 apply WM
 refine Wk [0, 1, 12, 13] [] ?_
 (try dsimp)
 apply bT
 (try dsimp)
 refine eG (fun (i : Int) => ⟨[(0, ss aK a0), (1, ss aK a1), (12, (zi_ ((a0.length : Nat) : Int))), (13, zi_ i)], []⟩) (fun n i => iE F a0 a1 k2 n i = some r) F (0 : Int) h ?_ (fun n i h => ?_)
 exact LB
 generalize i = v14 at h ⊢
 obtain _ | n15 := n
 cases h
 unfold iE at h
 (try dsimp)
 apply Eso
 refine WQ qi ?_
 apply bW
 (try dsimp)
 apply bG
 refine Ec h rfl (fun h hc16 => ?_) (fun h hc16 => ?_)
 apply bf
 refine aX [0, 1, 12, 13] [] ?_
 (try dsimp)
 apply bG
 apply bT
 apply Eso
 apply WM
 apply WM
 refine Wk [0, 1, 5, 12, 13] [] ?_
 (try dsimp)
 apply bG
 obtain ⟨g17, h⟩ := aQ h
 obtain ⟨g18, h⟩ := aQ h
 refine ig [0, 1, 2, 3, 4, 5, 6, 7, 8] ?_
 refine XQ 0 rfl rfl rfl qm ?_
 refine XQ 1 rfl rfl rfl qm ?_
 refine XQ 2 rfl rfl rfl (qis g17) ?_
 refine XQ 3 rfl rfl rfl (qAF 5 g17 0) ?_
 refine XQ 4 rfl rfl rfl qm ?_
 refine XQ 5 rfl rfl rfl qm ?_
 refine XQ 6 rfl rfl rfl (qis g18) ?_
 refine XQ 7 rfl rfl rfl (qAF 5 g18 0) ?_
 refine XQ 8 rfl rfl rfl (rJ hP aaq rfl rfl rfl rfl ⟨rfl, ⟨rfl, ⟨rfl, ⟨rfl, ⟨rfl, trivial⟩⟩⟩⟩⟩) ?_
 refine dL rfl ?_
 refine aX [0, 1, 12, 13, 24] [] ?_
 (try dsimp)
 refine Ec h rfl (fun h hc19 => ?_) (fun h hc19 => ?_)
 apply Eso
 apply WM
 refine Wk [4] [] ?_
 (try dsimp)
 apply bD
 cases h
 exact fe
 apply bf
 refine aX [0, 1, 12, 13] [] ?_
 (try dsimp)
 apply dO
 obtain ⟨g20, h⟩ := aQ h
 refine WQ (qad g20) ?_
 apply WM
 apply bW
 refine ⟨n15, (v14 + (1 : Int)), Nat.lt_succ_self _, h, ?_⟩
 exact LB
 apply gy
 refine ⟨(), h, ?_⟩
 exact LB
def rO : cO := (q [o (.mv (cb nn)) 4] (.seq (q [w 6 0, o (.len nn 6) 7, w 8 1, o (.len nn 8) 9, o (.bin .neq 3 7 9) 10] (.cond 10 (q [o (.mv (cb nn)) 4] .ret) .skip)) (.seq (q [w 11 0, o (.len nn 11) 12, o (.mv (ci 0)) 13] (.block 0 (.loop (q [o (.bin .lss 3 13 12) 14] (.seq (.cond 14 .skip (.exit 0)) (.seq (.block 1 (q [w 15 13, w 5 15] (.seq (.draw [((w 16 0), []), ((w 17 5), []), ((o (.fH 13 16 17) 18), [0, 1]), ((o (.load yy 13 18) 19), [2]), ((w 20 1), []), ((w 21 5), []), ((o (.fH 13 20 21) 22), [4, 5]), ((o (.load yy 13 22) 23), [6]), ((o (.eqA yy 122 19 23) 24), [3, 7])]) (.cond 24 (q [o (.mv (cb nn)) 4] .ret) .skip)))) (.ops [o (.bin .add 3 13 (ci 1)) 25, w 13 25]))))))) (q [o (.mv (cb yy)) 4] .ret))))
theorem yA : Fits Tryz.prog 65 2 rO [(.tmp 4)] := fk Tryz.func65
theorem yB (F : Nat) (a0 : (List aH)) (a1 : (List aH)) (r : Bool) (h : jP F a0 a1 = some r) : PC Tryz.prog 65 [ss aS a0, ss aS a1] (zb_ r) := by
 unfold jP at h
 refine eu yA rfl rfl ?_
 intro C hP
 unfold rO; dsimp
 apply Eso
 apply WM
 refine Wk [0, 1] [] ?_
 (try dsimp)
 apply bG
 apply Eso
 apply WM
 refine WQ qls ?_
 apply WM
 refine WQ qls ?_
 refine WQ qi ?_
 refine Wk [0, 1, 10] [] ?_
 (try dsimp)
 refine Ec h rfl (fun h hc1 => ?_) (fun h hc1 => ?_)
 apply Eso
 apply WM
 refine Wk [4] [] ?_
 (try dsimp)
 apply bD
 cases h
 exact fe
 apply bf
 refine aX [0, 1] [] ?_
 (try dsimp)
 obtain ⟨k2, k2d, h⟩ := eX h
 refine dJ (fun (i : Unit) => ⟨[], []⟩) (fun i => k2 () = some r) (fun i h => ?_) ?_
 rw [k2d] at h; dsimp only at h
 (try dsimp)
 apply Eso
 apply WM
 apply bW
 (try dsimp)
 apply bD
 cases h
 exact fe
 apply Eso
 apply WM
 refine WQ qls ?_
 apply WM
 refine Wk [0, 1, 12, 13] [] ?_
 (try dsimp)
 apply bT
 (try dsimp)
 refine eG (fun (i : Int) => ⟨[(0, ss aS a0), (1, ss aS a1), (12, (zi_ ((a0.length : Nat) : Int))), (13, zi_ i)], []⟩) (fun n i => iq F a0 a1 k2 n i = some r) F (0 : Int) h ?_ (fun n i h => ?_)
 exact LB
 generalize i = v14 at h ⊢
 obtain _ | n15 := n
 cases h
 unfold iq at h
 (try dsimp)
 apply Eso
 refine WQ qi ?_
 apply bW
 (try dsimp)
 apply bG
 refine Ec h rfl (fun h hc16 => ?_) (fun h hc16 => ?_)
 apply bf
 refine aX [0, 1, 12, 13] [] ?_
 (try dsimp)
 apply bG
 apply bT
 apply Eso
 apply WM
 apply WM
 refine Wk [0, 1, 5, 12, 13] [] ?_
 (try dsimp)
 apply bG
 obtain ⟨g17, h⟩ := aQ h
 obtain ⟨g18, h⟩ := aQ h
 refine ig [0, 1, 2, 3, 4, 5, 6, 7, 8] ?_
 refine XQ 0 rfl rfl rfl qm ?_
 refine XQ 1 rfl rfl rfl qm ?_
 refine XQ 2 rfl rfl rfl (qis g17) ?_
 refine XQ 3 rfl rfl rfl (qAF 13 g17 0) ?_
 refine XQ 4 rfl rfl rfl qm ?_
 refine XQ 5 rfl rfl rfl qm ?_
 refine XQ 6 rfl rfl rfl (qis g18) ?_
 refine XQ 7 rfl rfl rfl (qAF 13 g18 0) ?_
 refine XQ 8 rfl rfl rfl (rJ hP Qa rfl rfl rfl rfl ⟨rfl, ⟨rfl, ⟨rfl, ⟨rfl, ⟨rfl, ⟨rfl, ⟨rfl, ⟨trivial, ⟨rfl, ⟨rfl, ⟨rfl, ⟨rfl, ⟨rfl, trivial⟩⟩⟩⟩⟩⟩⟩⟩⟩⟩⟩⟩⟩) ?_
 refine dL rfl ?_
 refine aX [0, 1, 12, 13, 24] [] ?_
 (try dsimp)
 refine Ec h rfl (fun h hc19 => ?_) (fun h hc19 => ?_)
 apply Eso
 apply WM
 refine Wk [4] [] ?_
 (try dsimp)
 apply bD
 cases h
 exact fe
 apply bf
 refine aX [0, 1, 12, 13] [] ?_
 (try dsimp)
 apply dO
 obtain ⟨g20, h⟩ := aQ h
 refine WQ (qad g20) ?_
 apply WM
 apply bW
 refine ⟨n15, (v14 + (1 : Int)), Nat.lt_succ_self _, h, ?_⟩
 exact LB
 apply gy
 refine ⟨(), h, ?_⟩
 exact LB
def Ho : cO := (q [o (.box 73 0) 2, o (.box 73 1) 3, o (.mv (cb nn)) 4] (q [o (.add 0 2) 5, o (.load yy 3 5) 6, o (.add 0 3) 7, o (.load yy 3 7) 8, o (.eqA nn 30 6 8) 9, w 10 9, g_ (.add 3 2) 11 10 yy, g_ (.load nn 1 11) 12 10 yy, g_ (.add 3 3) 13 10 yy, g_ (.load nn 1 13) 14 10 yy, g_ (.call 64 [12, 14]) 15 10 yy, o (.pick 10 15 (cb nn)) 16, w 17 16, g_ (.add 4 2) 18 17 yy, g_ (.load nn 1 18) 19 17 yy, g_ (.add 4 3) 20 17 yy, g_ (.load nn 1 20) 21 17 yy, g_ (.call 65 [19, 21]) 22 17 yy, o (.pick 17 22 (cb nn)) 23, w 4 23] .ret))
theorem QH : Fits Tryz.prog 29 2 Ho [(.tmp 4)] := fk Tryz.func29
theorem Hq (F : Nat) (a0 : aI) (a1 : aI) (r : Bool) (h : rY F a0 a1 = some r) : PC Tryz.prog 29 [S.agg [vi a0.bH.ak, vi a0.bH.ay, vi a0.bH.aA, sl aK a0.ay, sl aS a0.aA], S.agg [vi a1.bH.ak, vi a1.bH.ay, vi a1.bH.aA, sl aK a1.ay, sl aS a1.aA]] (zb_ r) := by
 unfold rY at h
 refine eu QH rfl rfl ?_
 intro C hP
 unfold Ho; dsimp
 apply Eso
 refine W1 dbx ?_
 refine W1 dbx ?_
 apply WM
 refine Wk [2, 3] [2, 3] ?_
 apply Eso
 refine WQ qap ?_
 refine WQ qlA ?_
 refine WQ qap ?_
 refine WQ qlA ?_
 refine WQ (rJ hP abC rfl rfl rfl rfl ⟨rfl, ⟨rfl, ⟨rfl, trivial⟩⟩⟩) ?_
 apply WM
 apply aF
 rfl
 intro b
 try rw [b]
 exact qap
 apply aF
 rfl
 intro b
 try rw [b]
 exact ql1
 apply aF
 rfl
 intro b
 try rw [b]
 exact qap
 apply aF
 rfl
 intro b
 try rw [b]
 exact ql1
 obtain ⟨x1, x1h, h⟩ := aG h
 apply iM
 rfl
 intro hB; (try rw [hB]); exact dc1 hP (yM F a0.ay a1.ay x1 (jA x1h (bt hB)))
 refine WQ qan ?_
 apply WM
 apply aF
 rfl
 intro b
 try rw [b]
 exact qap
 apply aF
 rfl
 intro b
 try rw [b]
 exact ql1
 apply aF
 rfl
 intro b
 try rw [b]
 exact qap
 apply aF
 rfl
 intro b
 try rw [b]
 exact ql1
 obtain ⟨x2, x2h, h⟩ := aG h
 apply iM
 rfl
 intro hB; (try rw [hB]); exact dc1 hP (yB F a0.aA a1.aA x2 (jA x2h (bt hB)))
 refine WQ qan ?_
 apply WM
 refine Wk [4] [] ?_
 apply bD
 cases h
 exact fe
def Hr : cO := (q [o (.mv (cb nn)) 2] (q [w 6 0, o (.call 66 [6]) 7, w 5 7, o (.ext 0 5) 8, o (.ext 1 5) 9, o (.jm [zi, zi, zi, .nil, .nil, .nil, zu, zb]) 3, n_ (.store 8 3 8), w 4 9] (q [w 10 4, w 2 10] .ret)))
theorem QI : Fits Tryz.prog 41 1 Hr [(.tmp 2)] := fk Tryz.func41
theorem QJ (F : Nat) (a0 : (List Int)) (r : Bool) (h : uJ F a0 = some r) : PC Tryz.prog 41 [ss dh a0] (zb_ r) := by
 unfold uJ at h
 refine eu QI rfl rfl ?_
 intro C hP
 unfold Hr; dsimp
 apply Eso
 apply WM
 refine Wk [0] [] ?_
 apply Eso
 apply WM
 obtain ⟨x1, x1h, h⟩ := aG h
 refine W1 (dc1 hP (Jw F a0 x1 x1h)) ?_
 apply WM
 refine WQ qx ?_
 refine WQ qx ?_
 refine W1 dnv ?_
 refine W1 dst ?_
 apply WM
 refine Wk [4] [] ?_
 apply Eso
 apply WM
 apply WM
 refine Wk [2] [] ?_
 apply bD
 cases h
 exact fe
def yC : cO := (q [o (.mv (cb nn)) 0] (q [o (.call 11 []) 11, o (.call 31 [11, ci 64]) 12, w 10 12, o (.ext 0 10) 13, o (.ext 1 10) 14, w 1 13, w 2 14] (.seq (q [w 15 2, o (.bin .neq 32 15 (ci 0)) 16, w 17 16, g_ (.mv 1) 18 17 nn, g_ (.eqP nn 18 cp) 19 17 nn, o (.pick 17 (cb yy) 19) 20] (.cond 20 (q [o (.mv (cb nn)) 0] .ret) .skip)) (q [w 22 1, o (.call 32 [22]) 23, w 21 23, o (.ext 0 21) 24, o (.ext 1 21) 25, w 3 24, w 4 25] (.seq (q [w 26 4, o (.bin .neq 32 26 (ci 0)) 27, w 28 27, g_ (.mv 3) 29 28 nn, g_ (.eqP nn 29 cp) 30 28 nn, o (.pick 28 (cb yy) 30) 31] (.cond 31 (q [o (.mv (cb nn)) 0] .ret) .skip)) (q [w 33 3, o (.call 26 [33]) 34, w 32 34, o (.ext 0 32) 35, o (.ext 1 32) 36, o (.jm [zi, zi, zi, .nil, .nil]) 5, n_ (.store 5 5 35), w 6 36] (q [o (.call 11 []) 38, o (.call 27 [38, ci 64]) 39, w 37 39, o (.ext 0 37) 40, o (.ext 1 37) 41, o (.jm [zi, zi, zi, .nil, .nil]) 7, n_ (.store 5 7 40), w 8 41] (q [w 42 1, o (.call 18 [42]) 43, w 9 43] (q [w 44 6, o (.bin .eql 32 44 (ci 0)) 45, w 46 45, g_ (.load yy 5 5) 47 46 yy, g_ (.load yy 5 7) 48 46 yy, g_ (.call 29 [47, 48]) 49 46 yy, o (.pick 46 49 (cb nn)) 50, w 51 50, g_ (.mv 9) 52 51 yy, g_ (.len nn 52) 53 51 yy, g_ (.bin .gtr 3 53 (ci 8)) 54 51 yy, o (.pick 51 54 (cb nn)) 55, w 56 55, g_ (.mv 9) 57 56 yy, g_ (.fH 1 57 (ci 4)) 58 56 yy, g_ (.load nn 1 58) 59 56 yy, g_ (.bin .eql 22 59 (.const (.int .u64 1))) 60 56 yy, o (.pick 56 60 (cb nn)) 61, w 62 61, g_ (.mv 9) 63 62 yy, g_ (.call 41 [63]) 64 62 yy, o (.pick 62 64 (cb nn)) 65, w 0 65] .ret)))))))))
theorem FN : Fits Tryz.prog 30 0 yC [(.tmp 0)] := fk Tryz.func30
theorem FP (F : Nat)  (r : Bool) (h : nN F  = some r) : PC Tryz.prog 30 [] (zb_ r) := by
 unfold nN at h
 refine eu FN rfl rfl ?_
 intro C hP
 unfold yC; dsimp
 apply Eso
 apply WM
 refine Wk [] [] ?_
 (try dsimp)
 apply Eso
 obtain ⟨x1, x1h, h⟩ := aG h
 refine W1 (dc1 hP (yT F  x1 x1h)) ?_
 obtain ⟨x2, x2h, h⟩ := aG h
 rcases yU h with ⟨o3e, h⟩ | ⟨o3, o3e, h⟩
 refine W1 (aO [] true hP (yV o3e (yY F x1 (64 : Int) x2 x2h)) rfl trivial rfl rfl rfl rfl rfl (fun h => by first | rfl | cases h) rfl) ?_
 (try dsimp)
 apply WM
 refine WQ qx ?_
 refine WQ qx ?_
 apply WM
 apply WM
 refine Wk [1, 2] [] ?_
 (try dsimp)
 apply bG
 apply Eso
 apply WM
 refine WQ qi ?_
 apply WM
 apply aF
 rfl
 intro b
 try rw [b]
 exact qm
 apply aF
 rfl
 intro b
 try rw [b]
 exact uS rfl rfl
 refine WQ qor ?_
 refine Wk [1, 20] [] ?_
 (try dsimp)
 refine Ec h rfl (fun h hc4 => ?_) (fun h hc4 => ?_)
 apply Eso
 apply WM
 refine Wk [0] [] ?_
 (try dsimp)
 apply bD
 cases h
 exact fe
 apply bf
 refine aX [1] [] ?_
 (try dsimp)
 apply Eso
 apply WM
 cases h
 refine W1 (aO [(7190, 7120), (7191, 7121)] true hP (yX o3e (yY F x1 (64 : Int) x2 x2h)) rfl trivial rfl rfl rfl rfl rfl (fun h => by first | rfl | cases h) rfl) ?_
 (try dsimp)
 apply WM
 refine WQ qx ?_
 refine WQ qx ?_
 apply WM
 apply WM
 refine Wk [1, 2] [7120, 7121] ?_
 (try dsimp)
 apply bG
 apply Eso
 apply WM
 refine WQ qi ?_
 apply WM
 apply aF
 rfl
 intro b
 try rw [b]
 exact qm
 apply aF
 rfl
 intro b
 try rw [b]
 exact qF rfl rfl rfl
 refine WQ qor ?_
 refine Wk [1, 20] [7120, 7121] ?_
 (try dsimp)
 refine Ec h rfl (fun h hc5 => ?_) (fun h hc5 => ?_)
 apply Eso
 apply WM
 refine Wk [0] [] ?_
 (try dsimp)
 apply bD
 cases h
 exact fe
 apply bf
 refine aX [1] [7120, 7121] ?_
 (try dsimp)
 apply Eso
 apply WM
 obtain ⟨x6, x6h, h⟩ := aG h
 rcases yU h with ⟨o7e, h⟩ | ⟨o7, o7e, h⟩
 refine W1 (aO [(100900, 7121), (100901, 7120)] false hP (yV o7e (uy F o3 x6 x6h)) rfl ⟨rfl, rfl, trivial⟩ rfl rfl rfl rfl rfl (fun h => by first | rfl | cases h) rfl) ?_
 (try dsimp)
 apply WM
 refine WQ qx ?_
 refine WQ qx ?_
 apply WM
 apply WM
 refine Wk [1, 3, 4] [7120, 7121] ?_
 (try dsimp)
 apply bG
 apply Eso
 apply WM
 refine WQ qi ?_
 apply WM
 apply aF
 rfl
 intro b
 try rw [b]
 exact qm
 apply aF
 rfl
 intro b
 try rw [b]
 exact uS rfl rfl
 refine WQ qor ?_
 refine Wk [1, 3, 31] [7120, 7121] ?_
 (try dsimp)
 refine Ec h rfl (fun h hc8 => ?_) (fun h hc8 => ?_)
 apply Eso
 apply WM
 refine Wk [0] [] ?_
 (try dsimp)
 apply bD
 cases h
 exact fe
 apply bf
 refine aX [1, 3] [7120, 7121] ?_
 (try dsimp)
 apply Eso
 apply WM
 cases h
 refine W1 (aO [(100900, 7121), (100901, 7120), (7360, 7230), (7361, 7231), (7362, 7232)] false hP (yX o7e (uy F o3 x6 x6h)) rfl ⟨rfl, rfl, trivial⟩ rfl rfl rfl rfl rfl (fun h => by first | rfl | cases h) rfl) ?_
 (try dsimp)
 apply WM
 refine WQ qx ?_
 refine WQ qx ?_
 apply WM
 apply WM
 refine Wk [1, 3, 4] [7120, 7121, 7230, 7231, 7232] ?_
 (try dsimp)
 apply bG
 apply Eso
 apply WM
 refine WQ qi ?_
 apply WM
 apply aF
 rfl
 intro b
 try rw [b]
 exact qm
 apply aF
 rfl
 intro b
 try rw [b]
 exact qF rfl rfl rfl
 refine WQ qor ?_
 refine Wk [1, 3, 31] [7120, 7121, 7230, 7231, 7232] ?_
 (try dsimp)
 refine Ec h rfl (fun h hc9 => ?_) (fun h hc9 => ?_)
 apply Eso
 apply WM
 refine Wk [0] [] ?_
 (try dsimp)
 apply bD
 cases h
 exact fe
 apply bf
 refine aX [1, 3] [7120, 7121, 7230, 7231, 7232] ?_
 (try dsimp)
 apply Eso
 apply WM
 obtain ⟨x10, KU, h⟩ := aG h
 refine W1 (aO [(100900, 7231), (100950, 7121), (100951, 7120), (100903, 7230), (904, 7232)] false hP (y7 F (⟨x6.1, o7.dB, o7.xw, o7.cu, o7.fP⟩ : aW) x10 KU) rfl ⟨rfl, rfl, rfl, rfl, rfl, trivial⟩ rfl rfl rfl rfl rfl (fun h => by first | rfl | cases h) rfl) ?_
 (try dsimp)
 apply WM
 refine WQ qx ?_
 refine WQ qx ?_
 refine W1 dnv ?_
 refine W1 dst ?_
 apply WM
 refine Wk [1, 5, 6] [5, 7120, 7121] ?_
 (try dsimp)
 apply Eso
 obtain ⟨x11, Zj, h⟩ := aG h
 refine W1 (dc1 hP (yT F  x11 Zj)) ?_
 obtain ⟨x12, Sj, h⟩ := aG h
 refine W1 (dc1 hP (CS F x11 (64 : Int) x12 Sj)) ?_
 apply WM
 refine WQ qx ?_
 refine WQ qx ?_
 refine W1 dnv ?_
 refine W1 dst ?_
 apply WM
 refine Wk [1, 5, 6, 7] [5, 7, 7120, 7121] ?_
 (try dsimp)
 apply Eso
 apply WM
 obtain ⟨x13, Io, h⟩ := aG h
 refine W1 (aO [(100900, 7121), (100901, 7120)] false hP (qO F x6.1 x13 Io) rfl ⟨rfl, rfl, trivial⟩ rfl rfl rfl rfl rfl (fun h => by first | rfl | cases h) rfl) ?_
 (try dsimp)
 apply WM
 refine Wk [5, 6, 7, 9] [5, 7] ?_
 (try dsimp)
 apply Eso
 apply WM
 refine WQ qi ?_
 apply WM
 apply aF
 rfl
 intro b
 try rw [b]
 exact qlA
 apply aF
 rfl
 intro b
 try rw [b]
 exact qlA
 obtain ⟨x14, SK, h⟩ := aG h
 apply iM
 rfl
 intro hB; (try rw [hB]); exact dc1 hP (Hq F x10.1 x12.1 x14 (jA SK (bt hB)))
 refine WQ qan ?_
 apply WM
 apply aF
 rfl
 intro b
 try rw [b]
 exact qm
 apply aF
 rfl
 intro b
 try rw [b]
 exact qls
 apply aF
 rfl
 intro b
 try rw [b]
 exact qi
 refine WQ qan ?_
 apply WM
 apply aF
 rfl
 intro b
 try rw [b]
 exact qm
 obtain ⟨g15, h⟩ := aQ h
 apply aF
 rfl
 intro b
 try rw [b]
 exact qis (g15 b)
 apply aF
 rfl
 intro b
 try rw [b]
 exact q1F 1 (g15 b) 0
 apply aF
 rfl
 intro b
 try rw [b]
 exact qi
 refine WQ qan ?_
 apply WM
 apply aF
 rfl
 intro b
 try rw [b]
 exact qm
 obtain ⟨x16, aeK, h⟩ := aG h
 apply iM
 rfl
 intro hB; (try rw [hB]); exact dc1 hP (QJ F x13 x16 (jA aeK (bt hB)))
 refine WQ qan ?_
 apply WM
 refine Wk [0] [] ?_
 (try dsimp)
 apply bD
 cases h
 exact fe
def Dw : cO := (q [o (.mv (.const (.int .u64 0))) 4] (.seq (q [w 5 1, o (.call 109 [5]) 6, o (.un .not 6) 7] (.cond 7 (q [o (.mv (.const (.int .u64 0))) 4] .ret) .skip)) (q [w 8 0, w 9 1, o (.dG 8) 10, o (.add 8 10) 11, o (.Vb 1 8 11 9) 12, o (.load nn 1 12) 13, w 4 13] .ret)))
theorem MZ : Fits Tryz.prog 79 2 Dw [(.tmp 4)] := fk Tryz.func79
theorem Na (F : Nat) (a0 : aC) (a0i : Int) (a0o : Nat) (a0h : a0o = a0i.toNat * 18) (a1 : Int) (r : Int) (h : uM F a0 a0i a1 = some r) : AC Tryz.prog 79 [S.one (.ptr 100901 a0o), (zi_ a1)] [(100900, ⟨false, [.own 100901 0 a0.xl.length (some (18, 115)), vb a0.dD, vi a0.bC, vi a0.bP, sl aT a0.bQ]⟩), (100901, ⟨true, flat aN a0.xl⟩)] (fun x s' => x = (zu_ r) ∧ l9 s' [(100900, ⟨false, [.own 100901 0 a0.xl.length (some (18, 115)), vb a0.dD, vi a0.bC, vi a0.bP, sl aT a0.bQ]⟩), (100901, ⟨true, flat aN a0.xl⟩)]) := by
 unfold uM at h
 refine lN MZ rfl ?_
 intro C hP
 unfold Dw; dsimp
 obtain ⟨ga0, h⟩ := aQ h
 apply Eso
 apply WM
 refine Wk [0, 1] [100900, 100901] ?_
 apply bG
 apply Eso
 apply WM
 obtain ⟨x1, x1h, h⟩ := aG h
 refine W1 (dc1 hP (Tt F a1 x1 x1h)) ?_
 refine WQ qno ?_
 refine Wk [0, 1, 7] [100900, 100901] ?_
 refine Ec h rfl (fun h hc2 => ?_) (fun h hc2 => ?_)
 apply Eso
 apply WM
 refine Wk [4] [100900, 100901] ?_
 apply bD
 cases h
 (try simp only [qt, qb, qn, qg])
 refine dN (xs := _) ⟨_, rfl, rfl⟩ ?_
 show _ ∧ _
 exact ⟨rfl, ⟨(by first | rfl | simp [aj, au, ah]), ⟨(by first | rfl | simp [aj, au, ah]), trivial⟩⟩⟩
 apply bf
 refine aX [0, 1] [100900, 100901] ?_
 apply Eso
 apply WM
 apply WM
 refine WQ qnc ?_
 refine WQ qap ?_
 obtain ⟨g3, h⟩ := aQ h
 refine WQ (vX rfl rfl rfl g3.1 g3.2) ?_
 refine WQ (gB (k := 18) rfl rfl (fun _ => rfl) ga0 (8 + a1.toNat) (by omega) (acf (o := 8) (n := 8) (fun j => (vu (((nth a0.xl a0i).xNew).get j))) g3 (by intro j hj; rcases j with _|_|_|_|_|_|_|_|j <;> first | rfl | omega) rfl)) ?_
 apply WM
 refine Wk [4] [100900, 100901] ?_
 apply bD
 cases h
 (try simp only [qt, qb, qn, qg])
 refine dN (xs := _) ⟨_, rfl, rfl⟩ ?_
 show _ ∧ _
 exact ⟨rfl, ⟨(by first | rfl | simp [aj, au, ah]), ⟨(by first | rfl | simp [aj, au, ah]), trivial⟩⟩⟩
def Dx : cO := (q [o (.mv (.const (.int .u64 0))) 4, o (.mv (ci 0)) 5] (.seq (q [w 7 0, w 8 1, w 9 0, o (.dG 9) 10, o (.add 0 10) 11, o (.load nn 1 11) 12, o (.len nn 12) 13, o (.bin .mul 3 13 (ci 8)) 14, o (.call 70 [7, 8, 14]) 15, w 6 15] (q [w 16 6, o (.bin .neq 32 16 (ci 0)) 17] (.cond 17 (q [w 18 6, o (.mv (.const (.int .u64 0))) 4, w 5 18] .ret) .skip))) (q [w 19 0, o (.dG 19) 20, o (.add 0 20) 21, o (.load nn 1 21) 22, w 23 1, o (.bin .quo 3 23 (ci 8)) 24, o (.fH 18 22 24) 25, w 26 1, o (.bin .rem 3 26 (ci 8)) 27, o (.call 79 [25, 27]) 28, w 4 28, o (.mv (ci 0)) 5] .ret)))
theorem Nb : Fits Tryz.prog 44 2 Dx [(.tmp 4), (.tmp 5)] := fk Tryz.func44
theorem rP (F : Nat) (a0 : aC) (a1 : Int) (r : Int × Int) (h : lH F a0 a1 = some r) : AC Tryz.prog 44 [S.one (.ptr 100900 0), (zi_ a1)] [(100900, ⟨false, [.own 100901 0 a0.xl.length (some (18, 115)), vb a0.dD, vi a0.bC, vi a0.bP, sl aT a0.bQ]⟩), (100901, ⟨true, flat aN a0.xl⟩)] (fun x s' => x = S.tup [(zu_ r.1), (zi_ r.2)] ∧ l9 s' [(100900, ⟨false, [.own 100901 0 a0.xl.length (some (18, 115)), vb a0.dD, vi a0.bC, vi a0.bP, sl aT a0.bQ]⟩), (100901, ⟨true, flat aN a0.xl⟩)]) := by
 unfold lH at h
 refine lN Nb rfl ?_
 intro C hP
 unfold Dx; dsimp
 apply Eso
 apply WM
 apply WM
 refine Wk [0, 1] [100900, 100901] ?_
 apply bG
 apply Eso
 apply WM
 apply WM
 apply WM
 refine WQ qnc ?_
 refine WQ qap ?_
 refine WQ ql1 ?_
 refine WQ (jg rfl rfl) ?_
 obtain ⟨g1, h⟩ := aQ h
 refine WQ (qmu g1) ?_
 obtain ⟨x2, x2h, h⟩ := aG h
 refine W1 (aO [] false hP (vY F a0 a1 (((a0.xl.length : Nat) : Int) * (8 : Int)) x2 x2h) rfl ⟨rfl, rfl, trivial⟩ rfl rfl rfl rfl rfl (fun h => by first | rfl | cases h) rfl) ?_
 apply WM
 refine Wk [0, 1, 6] [100900, 100901] ?_
 apply Eso
 apply WM
 refine WQ qi ?_
 refine Wk [0, 1, 6, 17] [100900, 100901] ?_
 refine Ec h rfl (fun h hc3 => ?_) (fun h hc3 => ?_)
 apply Eso
 apply WM
 apply WM
 apply WM
 refine Wk [4, 5] [100900, 100901] ?_
 apply bD
 cases h
 (try simp only [qt, qb, qn, qg])
 refine dN (xs := _) ⟨_, rfl, ⟨_, rfl, rfl⟩⟩ ?_
 show _ ∧ _
 exact ⟨rfl, ⟨(by first | rfl | simp [aj, au, ah]), ⟨(by first | rfl | simp [aj, au, ah]), trivial⟩⟩⟩
 apply bf
 refine aX [0, 1] [100900, 100901] ?_
 apply Eso
 apply WM
 refine WQ qnc ?_
 refine WQ qap ?_
 refine WQ ql1 ?_
 apply WM
 refine WQ qi ?_
 obtain ⟨g4, h⟩ := aQ h
 refine WQ (qio g4) ?_
 apply WM
 refine WQ qi ?_
 obtain ⟨x5, x5h, h⟩ := aG h
 refine W1 (aO [] false hP (Na F a0 (IntKind.i64.wrap (Int.tdiv a1 8)) _ (by omega) (Int.tmod a1 8) x5 x5h) rfl ⟨rfl, rfl, trivial⟩ rfl rfl rfl rfl rfl (fun h => by first | rfl | cases h) rfl) ?_
 apply WM
 apply WM
 refine Wk [4, 5] [100900, 100901] ?_
 apply bD
 cases h
 (try simp only [qt, qb, qn, qg])
 refine dN (xs := _) ⟨_, rfl, ⟨_, rfl, rfl⟩⟩ ?_
 show _ ∧ _
 exact ⟨rfl, ⟨(by first | rfl | simp [aj, au, ah]), ⟨(by first | rfl | simp [aj, au, ah]), trivial⟩⟩⟩
def Dy : cO := (q [o (.mv cn) 2] (q [o (.mv cn) 3] (.seq (q [w 8 0, o (.len nn 8) 9, o (.mv (ci 0)) 10] (.block 0 (.loop (q [o (.bin .lss 3 10 9) 11] (.seq (.cond 11 .skip (.exit 0)) (.seq (.block 1 (q [w 12 10, o (.fH 1 8 10) 13, o (.load nn 1 13) 14, w 4 12, w 5 14] (.ops [w 15 0, w 16 4, w 17 5, o (.bin .quo 3 17 (ci 8)) 18, o (.fH 1 15 16) 19, n_ (.store 1 19 18)]))) (.ops [o (.bin .add 3 10 (ci 1)) 20, w 10 20]))))))) (q [w 21 0, o (.call 83 [21]) 22] (.seq (q [w 23 0, o (.call 84 [23]) 24, o (.len nn 24) 25, o (.mv (ci 0)) 26] (.block 2 (.loop (q [o (.bin .lss 3 26 25) 27] (.seq (.cond 27 .skip (.exit 2)) (.seq (.block 3 (q [o (.fH 1 24 26) 28, o (.load nn 1 28) 29, w 7 29] (.ops [w 30 3, w 31 7, o (.build [zi, zi, zu] [(0, (1, (ci 1))), (1, (1, 31)), (2, (1, (.const (.int .u64 0))))]) 32, o (.iW 3 104 1 [zi, zi, zu] [(0, (3, 32))]) 33, o (.app 99 104 3 24 30 33) 34, w 3 34]))) (.ops [o (.bin .add 3 26 (ci 1)) 35, w 26 35]))))))) (q [w 36 3, o (.build [zi, zi, zu] [(0, (1, (ci 2))), (1, (1, (ci 0))), (2, (1, (.const (.int .u64 0))))]) 37, o (.iW 3 104 1 [zi, zi, zu] [(0, (3, 37))]) 38, o (.app 99 104 3 24 36 38) 39, w 2 39] .ret))))))
theorem Nc : Fits Tryz.prog 46 1 Dy [(.tmp 2)] := fk Tryz.func46
theorem mF (F : Nat) (a0 : (List Int)) (r : (List bI)) (h : nO F a0 = some r) : AC Tryz.prog 46 [S.one (.own 100800 0 a0.length (some (1, 3)))] [(100800, ⟨true, flat aT a0⟩)] (fun x s => x = ss fB r ∧ l9 s []) := by
 unfold nO at h
 refine lN Nc rfl ?_
 intro C hP
 unfold Dy; dsimp
 apply Eso
 apply WM
 refine Wk [0] [100800] ?_
 (try dsimp)
 apply Eso
 apply WM
 apply bW
 (try dsimp)
 obtain ⟨k2, k2d, h⟩ := eX h
 refine dJ (fun (i : (List Int)) => ⟨[(0, S.one (.own 100800 0 i.length (some (1, 3)))), (3, S.one (.nil))], [(100800, ⟨true, flat aT i⟩)]⟩) (fun i => k2 i = some r) (fun i h => ?_) ?_
 let iv := i; change k2 i = some r at h; generalize i = v1 at h ⊢
 rw [k2d] at h; dsimp only at h
 (try dsimp)
 apply Eso
 apply WM
 obtain ⟨g3, h⟩ := aQ h
 refine W1 (aO [(100800, 100800)] false hP (yZ v1 g3) rfl ⟨rfl, trivial⟩ rfl rfl rfl rfl rfl (fun h => by cases h) rfl) ?_
 (try dsimp)
 refine Wk [0, 3] [100800] ?_
 (try dsimp)
 obtain ⟨k5, k5d, h⟩ := eX h
 refine dJ (fun (i : (List bI)) => ⟨[(3, S.one (.own 1034 0 i.length (some (3, 104))))], [(1034, ⟨true, flat fB i⟩)]⟩) (fun i => k5 i = some r) (fun i h => ?_) ?_
 let iv := i; change k5 i = some r at h; generalize i = v4 at h ⊢
 rw [k5d] at h; dsimp only at h
 (try dsimp)
 apply Eso
 apply WM
 refine WQ qbu ?_
 refine W1 dbs ?_
 obtain ⟨g6, h⟩ := aQ h
 refine W1 (dY (e := fB) rfl rfl (fun _ => rfl) (fun _ => rfl) rfl (Src.lit (e := fB) ([(⟨(2 : Int), (0 : Int), (0 : Int)⟩ : bI)] : List bI) rfl (fun _ => rfl) rfl rfl) g6 rfl) ?_
 apply WM
 refine Wk [2] [1034] ?_
 (try dsimp)
 refine dR (kY (r := 1034) rfl rfl).b ?_
 (try dsimp)
 apply bD
 cases h
 (try simp only [qt, qb, qn, qg])
 refine dN (xs := _) ⟨_, rfl, rfl⟩ ?_
 exact ⟨rfl, trivial⟩
 apply Eso
 apply WM
 obtain ⟨g7, h⟩ := aQ h
 refine W1 (Does.ghost (jM (i := 23) _ rfl (by simp [aj, au, ah] : v1.length = (qj v1).length)).b (aO [(100800, 100800)] false hP (wG (qj v1) g7) rfl ⟨rfl, trivial⟩ rfl rfl rfl rfl rfl (fun h => by cases h) rfl)) ?_
 (try dsimp)
 refine WQ (jg rfl rfl) ?_
 apply WM
 refine Wk [3, 24, 25, 26] [100800] ?_
 (try dsimp)
 apply bT
 (try dsimp)
 refine eG (fun (i : Int × (List bI)) => ⟨[(3, S.one (.own 1034 0 i.2.length (some (3, 104)))), (24, S.one (.own 100800 0 (rD (qj v1)).length (some (1, 3)))), (25, (zi_ (((rD (qj v1)).length : Nat) : Int))), (26, zi_ i.1)], [(1034, ⟨true, flat fB i.2⟩), (100800, ⟨true, flat aT (rD (qj v1))⟩)]⟩) (fun n i => jK F v1 k5 n i.1 i.2 = some r) F ((0 : Int), ([] : List bI)) h ?_ (fun n i h => ?_)
 refine fM (nT (i := 3) (r := 1034) 3 104 rfl rfl) ?_
 exact LB
 obtain ⟨v18, v19⟩ := i; dsimp only at h
 obtain _ | n20 := n
 cases h
 unfold jK at h
 (try dsimp)
 apply Eso
 refine WQ qi ?_
 apply bW
 (try dsimp)
 apply bG
 refine Ec h rfl (fun h hc21 => ?_) (fun h hc21 => ?_)
 apply bf
 refine aX [3, 24, 25, 26] [1034, 100800] ?_
 (try dsimp)
 apply bG
 apply bT
 apply Eso
 obtain ⟨g22, h⟩ := aQ h
 refine WQ (qio g22) ?_
 refine WQ (gB (k := 1) rfl rfl (fun _ => rfl) g22 0 (by omega) rfl) ?_
 apply WM
 refine Wk [3, 7, 24, 25, 26] [1034, 100800] ?_
 (try dsimp)
 apply dO
 apply WM
 apply WM
 refine WQ qbu ?_
 refine W1 dbs ?_
 obtain ⟨g23, h⟩ := aQ h
 refine W1 (dY (e := fB) rfl rfl (fun _ => rfl) (fun _ => rfl) rfl (Src.lit (e := fB) ([(⟨(1 : Int), (nth (rD (qj v1)) v18), (0 : Int)⟩ : bI)] : List bI) rfl (fun _ => rfl) rfl rfl) g23 rfl) ?_
 apply WM
 refine Wk [3, 24, 25, 26] [1034, 100800] ?_
 (try dsimp)
 apply dO
 obtain ⟨g24, h⟩ := aQ h
 refine WQ (qad g24) ?_
 apply WM
 apply bW
 refine ⟨n20, ((v18 + (1 : Int)), (v19 ++ ([(⟨(1 : Int), (nth (rD (qj v1)) v18), (0 : Int)⟩ : bI)] : List bI))), Nat.lt_succ_self _, h, ?_⟩
 exact LB
 apply gy
 refine ⟨v19, h, ?_⟩
 exact LB
 apply Eso
 apply WM
 refine WQ (jg rfl rfl) ?_
 apply WM
 apply bW
 (try dsimp)
 apply bT
 (try dsimp)
 refine eG (fun (i : Int × (List Int)) => ⟨[(0, S.one (.own 100800 0 i.2.length (some (1, 3)))), (3, S.one (.nil)), (8, S.one (.own 100800 0 i.2.length (some (1, 3)))), (9, (zi_ ((a0.length : Nat) : Int))), (10, zi_ i.1)], [(100800, ⟨true, flat aT i.2⟩)]⟩) (fun n i => jJ F a0 k2 n i.1 i.2 = some r) F ((0 : Int), a0) h ?_ (fun n i h => ?_)
 exact LB
 obtain ⟨v35, v36⟩ := i; dsimp only at h
 obtain _ | n37 := n
 cases h
 unfold jJ at h
 (try dsimp)
 apply Eso
 refine WQ qi ?_
 apply bW
 (try dsimp)
 apply bG
 refine Ec h rfl (fun h hc38 => ?_) (fun h hc38 => ?_)
 apply bf
 refine aX [0, 3, 8, 9, 10] [100800] ?_
 (try dsimp)
 apply bG
 apply bT
 apply Eso
 apply WM
 obtain ⟨g39, h⟩ := aQ h
 refine WQ (qio g39) ?_
 refine WQ (gB (k := 1) rfl rfl (fun _ => rfl) g39 0 (by omega) rfl) ?_
 apply WM
 apply WM
 refine Wk [0, 3, 4, 5, 8, 9, 10] [100800] ?_
 (try dsimp)
 apply dO
 apply WM
 apply WM
 apply WM
 refine WQ qi ?_
 obtain ⟨g40, h⟩ := aQ h
 refine WQ (qio g40) ?_
 refine W1 (dI (e := aT) (n := 1) (k := 1) rfl rfl (fun _ => rfl) g40 0 (by omega) rfl rfl rfl (by decide) (IntKind.i64.wrap (Int.tdiv (nth v36 v35) 8)) rfl (by decide) rfl) ?_
 refine Wk [0, 3, 8, 9, 10] [100800] ?_
 (try dsimp)
 apply dO
 obtain ⟨g41, h⟩ := aQ h
 refine WQ (qad g41) ?_
 apply WM
 apply bW
 refine ⟨n37, ((v35 + (1 : Int)), (dZ v36 v35 (IntKind.i64.wrap (Int.tdiv (nth v36 v35) 8)))), Nat.lt_succ_self _, h, ?_⟩
 refine fM (jM (i := 0) _ rfl (by simp [aj, au, ah] : v36.length = (dZ v36 v35 (IntKind.i64.wrap (Int.tdiv (nth v36 v35) 8))).length)).b ?_
 refine fM (jM (i := 8) _ rfl (by simp [aj, au, ah] : v36.length = (dZ v36 v35 (IntKind.i64.wrap (Int.tdiv (nth v36 v35) 8))).length)).b ?_
 exact LB
 apply gy
 refine ⟨v36, h, ?_⟩
 exact LB
def BK : cO := (q [o (.mv (ci 0)) 8] (.seq (q [w 17 0, w 18 1, o (.call 43 [17, 18]) 19, w 9 19] (q [w 20 9, o (.bin .neq 32 20 (ci 0)) 21] (.cond 21 (q [w 22 9, w 8 22] .ret) .skip))) (q [w 24 0, o (.dG 24) 25, o (.add 1 25) 26, o (.load yy 3 26) 27, w 28 1, o (.call 39 [27, 28]) 29, w 23 29, o (.ext 0 23) 30, o (.ext 1 23) 31, w 10 30, w 11 31] (q [w 33 0, o (.dG 33) 34, o (.add 0 34) 35, o (.load nn 1 35) 36, w 37 10, o (.call 44 [36, 37]) 38, w 32 38, o (.ext 0 32) 39, o (.ext 1 32) 40, w 12 39, w 13 40] (.seq (.block 0 (q [w 42 3, o (.len nn 42) 43, o (.bin .neq 3 43 (ci 4)) 44, w 41 44] (.cond 41 (q [o (.mv (ci 1)) 8] .ret) (q [w 46 0, o (.dG 46) 47, o (.add 4 47) 48, o (.load nn 1 48) 49, w 50 1, o (.fH 12 49 50) 51, o (.add 0 51) 52, o (.load nn 1 52) 53, o (.bin .neq 3 53 (ci 0)) 54, w 45 54] (.cond 45 (q [o (.mv (ci 13)) 8] .ret) (q [w 56 2, w 57 12, o (.bin .shr 22 57 (.const (.int .u64 32))) 58, o (.bin .add 22 58 (.const (.int .u64 1))) 59, o (.bin .neq 22 56 59) 60, w 61 60, g_ (.mv 2) 62 61 nn, g_ (.bin .gtr 22 62 (.const (.int .u64 4294967295))) 63 61 nn, o (.pick 61 (cb yy) 63) 64, w 55 64] (.cond 55 (q [o (.mv (ci 11)) 8] .ret) .skip))))))) (q [w 65 2, w 66 3, o (.arr 4 66) 67, o (.load yy 4 67) 68, o (.build [zi, zu, zu, zu, zu, zu, zi, zu, zi, .nil] [(0, (1, (ci 1))), (1, (1, 65)), (2, (4, 68))]) 69, o (.build [zi, zi, zu, zu, zu, zu, zu, zi, zu, zi, .nil, .nil] [(0, (1, (ci 1))), (1, (10, 69))]) 70, o (.jm [zi, zi, zu, zu, zu, zu, zu, zi, zu, zi, .nil, .nil]) 14, n_ (.store 12 14 70)] (.seq (q [w 71 3, o (.len nn 71) 72, o (.mv (ci 0)) 73] (.block 1 (.loop (q [o (.bin .lss 3 73 72) 74] (.seq (.cond 74 .skip (.exit 1)) (.seq (.block 2 (q [w 75 73, o (.fH 1 71 73) 76, o (.load nn 1 76) 77, w 15 75, w 16 77] (.ops [o (.add 11 14) 78, o (.load nn 1 78) 79, w 80 10, o (.bin .add 3 80 (ci 1)) 81, w 82 15, o (.bin .add 3 81 82) 83, w 84 16, o (.build [zi, zi, zu] [(0, (1, (ci 0))), (1, (1, 83)), (2, (1, 84))]) 85, o (.iW 3 104 1 [zi, zi, zu] [(0, (3, 85))]) 86, o (.app 99 104 3 24 79 86) 87, o (.add 11 14) 88, n_ (.store 1 88 87)]))) (.ops [o (.bin .add 3 73 (ci 1)) 89, w 73 89]))))))) (.seq (.draw [((o (.add 11 14) 90), []), ((o (.load nn 1 90) 91), [0]), ((w 92 10), []), ((o (.add 1 14) 93), []), ((o (.load yy 10 93) 94), [3]), ((o (.call 45 [94]) 95), [4]), ((o (.build [zi, zi, zu] [(0, (1, (ci 0))), (1, (1, 92)), (2, (1, 95))]) 96), [2, 5]), ((o (.iW 3 104 1 [zi, zi, zu] [(0, (3, 96))]) 97), [6]), ((o (.app 99 104 3 24 91 97) 98), [1, 7, 5]), ((o (.add 11 14) 99), [0, 1, 2, 3, 4, 5, 6, 7, 8]), ((n_ (.store 1 99 98)), [9, 8, 8, 0, 1, 2, 3, 4, 5, 6, 7, 8])]) (.seq (.draw [((o (.add 11 14) 100), []), ((o (.load nn 1 100) 101), [0]), ((w 102 10), []), ((o (.iW 1 3 1 [zi] [(0, (1, 102))]) 103), [2]), ((o (.call 46 [103]) 104), [3]), ((o (.app 99 104 3 24 101 104) 105), [1, 4, 4]), ((o (.add 11 14) 106), [0, 1, 2, 3, 4, 5]), ((n_ (.store 1 106 105)), [6, 5, 5, 0, 1, 2, 3, 4, 5])]) (.seq (.draw [((w 107 0), []), ((o (.dG 107) 108), [0]), ((o (.add 4 108) 109), [1]), ((o (.load nn 1 109) 110), [2]), ((w 111 1), []), ((o (.load yy 12 14) 112), []), ((o (.fH 12 110 111) 113), [3, 4, 0, 1, 2, 3, 4, 5]), ((n_ (.store 12 113 112)), [6, 5, 0, 1, 2, 3, 4, 5])]) (q [o (.mv (ci 0)) 8] .ret)))))))))))
theorem J8 : Fits Tryz.prog 12 4 BK [(.tmp 8)] := fk Tryz.func12
theorem J9 (F : Nat) (a0 : aW) (a1 : Int) (a2 : Int) (a3 : (List Int)) (r : aW × Int) (h : qN F a0 a1 a2 a3 = some r) : AC Tryz.prog 12 [S.one (.ptr 100900 0), (zi_ a1), (zu_ a2), ss dh a3] [(904, ⟨true, flat aT a0.cu⟩), (100900, ⟨false, [.ptr 100950 0, vi a0.dB.ak, vi a0.dB.ay, vi a0.dB.aA, .own 100903 0 a0.xw.length (some (12, 101)), .own 904 0 a0.cu.length (some (1, 3)), vb a0.fP]⟩), (100903, ⟨true, flat bU a0.xw⟩), (100950, ⟨false, [.own 100951 0 a0.xm.xl.length (some (18, 115)), vb a0.xm.dD, vi a0.xm.bC, vi a0.xm.bP, sl aT a0.xm.bQ]⟩), (100951, ⟨true, flat aN a0.xm.xl⟩)] (fun x s' => x = (zi_ r.2) ∧ l9 s' [(904, ⟨true, flat aT r.1.cu⟩), (100900, ⟨false, [.ptr 100950 0, vi r.1.dB.ak, vi r.1.dB.ay, vi r.1.dB.aA, .own 100903 0 r.1.xw.length (some (12, 101)), .own 904 0 r.1.cu.length (some (1, 3)), vb r.1.fP]⟩), (100903, ⟨true, flat bU r.1.xw⟩), (100950, ⟨false, [.own 100951 0 r.1.xm.xl.length (some (18, 115)), vb r.1.xm.dD, vi r.1.xm.bC, vi r.1.xm.bP, sl aT r.1.xm.bQ]⟩), (100951, ⟨true, flat aN r.1.xm.xl⟩)]) := by
 unfold qN at h
 refine lN J8 rfl ?_
 intro C hP
 unfold BK; dsimp
 apply Eso
 apply WM
 refine Wk [0, 1, 2, 3] [904, 100900, 100903, 100950, 100951] ?_
 (try dsimp)
 apply bG
 apply Eso
 apply WM
 apply WM
 obtain ⟨x1, x1h, h⟩ := aG h
 refine W1 (aO [] false hP (tH F a0 a1 x1 x1h) rfl ⟨rfl, rfl, rfl, rfl, rfl, trivial⟩ rfl rfl rfl rfl rfl (fun h => by first | rfl | cases h) rfl) ?_
 (try dsimp)
 apply WM
 refine Wk [0, 1, 2, 3, 9] [904, 100900, 100903, 100950, 100951] ?_
 (try dsimp)
 apply Eso
 apply WM
 refine WQ qi ?_
 refine Wk [0, 1, 2, 3, 9, 21] [904, 100900, 100903, 100950, 100951] ?_
 (try dsimp)
 refine Ec h rfl (fun h hc2 => ?_) (fun h hc2 => ?_)
 apply Eso
 apply WM
 apply WM
 refine Wk [8] [904, 100900, 100903, 100950, 100951] ?_
 (try dsimp)
 apply bD
 cases h
 (try simp only [qt, qb, qn, qg])
 refine dN (xs := _) ⟨_, rfl, rfl⟩ ?_
 show _ ∧ _
 exact ⟨rfl, ⟨(by first | rfl | simp [aj, au, ah]), ⟨(by first | rfl | simp [aj, au, ah]), ⟨(by first | rfl | simp [aj, au, ah]), ⟨(by first | rfl | simp [aj, au, ah]), ⟨(by first | rfl | simp [aj, au, ah]), trivial⟩⟩⟩⟩⟩⟩
 apply bf
 refine aX [0, 1, 2, 3] [904, 100900, 100903, 100950, 100951] ?_
 (try dsimp)
 apply Eso
 apply WM
 refine WQ qnc ?_
 refine WQ qap ?_
 refine WQ qlA ?_
 apply WM
 obtain ⟨x3, x3h, h⟩ := aG h
 refine W1 (dc1 hP (qE F a0.dB a1 x3 x3h)) ?_
 apply WM
 refine WQ qx ?_
 refine WQ qx ?_
 apply WM
 apply WM
 refine Wk [0, 1, 2, 3, 10] [904, 100900, 100903, 100950, 100951] ?_
 (try dsimp)
 apply Eso
 apply WM
 refine WQ qnc ?_
 refine WQ qap ?_
 refine WQ ql1 ?_
 apply WM
 obtain ⟨x4, x4h, h⟩ := aG h
 refine W1 (aO [(100900, 100950), (100901, 100951)] false hP (rP F a0.xm x3.1 x4 x4h) rfl ⟨rfl, rfl, trivial⟩ rfl rfl rfl rfl rfl (fun h => by first | rfl | cases h) rfl) ?_
 (try dsimp)
 apply WM
 refine WQ qx ?_
 refine WQ qx ?_
 apply WM
 apply WM
 refine Wk [0, 1, 2, 3, 10, 12] [904, 100900, 100903, 100950, 100951] ?_
 (try dsimp)
 apply bG
 apply bT
 apply Eso
 apply WM
 refine WQ qls ?_
 refine WQ qi ?_
 apply WM
 refine Wk [0, 1, 2, 3, 10, 12, 41] [904, 100900, 100903, 100950, 100951] ?_
 (try dsimp)
 refine Ec h rfl (fun h hc5 => ?_) (fun h hc5 => ?_)
 apply Eso
 apply WM
 refine Wk [8] [904, 100900, 100903, 100950, 100951] ?_
 (try dsimp)
 apply bD
 cases h
 (try simp only [qt, qb, qn, qg])
 refine dN (xs := _) ⟨_, rfl, rfl⟩ ?_
 show _ ∧ _
 exact ⟨rfl, ⟨(by first | rfl | simp [aj, au, ah]), ⟨(by first | rfl | simp [aj, au, ah]), ⟨(by first | rfl | simp [aj, au, ah]), ⟨(by first | rfl | simp [aj, au, ah]), ⟨(by first | rfl | simp [aj, au, ah]), trivial⟩⟩⟩⟩⟩⟩
 apply Eso
 apply WM
 refine WQ qnc ?_
 refine WQ qap ?_
 refine WQ ql1 ?_
 apply WM
 obtain ⟨g6, h⟩ := aQ h
 refine WQ (qio g6) ?_
 refine WQ qap ?_
 refine WQ (gB (k := 12) rfl rfl (fun _ => rfl) g6 0 (by omega) rfl) ?_
 refine WQ qi ?_
 apply WM
 refine Wk [0, 1, 2, 3, 10, 12, 45] [904, 100900, 100903, 100950, 100951] ?_
 (try dsimp)
 refine Ec h rfl (fun h hc7 => ?_) (fun h hc7 => ?_)
 apply Eso
 apply WM
 refine Wk [8] [904, 100900, 100903, 100950, 100951] ?_
 (try dsimp)
 apply bD
 cases h
 (try simp only [qt, qb, qn, qg])
 refine dN (xs := _) ⟨_, rfl, rfl⟩ ?_
 show _ ∧ _
 exact ⟨rfl, ⟨(by first | rfl | simp [aj, au, ah]), ⟨(by first | rfl | simp [aj, au, ah]), ⟨(by first | rfl | simp [aj, au, ah]), ⟨(by first | rfl | simp [aj, au, ah]), ⟨(by first | rfl | simp [aj, au, ah]), trivial⟩⟩⟩⟩⟩⟩
 apply Eso
 apply WM
 apply WM
 refine WQ (yt rfl rfl (by decide)) ?_
 refine WQ qi ?_
 refine WQ qi ?_
 apply WM
 apply aF
 rfl
 intro b
 try rw [b]
 exact qm
 apply aF
 rfl
 intro b
 try rw [b]
 exact qi
 refine WQ qor ?_
 apply WM
 refine Wk [0, 1, 2, 3, 10, 55] [904, 100900, 100903, 100950, 100951] ?_
 (try dsimp)
 refine Ec h rfl (fun h hc8 => ?_) (fun h hc8 => ?_)
 apply Eso
 apply WM
 refine Wk [8] [904, 100900, 100903, 100950, 100951] ?_
 (try dsimp)
 apply bD
 cases h
 (try simp only [qt, qb, qn, qg])
 refine dN (xs := _) ⟨_, rfl, rfl⟩ ?_
 show _ ∧ _
 exact ⟨rfl, ⟨(by first | rfl | simp [aj, au, ah]), ⟨(by first | rfl | simp [aj, au, ah]), ⟨(by first | rfl | simp [aj, au, ah]), ⟨(by first | rfl | simp [aj, au, ah]), ⟨(by first | rfl | simp [aj, au, ah]), trivial⟩⟩⟩⟩⟩⟩
 apply bf
 refine aX [0, 1, 2, 3, 10] [904, 100900, 100903, 100950, 100951] ?_
 (try dsimp)
 apply Eso
 apply WM
 apply WM
 obtain ⟨g9, h⟩ := aQ h
 refine WQ (TG rfl (by decide) g9) ?_
 refine WQ (Dz (ts := [vu (nth a3 (0 : Int)), vu (nth a3 (1 : Int)), vu (nth a3 (2 : Int)), vu (nth a3 (3 : Int))]) rfl ((Vq (e := dh) (f := fun x => (vu x)) (fun _ => rfl) a3 4 g9).trans rfl) rfl) ?_
 refine WQ qbu ?_
 refine WQ qbu ?_
 refine W1 dnv ?_
 refine W1 dst ?_
 refine Wk [0, 1, 3, 10, 14] [14, 904, 100900, 100903, 100950, 100951] ?_
 (try dsimp)
 obtain ⟨k11, aeL, h⟩ := eX h
 refine dJ (fun (i : (List bI)) => ⟨[(0, S.one (.ptr 100900 0)), (1, zi_ a1), (10, zi_ x3.1), (14, S.one (.ptr 14 0))], [(14, ⟨false, [vi (1 : Int), vi (1 : Int), vu a2, vu (nth a3 (0 : Int)), vu (nth a3 (1 : Int)), vu (nth a3 (2 : Int)), vu (nth a3 (3 : Int)), vi (0 : Int), vu (0 : Int), vi (0 : Int), .nil, .own 1087 0 i.length (some (3, 104))]⟩), (904, ⟨true, flat aT a0.cu⟩), (1087, ⟨true, flat fB i⟩), (100900, ⟨false, [.ptr 100950 0, vi a0.dB.ak, vi a0.dB.ay, vi a0.dB.aA, .own 100903 0 a0.xw.length (some (12, 101)), .own 904 0 a0.cu.length (some (1, 3)), vb a0.fP]⟩), (100903, ⟨true, flat bU a0.xw⟩), (100950, ⟨false, [.own 100951 0 a0.xm.xl.length (some (18, 115)), vb a0.xm.dD, vi a0.xm.bC, vi a0.xm.bP, sl aT a0.xm.bQ]⟩), (100951, ⟨true, flat aN a0.xm.xl⟩)]⟩) (fun i => k11 i = some r) (fun i h => ?_) ?_
 let iv := i; change k11 i = some r at h; generalize i = v10 at h ⊢
 rw [aeL] at h; dsimp only at h
 (try dsimp)
 apply bG
 obtain ⟨x12, Sj, h⟩ := aG h
 obtain ⟨g13, h⟩ := aQ h
 refine ig [0, 1, 2, 3, 4, 6] ?_
 refine XQ 0 rfl rfl rfl qap ?_
 refine XQ 1 rfl rfl rfl ql1 ?_
 refine XQ 2 rfl rfl rfl qm ?_
 refine XQ 3 rfl rfl rfl qap ?_
 refine XQ 4 rfl rfl rfl qlA ?_
 refine X1 rfl (XK rfl (FQ hP (Dt F (⟨(1 : Int), a2, (⟨(nth a3 (0 : Int)), (nth a3 (1 : Int)), (nth a3 (2 : Int)), (nth a3 (3 : Int))⟩ : V4 Int), (⟨(0 : Int), (0 : Int), (0 : Int)⟩ : dP), ([] : (List aB))⟩ : aV) x12 Sj) rfl rfl rfl) ?_)
 refine XQ 6 rfl rfl rfl qbu ?_
 refine X1 rfl (XK rfl dbs ?_)
 refine X1 rfl (XT rfl rfl (dY (e := fB) rfl rfl (fun _ => rfl) (fun _ => rfl) rfl (Src.lit (e := fB) ([(⟨(0 : Int), x3.1, x12⟩ : bI)] : List bI) rfl (fun _ => rfl) rfl rfl) g13 rfl) ?_)
 refine X1 rfl (XT rfl rfl ((qap).does) ?_)
 refine X1 rfl (XT rfl rfl dst ?_)
 refine dL rfl ?_
 refine aX [0, 1, 10, 14] [14, 904, 1087, 100900, 100903, 100950, 100951] ?_
 (try dsimp)
 obtain ⟨k15, aeM, h⟩ := eX h
 refine dJ (fun (i : (List bI)) => ⟨[(0, S.one (.ptr 100900 0)), (1, zi_ a1), (14, S.one (.ptr 14 0))], [(14, ⟨false, [vi (1 : Int), vi (1 : Int), vu a2, vu (nth a3 (0 : Int)), vu (nth a3 (1 : Int)), vu (nth a3 (2 : Int)), vu (nth a3 (3 : Int)), vi (0 : Int), vu (0 : Int), vi (0 : Int), .nil, .own 1087 0 i.length (some (3, 104))]⟩), (904, ⟨true, flat aT a0.cu⟩), (1087, ⟨true, flat fB i⟩), (100900, ⟨false, [.ptr 100950 0, vi a0.dB.ak, vi a0.dB.ay, vi a0.dB.aA, .own 100903 0 a0.xw.length (some (12, 101)), .own 904 0 a0.cu.length (some (1, 3)), vb a0.fP]⟩), (100903, ⟨true, flat bU a0.xw⟩), (100950, ⟨false, [.own 100951 0 a0.xm.xl.length (some (18, 115)), vb a0.xm.dD, vi a0.xm.bC, vi a0.xm.bP, sl aT a0.xm.bQ]⟩), (100951, ⟨true, flat aN a0.xm.xl⟩)]⟩) (fun i => k15 i = some r) (fun i h => ?_) ?_
 let iv := i; change k15 i = some r at h; generalize i = v14 at h ⊢
 rw [aeM] at h; dsimp only at h
 (try dsimp)
 apply bG
 obtain ⟨g16, h⟩ := aQ h
 refine ig [0, 1, 2, 3, 4, 5, 6] ?_
 refine XQ 0 rfl rfl rfl qm ?_
 refine XQ 1 rfl rfl rfl qnc ?_
 refine XQ 2 rfl rfl rfl qap ?_
 refine XQ 3 rfl rfl rfl ql1 ?_
 refine XQ 4 rfl rfl rfl qm ?_
 refine XQ 5 rfl rfl rfl qlA ?_
 refine XQ 6 rfl rfl rfl (qio g16) ?_
 (try dsimp)
 refine X1 rfl (XT rfl rfl (Does.ghost (kY (r := 1087) rfl rfl).b (Does.ghost (Ee (i := 112) rfl).b (dI (e := bU) (n := 12) (k := 12) rfl rfl (fun _ => rfl) g16 0 (by omega) rfl rfl rfl (by decide) (⟨(1 : Int), (⟨(1 : Int), a2, (⟨(nth a3 (0 : Int)), (nth a3 (1 : Int)), (nth a3 (2 : Int)), (nth a3 (3 : Int))⟩ : V4 Int), (⟨(0 : Int), (0 : Int), (0 : Int)⟩ : dP), ([] : (List aB))⟩ : aV), v14⟩ : aY) rfl (by decide) rfl))) ?_)
 refine dL rfl ?_
 refine aX [] [904, 100900, 100903, 100950, 100951] ?_
 (try dsimp)
 apply Eso
 apply WM
 apply bW
 (try dsimp)
 refine dR (fK (r := 100900) rfl (by simp [aj, au, ah] : ⟨false, [.ptr 100950 0, vi a0.dB.ak, vi a0.dB.ay, vi a0.dB.aA, .own 100903 0 a0.xw.length (some (12, 101)), .own 904 0 a0.cu.length (some (1, 3)), vb a0.fP]⟩ = (⟨false, [.ptr 100950 0, vi a0.dB.ak, vi a0.dB.ay, vi a0.dB.aA, .own 100903 0 (dZ a0.xw a1 (⟨(1 : Int), (⟨(1 : Int), a2, (⟨(nth a3 (0 : Int)), (nth a3 (1 : Int)), (nth a3 (2 : Int)), (nth a3 (3 : Int))⟩ : V4 Int), (⟨(0 : Int), (0 : Int), (0 : Int)⟩ : dP), ([] : (List aB))⟩ : aV), v14⟩ : aY)).length (some (12, 101)), .own 904 0 a0.cu.length (some (1, 3)), vb a0.fP]⟩ : Reg))).b ?_
 (try dsimp)
 apply bD
 cases h
 (try simp only [qt, qb, qn, qg])
 refine dN (xs := _) ⟨_, rfl, rfl⟩ ?_
 show _ ∧ _
 exact ⟨rfl, ⟨(by first | rfl | simp [aj, au, ah]), ⟨(by first | rfl | simp [aj, au, ah]), ⟨(by first | rfl | simp [aj, au, ah]), ⟨(by first | rfl | simp [aj, au, ah]), ⟨(by first | rfl | simp [aj, au, ah]), trivial⟩⟩⟩⟩⟩⟩
 obtain ⟨x17, JL, h⟩ := aG h
 obtain ⟨g18, h⟩ := aQ h
 refine ig [2] ?_
 refine XQ 2 rfl rfl rfl qm ?_
 refine X2 rfl ?_ ?_
 refine XK rfl ((qap).does) ?_
 refine X2 rfl ?_ ?_
 refine XK rfl ((ql1).does) ?_
 refine X1 rfl (XK rfl dbs ?_)
 refine X1 rfl (XT rfl rfl (Does.ghost (fK (r := 103) (g' := ⟨true, flat aT ([x3.1] : List Int)⟩) rfl rfl).b (Does.ghost (jM (i := 103) _ rfl (by simp [aj, au, ah] : 1 = ([x3.1] : List Int).length)).b (aO [(100800, 103)] false hP (mF F ([x3.1] : List Int) x17 JL) rfl ⟨rfl, trivial⟩ rfl rfl rfl rfl rfl (fun h => by cases h) rfl))) ?_)
 refine X1 rfl (XT rfl rfl (dY (e := fB) rfl rfl (fun _ => rfl) (fun _ => rfl) rfl (Src.slF x17 (fun _ => rfl)) g18 rfl) ?_)
 refine X1 rfl (XT rfl rfl ((qap).does) ?_)
 refine X1 rfl (XT rfl rfl dst ?_)
 refine dL rfl ?_
 refine ⟨((v10 ++ ([(⟨(0 : Int), x3.1, x12⟩ : bI)] : List bI)) ++ x17), h, ?_⟩
 exact LB
 refine XK rfl dbs ?_
 refine X2 rfl ?_ ?_
 refine XK rfl ((ql1).does) ?_
 refine X1 rfl (XT rfl rfl (Does.ghost (fK (r := 103) (g' := ⟨true, flat aT ([x3.1] : List Int)⟩) rfl rfl).b (Does.ghost (jM (i := 103) _ rfl (by simp [aj, au, ah] : 1 = ([x3.1] : List Int).length)).b (aO [(100800, 103)] false hP (mF F ([x3.1] : List Int) x17 JL) rfl ⟨rfl, trivial⟩ rfl rfl rfl rfl rfl (fun h => by cases h) rfl))) ?_)
 refine X1 rfl (XT rfl rfl (dY (e := fB) rfl rfl (fun _ => rfl) (fun _ => rfl) rfl (Src.slF x17 (fun _ => rfl)) g18 rfl) ?_)
 refine X1 rfl (XT rfl rfl ((qap).does) ?_)
 refine X1 rfl (XT rfl rfl dst ?_)
 refine dL rfl ?_
 refine ⟨((v10 ++ ([(⟨(0 : Int), x3.1, x12⟩ : bI)] : List bI)) ++ x17), h, ?_⟩
 exact LB
 refine XT rfl rfl (Does.ghost (fK (r := 103) (g' := ⟨true, flat aT ([x3.1] : List Int)⟩) rfl rfl).b (Does.ghost (jM (i := 103) _ rfl (by simp [aj, au, ah] : 1 = ([x3.1] : List Int).length)).b (aO [(100800, 103)] false hP (mF F ([x3.1] : List Int) x17 JL) rfl ⟨rfl, trivial⟩ rfl rfl rfl rfl rfl (fun h => by cases h) rfl))) ?_
 refine X1 rfl (XT rfl rfl ((ql1).does) ?_)
 refine X1 rfl (XT rfl rfl (dY (e := fB) rfl rfl (fun _ => rfl) (fun _ => rfl) rfl (Src.slF x17 (fun _ => rfl)) g18 rfl) ?_)
 refine X1 rfl (XT rfl rfl ((qap).does) ?_)
 refine X1 rfl (XT rfl rfl dst ?_)
 refine dL rfl ?_
 refine ⟨((v10 ++ ([(⟨(0 : Int), x3.1, x12⟩ : bI)] : List bI)) ++ x17), h, ?_⟩
 exact LB
 refine XK rfl dbs ?_
 refine X2 rfl ?_ ?_
 refine XK rfl ((qap).does) ?_
 refine X2 rfl ?_ ?_
 refine XK rfl ((ql1).does) ?_
 refine X1 rfl (XT rfl rfl (Does.ghost (fK (r := 103) (g' := ⟨true, flat aT ([x3.1] : List Int)⟩) rfl rfl).b (Does.ghost (jM (i := 103) _ rfl (by simp [aj, au, ah] : 1 = ([x3.1] : List Int).length)).b (aO [(100800, 103)] false hP (mF F ([x3.1] : List Int) x17 JL) rfl ⟨rfl, trivial⟩ rfl rfl rfl rfl rfl (fun h => by cases h) rfl))) ?_)
 refine X1 rfl (XT rfl rfl (dY (e := fB) rfl rfl (fun _ => rfl) (fun _ => rfl) rfl (Src.slF x17 (fun _ => rfl)) g18 rfl) ?_)
 refine X1 rfl (XT rfl rfl ((qap).does) ?_)
 refine X1 rfl (XT rfl rfl dst ?_)
 refine dL rfl ?_
 refine ⟨((v10 ++ ([(⟨(0 : Int), x3.1, x12⟩ : bI)] : List bI)) ++ x17), h, ?_⟩
 exact LB
 refine XT rfl rfl (Does.ghost (fK (r := 103) (g' := ⟨true, flat aT ([x3.1] : List Int)⟩) rfl rfl).b (Does.ghost (jM (i := 103) _ rfl (by simp [aj, au, ah] : 1 = ([x3.1] : List Int).length)).b (aO [(100800, 103)] false hP (mF F ([x3.1] : List Int) x17 JL) rfl ⟨rfl, trivial⟩ rfl rfl rfl rfl rfl (fun h => by cases h) rfl))) ?_
 refine X1 rfl (XT rfl rfl ((ql1).does) ?_)
 refine X1 rfl (XT rfl rfl (dY (e := fB) rfl rfl (fun _ => rfl) (fun _ => rfl) rfl (Src.slF x17 (fun _ => rfl)) g18 rfl) ?_)
 refine X1 rfl (XT rfl rfl ((qap).does) ?_)
 refine X1 rfl (XT rfl rfl dst ?_)
 refine dL rfl ?_
 refine ⟨((v10 ++ ([(⟨(0 : Int), x3.1, x12⟩ : bI)] : List bI)) ++ x17), h, ?_⟩
 exact LB
 refine XT rfl rfl (Does.ghost (fK (r := 103) (g' := ⟨true, flat aT ([x3.1] : List Int)⟩) rfl rfl).b (Does.ghost (jM (i := 103) _ rfl (by simp [aj, au, ah] : 1 = ([x3.1] : List Int).length)).b (aO [(100800, 103)] false hP (mF F ([x3.1] : List Int) x17 JL) rfl ⟨rfl, trivial⟩ rfl rfl rfl rfl rfl (fun h => by cases h) rfl))) ?_
 refine X1 rfl (XT rfl rfl ((qap).does) ?_)
 refine X1 rfl (XT rfl rfl ((ql1).does) ?_)
 refine X1 rfl (XT rfl rfl (dY (e := fB) rfl rfl (fun _ => rfl) (fun _ => rfl) rfl (Src.slF x17 (fun _ => rfl)) g18 rfl) ?_)
 refine X1 rfl (XT rfl rfl ((qap).does) ?_)
 refine X1 rfl (XT rfl rfl dst ?_)
 refine dL rfl ?_
 refine ⟨((v10 ++ ([(⟨(0 : Int), x3.1, x12⟩ : bI)] : List bI)) ++ x17), h, ?_⟩
 exact LB
 apply Eso
 apply WM
 refine WQ qls ?_
 apply WM
 refine Wk [0, 1, 10, 14, 71, 72, 73] [14, 904, 100900, 100903, 100950, 100951] ?_
 (try dsimp)
 apply bT
 (try dsimp)
 refine eG (fun (i : Int × (List bI)) => ⟨[(0, S.one (.ptr 100900 0)), (1, zi_ a1), (10, zi_ x3.1), (14, S.one (.ptr 14 0)), (71, ss dh a3), (72, (zi_ ((a3.length : Nat) : Int))), (73, zi_ i.1)], [(14, ⟨false, [vi (1 : Int), vi (1 : Int), vu a2, vu (nth a3 (0 : Int)), vu (nth a3 (1 : Int)), vu (nth a3 (2 : Int)), vu (nth a3 (3 : Int)), vi (0 : Int), vu (0 : Int), vi (0 : Int), .nil, .own 1087 0 i.2.length (some (3, 104))]⟩), (904, ⟨true, flat aT a0.cu⟩), (1087, ⟨true, flat fB i.2⟩), (100900, ⟨false, [.ptr 100950 0, vi a0.dB.ak, vi a0.dB.ay, vi a0.dB.aA, .own 100903 0 a0.xw.length (some (12, 101)), .own 904 0 a0.cu.length (some (1, 3)), vb a0.fP]⟩), (100903, ⟨true, flat bU a0.xw⟩), (100950, ⟨false, [.own 100951 0 a0.xm.xl.length (some (18, 115)), vb a0.xm.dD, vi a0.xm.bC, vi a0.xm.bP, sl aT a0.xm.bQ]⟩), (100951, ⟨true, flat aN a0.xm.xl⟩)]⟩) (fun n i => jv F a3 x3 k11 n i.1 i.2 = some r) F ((0 : Int), ([] : List bI)) h ?_ (fun n i h => ?_)
 refine fM (rM (q := 14) (j := 11) (r := 1087) 3 104 rfl rfl rfl rfl) ?_
 exact LB
 obtain ⟨v33, v34⟩ := i; dsimp only at h
 obtain _ | n35 := n
 cases h
 unfold jv at h
 (try dsimp)
 apply Eso
 refine WQ qi ?_
 apply bW
 (try dsimp)
 apply bG
 refine Ec h rfl (fun h aeN => ?_) (fun h aeN => ?_)
 apply bf
 refine aX [0, 1, 10, 14, 71, 72, 73] [14, 904, 1087, 100900, 100903, 100950, 100951] ?_
 (try dsimp)
 apply bG
 apply bT
 apply Eso
 apply WM
 obtain ⟨g37, h⟩ := aQ h
 refine WQ (qis g37) ?_
 refine WQ (q1F 1 g37 0) ?_
 apply WM
 apply WM
 refine Wk [0, 1, 10, 14, 15, 16, 71, 72, 73] [14, 904, 1087, 100900, 100903, 100950, 100951] ?_
 (try dsimp)
 apply dO
 refine WQ qap ?_
 refine WQ ql1 ?_
 apply WM
 obtain ⟨g38, h⟩ := aQ h
 refine WQ (qad g38) ?_
 apply WM
 obtain ⟨g39, h⟩ := aQ h
 refine WQ (qad g39) ?_
 apply WM
 refine WQ qbu ?_
 refine W1 dbs ?_
 obtain ⟨g40, h⟩ := aQ h
 refine W1 (dY (e := fB) rfl rfl (fun _ => rfl) (fun _ => rfl) rfl (Src.lit (e := fB) ([(⟨(0 : Int), ((x3.1 + (1 : Int)) + v33), (nth a3 v33)⟩ : bI)] : List bI) rfl (fun _ => rfl) rfl rfl) g40 rfl) ?_
 refine WQ qap ?_
 refine W1 dst ?_
 refine Wk [0, 1, 10, 14, 71, 72, 73] [14, 904, 1087, 100900, 100903, 100950, 100951] ?_
 (try dsimp)
 apply dO
 obtain ⟨g41, h⟩ := aQ h
 refine WQ (qad g41) ?_
 apply WM
 apply bW
 refine ⟨n35, ((v33 + (1 : Int)), (v34 ++ ([(⟨(0 : Int), ((x3.1 + (1 : Int)) + v33), (nth a3 v33)⟩ : bI)] : List bI))), Nat.lt_succ_self _, h, ?_⟩
 exact LB
 apply gy
 refine ⟨v34, h, ?_⟩
 exact LB
def DC : cO := (q [o (.box 104 2) 5, o (.mv (ci 0)) 6] (.seq (q [o (.add 0 5) 10, o (.load nn 1 10) 11] (.block 0 (q [o (.bin .eql 3 11 (ci 1)) 13, w 12 13] (.cond 12 (.seq (.draw [((w 14 0), []), ((o (.dG 14) 15), [0]), ((o (.add 0 15) 16), [1]), ((o (.load nn 1 16) 17), [2]), ((o (.add 1 5) 18), []), ((o (.load nn 1 18) 19), [4]), ((o (.call 107 [17, 19]) 20), [3, 5]), ((w 6 20), [6, 6, 0, 1, 2, 3, 4, 5, 6])]) .ret) (q [o (.bin .eql 3 11 (ci 2)) 22, w 21 22] (.cond 21 (q [w 23 0, o (.dG 23) 24, o (.add 0 24) 25, o (.load nn 1 25) 26, o (.call 108 [26]) 27, w 6 27] .ret) .skip)))))) (.seq (.draw [((w 28 0), []), ((o (.dG 28) 29), [0]), ((o (.add 0 29) 30), [1]), ((o (.load nn 1 30) 31), [2]), ((o (.add 1 5) 32), []), ((o (.load nn 1 32) 33), [4]), ((o (.add 2 5) 34), []), ((o (.load nn 1 34) 35), [6]), ((o (.call 40 [31, 33, 35]) 36), [3, 5, 7]), ((w 7 36), [8, 8, 0, 1, 2, 3, 4, 5, 6, 7, 8])]) (.seq (q [w 38 0, o (.dG 38) 39, o (.add 1 39) 40, o (.load yy 3 40) 41, w 42 1, o (.call 39 [41, 42]) 43, w 37 43, o (.ext 0 37) 44, o (.ext 1 37) 45, w 8 44, w 9 45] (q [w 46 7, o (.bin .eql 32 46 (ci 0)) 47, w 48 47, g_ (.add 1 5) 49 48 yy, g_ (.load nn 1 49) 50 48 yy, g_ (.mv 8) 51 48 yy, g_ (.bin .eql 3 50 51) 52 48 yy, o (.pick 48 52 (cb nn)) 53, w 54 53, g_ (.add 2 5) 55 54 yy, g_ (.load nn 1 55) 56 54 yy, g_ (.bin .and 22 56 (.const (.int .u64 255))) 57 54 yy, g_ (.bin .eql 22 57 (.const (.int .u64 2))) 58 54 yy, o (.pick 54 58 (cb nn)) 59] (.cond 59 (.ops [w 60 0, w 61 0, o (.dG 61) 62, o (.add 5 62) 63, o (.load nn 1 63) 64, w 65 1, o (.iW 1 3 1 [zi] [(0, (1, 65))]) 66, o (.app 47 3 1 8 64 66) 67, o (.dG 60) 68, o (.add 5 68) 69, n_ (.store 1 69 67)]) .skip))) (q [w 70 7, w 6 70] .ret)))))
theorem Nh : Fits Tryz.prog 85 3 DC [(.tmp 6)] := fk Tryz.func85
theorem Nj (F : Nat) (a0 : aW) (a1 : Int) (a2 : bI) (r : aW × Int) (h : rG F a0 a1 a2 = some r) : AC Tryz.prog 85 [S.one (.ptr 100900 0), (zi_ a1), S.agg [vi a2.OL, vi a2.xat, vu a2.xv]] [(904, ⟨true, flat aT a0.cu⟩), (100900, ⟨false, [.ptr 100950 0, vi a0.dB.ak, vi a0.dB.ay, vi a0.dB.aA, .own 100903 0 a0.xw.length (some (12, 101)), .own 904 0 a0.cu.length (some (1, 3)), vb a0.fP]⟩), (100903, ⟨true, flat bU a0.xw⟩), (100950, ⟨false, [.own 100951 0 a0.xm.xl.length (some (18, 115)), vb a0.xm.dD, vi a0.xm.bC, vi a0.xm.bP, sl aT a0.xm.bQ]⟩), (100951, ⟨true, flat aN a0.xm.xl⟩)] (fun x s' => x = (zi_ r.2) ∧ l9 s' [(904, ⟨true, flat aT r.1.cu⟩), (100900, ⟨false, [.ptr 100950 0, vi r.1.dB.ak, vi r.1.dB.ay, vi r.1.dB.aA, .own 100903 0 r.1.xw.length (some (12, 101)), .own 904 0 r.1.cu.length (some (1, 3)), vb r.1.fP]⟩), (100903, ⟨true, flat bU r.1.xw⟩), (100950, ⟨false, [.own 100951 0 r.1.xm.xl.length (some (18, 115)), vb r.1.xm.dD, vi r.1.xm.bC, vi r.1.xm.bP, sl aT r.1.xm.bQ]⟩), (100951, ⟨true, flat aN r.1.xm.xl⟩)]) := by
 unfold rG at h
 refine lN Nh rfl ?_
 intro C hP
 unfold DC; dsimp
 apply Eso
 refine W1 dbx ?_
 apply WM
 refine Wk [0, 1, 5] [5, 904, 100900, 100903, 100950, 100951] ?_
 (try dsimp)
 apply bG
 apply Eso
 refine WQ qap ?_
 refine WQ ql1 ?_
 refine Wk [0, 1, 5, 11] [5, 904, 100900, 100903, 100950, 100951] ?_
 (try dsimp)
 apply bT
 apply Eso
 refine WQ qi ?_
 apply WM
 refine Wk [0, 1, 5, 11, 12] [5, 904, 100900, 100903, 100950, 100951] ?_
 (try dsimp)
 refine Ec h rfl (fun h hc1 => ?_) (fun h hc1 => ?_)
 apply bG
 obtain ⟨x2, x2h, h⟩ := aG h
 refine ig [0, 1, 2, 3, 4, 5] ?_
 refine XQ 0 rfl rfl rfl qm ?_
 refine XQ 1 rfl rfl rfl qnc ?_
 refine XQ 2 rfl rfl rfl qap ?_
 refine XQ 3 rfl rfl rfl ql1 ?_
 refine XQ 4 rfl rfl rfl qap ?_
 refine XQ 5 rfl rfl rfl ql1 ?_
 refine X1 rfl (XT rfl rfl (aO [(100900, 100950), (100901, 100951)] false hP (BF F a0.xm a2.xat x2 x2h) rfl ⟨rfl, rfl, trivial⟩ rfl rfl rfl rfl rfl (fun h => by first | rfl | cases h) rfl) ?_)
 refine X1 rfl (XT rfl rfl ((qm).does) ?_)
 refine dL rfl ?_
 refine aX [6] [904, 100900, 100903, 100950, 100951] ?_
 (try dsimp)
 apply bD
 cases h
 (try simp only [qt, qb, qn, qg])
 refine dN (xs := _) ⟨_, rfl, rfl⟩ ?_
 show _ ∧ _
 exact ⟨rfl, ⟨(by first | rfl | simp [aj, au, ah]), ⟨(by first | rfl | simp [aj, au, ah]), ⟨(by first | rfl | simp [aj, au, ah]), ⟨(by first | rfl | simp [aj, au, ah]), ⟨(by first | rfl | simp [aj, au, ah]), trivial⟩⟩⟩⟩⟩⟩
 apply Eso
 refine WQ qi ?_
 apply WM
 refine Wk [0, 1, 5, 21] [5, 904, 100900, 100903, 100950, 100951] ?_
 (try dsimp)
 refine Ec h rfl (fun h hc3 => ?_) (fun h hc3 => ?_)
 apply Eso
 apply WM
 refine WQ qnc ?_
 refine WQ qap ?_
 refine WQ ql1 ?_
 obtain ⟨x4, x4h, h⟩ := aG h
 refine W1 (aO [(100900, 100950), (100901, 100951)] false hP (BI F a0.xm x4 x4h) rfl ⟨rfl, rfl, trivial⟩ rfl rfl rfl rfl rfl (fun h => by first | rfl | cases h) rfl) ?_
 (try dsimp)
 apply WM
 refine Wk [6] [904, 100900, 100903, 100950, 100951] ?_
 (try dsimp)
 apply bD
 cases h
 (try simp only [qt, qb, qn, qg])
 refine dN (xs := _) ⟨_, rfl, rfl⟩ ?_
 show _ ∧ _
 exact ⟨rfl, ⟨(by first | rfl | simp [aj, au, ah]), ⟨(by first | rfl | simp [aj, au, ah]), ⟨(by first | rfl | simp [aj, au, ah]), ⟨(by first | rfl | simp [aj, au, ah]), ⟨(by first | rfl | simp [aj, au, ah]), trivial⟩⟩⟩⟩⟩⟩
 apply bf
 refine aX [0, 1, 5] [5, 904, 100900, 100903, 100950, 100951] ?_
 (try dsimp)
 apply bG
 obtain ⟨x5, x5h, h⟩ := aG h
 refine ig [0, 1, 2, 3, 4, 5, 6, 7] ?_
 refine XQ 0 rfl rfl rfl qm ?_
 refine XQ 1 rfl rfl rfl qnc ?_
 refine XQ 2 rfl rfl rfl qap ?_
 refine XQ 3 rfl rfl rfl ql1 ?_
 refine XQ 4 rfl rfl rfl qap ?_
 refine XQ 5 rfl rfl rfl ql1 ?_
 refine XQ 6 rfl rfl rfl qap ?_
 refine XQ 7 rfl rfl rfl ql1 ?_
 (try dsimp)
 refine X1 rfl (XT rfl rfl (aO [(100900, 100950), (100901, 100951)] false hP (dw F a0.xm a2.xat a2.xv x5 x5h) rfl ⟨rfl, rfl, trivial⟩ rfl rfl rfl rfl rfl (fun h => by first | rfl | cases h) rfl) ?_)
 refine X1 rfl (XT rfl rfl ((qm).does) ?_)
 refine dL rfl ?_
 refine aX [0, 1, 5, 7] [5, 904, 100900, 100903, 100950, 100951] ?_
 (try dsimp)
 obtain ⟨k7, k7d, h⟩ := eX h
 refine dJ (fun (i : (List Int)) => ⟨[(7, zi_ x5.2)], [(904, ⟨true, flat aT i⟩), (100900, ⟨false, [.ptr 100950 0, vi a0.dB.ak, vi a0.dB.ay, vi a0.dB.aA, .own 100903 0 a0.xw.length (some (12, 101)), .own 904 0 i.length (some (1, 3)), vb a0.fP]⟩), (100903, ⟨true, flat bU a0.xw⟩), (100950, ⟨false, [.own 100951 0 x5.1.xl.length (some (18, 115)), vb x5.1.dD, vi x5.1.bC, vi x5.1.bP, sl aT x5.1.bQ]⟩), (100951, ⟨true, flat aN x5.1.xl⟩)]⟩) (fun i => k7 i = some r) (fun i h => ?_) ?_
 let iv := i; change k7 i = some r at h; generalize i = v6 at h ⊢
 rw [k7d] at h; dsimp only at h
 (try dsimp)
 apply Eso
 apply WM
 apply WM
 refine Wk [6] [904, 100900, 100903, 100950, 100951] ?_
 (try dsimp)
 apply bD
 cases h
 (try simp only [qt, qb, qn, qg])
 refine dN (xs := _) ⟨_, rfl, rfl⟩ ?_
 show _ ∧ _
 exact ⟨rfl, ⟨(by first | rfl | simp [aj, au, ah]), ⟨(by first | rfl | simp [aj, au, ah]), ⟨(by first | rfl | simp [aj, au, ah]), ⟨(by first | rfl | simp [aj, au, ah]), ⟨(by first | rfl | simp [aj, au, ah]), trivial⟩⟩⟩⟩⟩⟩
 apply Eso
 apply WM
 refine WQ qnc ?_
 refine WQ qap ?_
 refine WQ qlA ?_
 apply WM
 obtain ⟨x8, x8h, h⟩ := aG h
 refine W1 (dc1 hP (qE F a0.dB a1 x8 x8h)) ?_
 apply WM
 refine WQ qx ?_
 refine WQ qx ?_
 apply WM
 apply WM
 refine Wk [0, 1, 5, 7, 8] [5, 904, 100900, 100903, 100950, 100951] ?_
 (try dsimp)
 apply Eso
 apply WM
 refine WQ qi ?_
 apply WM
 apply aF
 rfl
 intro b
 try rw [b]
 exact qap
 apply aF
 rfl
 intro b
 try rw [b]
 exact ql1
 apply aF
 rfl
 intro b
 try rw [b]
 exact qm
 apply aF
 rfl
 intro b
 try rw [b]
 exact qi
 refine WQ qan ?_
 apply WM
 apply aF
 rfl
 intro b
 try rw [b]
 exact qap
 apply aF
 rfl
 intro b
 try rw [b]
 exact ql1
 apply aF
 rfl
 intro b
 try rw [b]
 exact qi
 apply aF
 rfl
 intro b
 try rw [b]
 exact qi
 refine WQ qan ?_
 refine Wk [0, 1, 7, 59] [904, 100900, 100903, 100950, 100951] ?_
 (try dsimp)
 refine Ec h rfl (fun h hc9 => ?_) (fun h hc9 => ?_)
 apply dO
 apply WM
 apply WM
 refine WQ qnc ?_
 refine WQ qap ?_
 refine WQ ql1 ?_
 apply WM
 refine W1 dbs ?_
 obtain ⟨g10, h⟩ := aQ h
 refine W1 (dY (e := aT) rfl rfl (fun _ => rfl) (fun _ => rfl) rfl (Src.lit (e := aT) ([a1] : List Int) rfl (fun _ => rfl) rfl rfl) g10 rfl) ?_
 refine WQ qnc ?_
 refine WQ qap ?_
 refine W1 dst ?_
 apply bW
 refine ⟨(a0.cu ++ ([a1] : List Int)), h, ?_⟩
 exact LB
 apply bf
 refine ⟨a0.cu, h, ?_⟩
 exact LB
def DF : cO := (q [o (.mv (cb nn)) 8, o (.mv (ci 0)) 9] (q [w 13 0, w 14 1, o (.call 44 [13, 14]) 15, w 12 15, o (.ext 0 12) 16, o (.ext 1 12) 17, w 10 16, w 11 17] (.seq (q [w 18 11, o (.bin .neq 32 18 (ci 0)) 19, w 20 19, g_ (.mv 10) 21 20 nn, g_ (.mv 2) 22 20 nn, g_ (.bin .neq 22 21 22) 23 20 nn, o (.pick 20 (cb yy) 23) 24] (.cond 24 (q [w 25 11, o (.mv (cb nn)) 8, w 9 25] .ret) .skip)) (q [w 26 0, w 27 1, w 28 3, o (.call 40 [26, 27, 28]) 29, w 11 29] (q [w 30 11, o (.bin .eql 32 30 (ci 0)) 31, w 32 11, w 8 31, w 9 32] .ret)))))
theorem Nk : Fits Tryz.prog 86 4 DF [(.tmp 8), (.tmp 9)] := fk Tryz.func86
theorem Nl (F : Nat) (a0 : aC) (a1 : Int) (a2 : Int) (a3 : Int) (r : aC × Bool × Int) (h : xX F a0 a1 a2 a3 = some r) : AC Tryz.prog 86 [S.one (.ptr 100900 0), (zi_ a1), (zu_ a2), (zu_ a3)] [(100900, ⟨false, [.own 100901 0 a0.xl.length (some (18, 115)), vb a0.dD, vi a0.bC, vi a0.bP, sl aT a0.bQ]⟩), (100901, ⟨true, flat aN a0.xl⟩)] (fun x s' => x = S.tup [(zb_ r.2.1), (zi_ r.2.2)] ∧ l9 s' [(100900, ⟨false, [.own 100901 0 r.1.xl.length (some (18, 115)), vb r.1.dD, vi r.1.bC, vi r.1.bP, sl aT r.1.bQ]⟩), (100901, ⟨true, flat aN r.1.xl⟩)]) := by
 unfold xX at h
 refine lN Nk rfl ?_
 intro C hP
 unfold DF; dsimp
 apply Eso
 apply WM
 apply WM
 refine Wk [0, 1, 2, 3] [100900, 100901] ?_
 apply Eso
 apply WM
 apply WM
 obtain ⟨x1, x1h, h⟩ := aG h
 refine W1 (aO [] false hP (rP F a0 a1 x1 x1h) rfl ⟨rfl, rfl, trivial⟩ rfl rfl rfl rfl rfl (fun h => by first | rfl | cases h) rfl) ?_
 apply WM
 refine WQ qx ?_
 refine WQ qx ?_
 apply WM
 apply WM
 refine Wk [0, 1, 2, 3, 10, 11] [100900, 100901] ?_
 apply bG
 apply Eso
 apply WM
 refine WQ qi ?_
 apply WM
 apply aF
 rfl
 intro b
 try rw [b]
 exact qm
 apply aF
 rfl
 intro b
 try rw [b]
 exact qm
 apply aF
 rfl
 intro b
 try rw [b]
 exact qi
 refine WQ qor ?_
 refine Wk [0, 1, 3, 11, 24] [100900, 100901] ?_
 refine Ec h rfl (fun h hc2 => ?_) (fun h hc2 => ?_)
 apply Eso
 apply WM
 apply WM
 apply WM
 refine Wk [8, 9] [100900, 100901] ?_
 apply bD
 cases h
 (try simp only [qt, qb, qn, qg])
 refine dN (xs := _) ⟨_, rfl, ⟨_, rfl, rfl⟩⟩ ?_
 show _ ∧ _
 exact ⟨rfl, ⟨(by first | rfl | simp [aj, au, ah]), ⟨(by first | rfl | simp [aj, au, ah]), trivial⟩⟩⟩
 apply bf
 refine aX [0, 1, 3] [100900, 100901] ?_
 apply Eso
 apply WM
 apply WM
 apply WM
 obtain ⟨x3, x3h, h⟩ := aG h
 refine W1 (aO [] false hP (dw F a0 a1 a3 x3 x3h) rfl ⟨rfl, rfl, trivial⟩ rfl rfl rfl rfl rfl (fun h => by first | rfl | cases h) rfl) ?_
 apply WM
 refine Wk [11] [100900, 100901] ?_
 apply Eso
 apply WM
 refine WQ qi ?_
 apply WM
 apply WM
 apply WM
 refine Wk [8, 9] [100900, 100901] ?_
 apply bD
 cases h
 (try simp only [qt, qb, qn, qg])
 refine dN (xs := _) ⟨_, rfl, ⟨_, rfl, rfl⟩⟩ ?_
 show _ ∧ _
 exact ⟨rfl, ⟨(by first | rfl | simp [aj, au, ah]), ⟨(by first | rfl | simp [aj, au, ah]), trivial⟩⟩⟩
def zY : cO := (q [o (.mv cn) 6] (q [w 10 0, o (.dG 10) 11, o (.add 4 11) 12, o (.load nn 1 12) 13, w 14 1, o (.fH 12 13 14) 15, w 7 15] (q [w 16 7, w 17 2, o (.dG 16) 18, o (.add 1 18) 19, o (.add 0 19) 20, n_ (.store 1 20 17)] (q [w 22 0, o (.dG 22) 23, o (.add 1 23) 24, o (.load yy 3 24) 25, w 26 1, o (.call 39 [25, 26]) 27, w 21 27, o (.ext 0 21) 28, o (.ext 1 21) 29, w 8 28, w 9 29] (q [w 30 8, w 31 7, o (.dG 31) 32, o (.add 1 32) 33, o (.load yy 10 33) 34, o (.call 45 [34]) 35, o (.build [zi, zi, zu] [(0, (1, (ci 0))), (1, (1, 30)), (2, (1, 35))]) 36, o (.iW 3 104 1 [zi, zi, zu] [(0, (3, 36))]) 37, w 38 8, o (.iW 1 3 1 [zi] [(0, (1, 38))]) 39, o (.call 46 [39]) 40, o (.app 99 104 3 24 37 40) 41, w 6 41] .ret)))))
theorem Ir : Fits Tryz.prog 88 3 zY [(.tmp 6)] := fk Tryz.func88
theorem zZ (F : Nat) (a0 : aW) (a1 : Int) (a2 : Int) (r : aW × (List bI)) (h : sH F a0 a1 a2 = some r) : AC Tryz.prog 88 [S.one (.ptr 100900 0), (zi_ a1), (zi_ a2)] [(904, ⟨true, flat aT a0.cu⟩), (100900, ⟨false, [.ptr 100950 0, vi a0.dB.ak, vi a0.dB.ay, vi a0.dB.aA, .own 100903 0 a0.xw.length (some (12, 101)), .own 904 0 a0.cu.length (some (1, 3)), vb a0.fP]⟩), (100903, ⟨true, flat bU a0.xw⟩), (100950, ⟨false, [.own 100951 0 a0.xm.xl.length (some (18, 115)), vb a0.xm.dD, vi a0.xm.bC, vi a0.xm.bP, sl aT a0.xm.bQ]⟩), (100951, ⟨true, flat aN a0.xm.xl⟩)] (fun x s' => x = ss fB r.2 ∧ l9 s' [(904, ⟨true, flat aT r.1.cu⟩), (100900, ⟨false, [.ptr 100950 0, vi r.1.dB.ak, vi r.1.dB.ay, vi r.1.dB.aA, .own 100903 0 r.1.xw.length (some (12, 101)), .own 904 0 r.1.cu.length (some (1, 3)), vb r.1.fP]⟩), (100903, ⟨true, flat bU r.1.xw⟩), (100950, ⟨false, [.own 100951 0 r.1.xm.xl.length (some (18, 115)), vb r.1.xm.dD, vi r.1.xm.bC, vi r.1.xm.bP, sl aT r.1.xm.bQ]⟩), (100951, ⟨true, flat aN r.1.xm.xl⟩)]) := by
 unfold sH at h
 refine lN Ir rfl ?_
 intro C hP
 unfold zY; dsimp
 apply Eso
 apply WM
 refine Wk [0, 1, 2] [904, 100900, 100903, 100950, 100951] ?_
 (try dsimp)
 apply Eso
 apply WM
 refine WQ qnc ?_
 refine WQ qap ?_
 refine WQ ql1 ?_
 apply WM
 obtain ⟨g1, h⟩ := aQ h
 refine WQ (qio g1) ?_
 apply WM
 refine Wk [0, 1, 2, 7] [904, 100900, 100903, 100950, 100951] ?_
 (try dsimp)
 apply Eso
 apply WM
 apply WM
 refine WQ qnc ?_
 refine WQ qap ?_
 refine WQ qap ?_
 refine W1 (dI (e := bU) (n := 1) (k := 12) rfl rfl (fun _ => rfl) g1 1 (by omega) rfl rfl rfl (by decide) (⟨(nth a0.xw a1).l7, (⟨a2, (nth a0.xw a1).xd.jD, (nth a0.xw a1).xd.xL, (nth a0.xw a1).xd.bJ, (nth a0.xw a1).xd.xW⟩ : aV), (nth a0.xw a1).xl⟩ : aY) rfl (by decide) rfl) ?_
 refine Wk [0, 1, 7] [904, 100900, 100903, 100950, 100951] ?_
 (try dsimp)
 apply Eso
 apply WM
 refine WQ qnc ?_
 refine WQ qap ?_
 refine WQ qlA ?_
 apply WM
 obtain ⟨x2, x2h, h⟩ := aG h
 refine W1 (dc1 hP (qE F a0.dB a1 x2 x2h)) ?_
 apply WM
 refine WQ qx ?_
 refine WQ qx ?_
 apply WM
 apply WM
 refine Wk [7, 8] [904, 100900, 100903, 100950, 100951] ?_
 (try dsimp)
 apply Eso
 apply WM
 apply WM
 refine WQ qnc ?_
 refine WQ qap ?_
 refine WQ (Np (k := 12) rfl rfl (fun _ => rfl) (by first | exact g1 | exact kH.1 g1 | simpa only [kH] using g1) 1 (by omega) rfl rfl (by decide)) ?_
 obtain ⟨x3, x3h, h⟩ := aG h
 refine W1 (dc1 hP (Dt F (⟨a2, (nth a0.xw a1).xd.jD, (nth a0.xw a1).xd.xL, (nth a0.xw a1).xd.bJ, (nth a0.xw a1).xd.xW⟩ : aV) x3 x3h)) ?_
 refine WQ qbu ?_
 refine W1 dbs ?_
 apply WM
 refine W1 dbs ?_
 obtain ⟨x4, x4h, h⟩ := aG h
 refine W1 (Does.ghost (fK (r := 39) (g' := ⟨true, flat aT ([x2.1] : List Int)⟩) rfl rfl).b (Does.ghost (jM (i := 39) _ rfl (by simp [aj, au, ah] : 1 = ([x2.1] : List Int).length)).b (aO [(100800, 39)] false hP (mF F ([x2.1] : List Int) x4 x4h) rfl ⟨rfl, trivial⟩ rfl rfl rfl rfl rfl (fun h => by cases h) rfl))) ?_
 (try dsimp)
 obtain ⟨g5, h⟩ := aQ h
 refine W1 (Does.ghost (fK (r := 37) (g' := ⟨true, flat fB ([(⟨(0 : Int), x2.1, x3⟩ : bI)] : List bI)⟩) rfl rfl).b (dY (e := fB) rfl rfl (fun _ => rfl) (fun _ => rfl) rfl (Src.slF x4 (fun _ => rfl)) g5 rfl)) ?_
 apply WM
 refine Wk [6] [37, 904, 100900, 100903, 100950, 100951] ?_
 (try dsimp)
 refine dR (fK (r := 100900) rfl (by simp [aj, au, ah] : ⟨false, [.ptr 100950 0, vi a0.dB.ak, vi a0.dB.ay, vi a0.dB.aA, .own 100903 0 a0.xw.length (some (12, 101)), .own 904 0 a0.cu.length (some (1, 3)), vb a0.fP]⟩ = ⟨false, [.ptr 100950 0, vi a0.dB.ak, vi a0.dB.ay, vi a0.dB.aA, .own 100903 0 (dZ a0.xw a1 (⟨(nth a0.xw a1).l7, (⟨a2, (nth a0.xw a1).xd.jD, (nth a0.xw a1).xd.xL, (nth a0.xw a1).xd.bJ, (nth a0.xw a1).xd.xW⟩ : aV), (nth a0.xw a1).xl⟩ : aY)).length (some (12, 101)), .own 904 0 a0.cu.length (some (1, 3)), vb a0.fP]⟩)).b ?_
 (try dsimp)
 refine dR (kY (r := 37) rfl rfl).b ?_
 (try dsimp)
 apply bD
 cases h
 (try simp only [qt, qb, qn, qg])
 refine dN (xs := _) ⟨_, rfl, rfl⟩ ?_
 show _ ∧ _
 exact ⟨rfl, ⟨(by first | rfl | simp [aj, au, ah]), ⟨(by first | rfl | simp [aj, au, ah]), ⟨(by first | rfl | simp [aj, au, ah]), ⟨(by first | rfl | simp [aj, au, ah]), ⟨(by first | rfl | simp [aj, au, ah]), trivial⟩⟩⟩⟩⟩⟩
def yD : cO := (q [o (.mv cn) 4] (q [o (.mv cn) 5] (q [o (.mv cn) 6] (.seq (q [w 9 0, o (.dG 9) 10, o (.add 4 10) 11, o (.load nn 1 11) 12, w 13 1, o (.fH 12 12 13) 14, o (.add 1 14) 15, o (.add 9 15) 16, o (.load nn 1 16) 17, o (.len nn 17) 18, o (.mv (ci 0)) 19] (.block 0 (.loop (q [o (.bin .lss 3 19 18) 20] (.seq (.cond 20 .skip (.exit 0)) (.seq (.block 1 (q [o (.fH 2 17 19) 21, o (.load yy 2 21) 22, o (.jm [zi, zu]) 8, n_ (.store 2 8 22)] (q [w 23 5, o (.add 0 8) 24, o (.load nn 1 24) 25, o (.add 1 8) 26, o (.load nn 1 26) 27, o (.build [zi, zi, zu] [(0, (1, (ci 0))), (1, (1, 25)), (2, (1, 27))]) 28, o (.iW 3 104 1 [zi, zi, zu] [(0, (3, 28))]) 29, o (.app 99 104 3 24 23 29) 30, w 5 30] (.ops [w 31 6, o (.add 0 8) 32, o (.load nn 1 32) 33, o (.iW 1 3 1 [zi] [(0, (1, 33))]) 34, o (.app 47 3 1 8 31 34) 35, w 6 35])))) (.ops [o (.bin .add 3 19 (ci 1)) 36, w 19 36]))))))) (q [w 37 5, w 38 6, o (.call 46 [38]) 39, o (.app 99 104 3 24 37 39) 40, w 4 40] .ret)))))
theorem FT : Fits Tryz.prog 89 2 yD [(.tmp 4)] := fk Tryz.func89
theorem FU (F : Nat) (a0 : aW) (a1 : Int) (r : (List bI)) (h : ug F a0 a1 = some r) : AC Tryz.prog 89 [S.one (.ptr 100900 0), (zi_ a1)] [(904, ⟨true, flat aT a0.cu⟩), (100900, ⟨false, [.ptr 100950 0, vi a0.dB.ak, vi a0.dB.ay, vi a0.dB.aA, .own 100903 0 a0.xw.length (some (12, 101)), .own 904 0 a0.cu.length (some (1, 3)), vb a0.fP]⟩), (100903, ⟨true, flat bU a0.xw⟩), (100950, ⟨false, [.own 100951 0 a0.xm.xl.length (some (18, 115)), vb a0.xm.dD, vi a0.xm.bC, vi a0.xm.bP, sl aT a0.xm.bQ]⟩), (100951, ⟨true, flat aN a0.xm.xl⟩)] (fun x s' => x = ss fB r ∧ l9 s' [(904, ⟨true, flat aT a0.cu⟩), (100900, ⟨false, [.ptr 100950 0, vi a0.dB.ak, vi a0.dB.ay, vi a0.dB.aA, .own 100903 0 a0.xw.length (some (12, 101)), .own 904 0 a0.cu.length (some (1, 3)), vb a0.fP]⟩), (100903, ⟨true, flat bU a0.xw⟩), (100950, ⟨false, [.own 100951 0 a0.xm.xl.length (some (18, 115)), vb a0.xm.dD, vi a0.xm.bC, vi a0.xm.bP, sl aT a0.xm.bQ]⟩), (100951, ⟨true, flat aN a0.xm.xl⟩)]) := by
 unfold ug at h
 refine lN FT rfl ?_
 intro C hP
 unfold yD; dsimp
 apply Eso
 apply WM
 refine Wk [0, 1] [904, 100900, 100903, 100950, 100951] ?_
 (try dsimp)
 apply Eso
 apply WM
 apply bW
 (try dsimp)
 apply Eso
 apply WM
 apply bW
 (try dsimp)
 obtain ⟨k3, k3d, h⟩ := eX h
 refine dJ (fun (i : (List Int) × (List bI)) => ⟨[(5, S.one (.own 1030 0 i.2.length (some (3, 104)))), (6, S.one (.own 1035 0 i.1.length (some (1, 3))))], [(904, ⟨true, flat aT a0.cu⟩), (1030, ⟨true, flat fB i.2⟩), (1035, ⟨true, flat aT i.1⟩), (100900, ⟨false, [.ptr 100950 0, vi a0.dB.ak, vi a0.dB.ay, vi a0.dB.aA, .own 100903 0 a0.xw.length (some (12, 101)), .own 904 0 a0.cu.length (some (1, 3)), vb a0.fP]⟩), (100903, ⟨true, flat bU a0.xw⟩), (100950, ⟨false, [.own 100951 0 a0.xm.xl.length (some (18, 115)), vb a0.xm.dD, vi a0.xm.bC, vi a0.xm.bP, sl aT a0.xm.bQ]⟩), (100951, ⟨true, flat aN a0.xm.xl⟩)]⟩) (fun i => k3 i.1 i.2 = some r) (fun i h => ?_) ?_
 obtain ⟨v1, v2⟩ := i
 rw [k3d] at h; dsimp only at h
 (try dsimp)
 apply Eso
 apply WM
 apply WM
 obtain ⟨x4, x4h, h⟩ := aG h
 refine W1 (aO [(100800, 1035)] false hP (mF F v1 x4 x4h) rfl ⟨rfl, trivial⟩ rfl rfl rfl rfl rfl (fun h => by cases h) rfl) ?_
 (try dsimp)
 obtain ⟨g5, h⟩ := aQ h
 refine W1 (dY (e := fB) rfl rfl (fun _ => rfl) (fun _ => rfl) rfl (Src.slF x4 (fun _ => rfl)) g5 rfl) ?_
 apply WM
 refine Wk [4] [904, 1030, 100900, 100903, 100950, 100951] ?_
 (try dsimp)
 refine dR (kY (r := 1030) rfl rfl).b ?_
 (try dsimp)
 apply bD
 cases h
 (try simp only [qt, qb, qn, qg])
 refine dN (xs := _) ⟨_, rfl, rfl⟩ ?_
 show _ ∧ _
 exact ⟨rfl, ⟨(by first | rfl | simp [aj, au, ah]), ⟨(by first | rfl | simp [aj, au, ah]), ⟨(by first | rfl | simp [aj, au, ah]), ⟨(by first | rfl | simp [aj, au, ah]), ⟨(by first | rfl | simp [aj, au, ah]), trivial⟩⟩⟩⟩⟩⟩
 apply Eso
 apply WM
 refine WQ qnc ?_
 refine WQ qap ?_
 refine WQ ql1 ?_
 apply WM
 obtain ⟨g6, h⟩ := aQ h
 refine WQ (qio g6) ?_
 refine WQ qap ?_
 refine WQ qap ?_
 refine WQ (gB (k := 12) rfl rfl (fun _ => rfl) g6 10 (by omega) rfl) ?_
 refine WQ qls ?_
 apply WM
 refine Wk [5, 6, 17, 18, 19] [904, 100900, 100903, 100950, 100951] ?_
 (try dsimp)
 apply bT
 (try dsimp)
 refine eG (fun (i : Int × (List Int) × (List bI)) => ⟨[(5, S.one (.own 1030 0 i.2.2.length (some (3, 104)))), (6, S.one (.own 1035 0 i.2.1.length (some (1, 3)))), (17, S.one (.sl (flat bM (nth a0.xw a1).xd.xW) (nth a0.xw a1).xd.xW.length)), (18, (zi_ ((((nth a0.xw a1).xd.xW).length : Nat) : Int))), (19, zi_ i.1)], [(904, ⟨true, flat aT a0.cu⟩), (1030, ⟨true, flat fB i.2.2⟩), (1035, ⟨true, flat aT i.2.1⟩), (100900, ⟨false, [.ptr 100950 0, vi a0.dB.ak, vi a0.dB.ay, vi a0.dB.aA, .own 100903 0 a0.xw.length (some (12, 101)), .own 904 0 a0.cu.length (some (1, 3)), vb a0.fP]⟩), (100903, ⟨true, flat bU a0.xw⟩), (100950, ⟨false, [.own 100951 0 a0.xm.xl.length (some (18, 115)), vb a0.xm.dD, vi a0.xm.bC, vi a0.xm.bP, sl aT a0.xm.bQ]⟩), (100951, ⟨true, flat aN a0.xm.xl⟩)]⟩) (fun n i => oh F a0 a1 k3 n i.1 i.2.1 i.2.2 = some r) F ((0 : Int), ([] : List Int), ([] : List bI)) h ?_ (fun n i h => ?_)
 refine fM (nT (i := 5) (r := 1030) 3 104 rfl rfl) ?_
 refine fM (nT (i := 6) (r := 1035) 1 3 rfl rfl) ?_
 exact LB
 obtain ⟨v20, v21, v22⟩ := i; dsimp only at h
 obtain _ | n23 := n
 cases h
 unfold oh at h
 (try dsimp)
 apply Eso
 refine WQ qi ?_
 apply bW
 (try dsimp)
 apply bG
 refine Ec h rfl (fun h hc24 => ?_) (fun h hc24 => ?_)
 apply bf
 refine aX [5, 6, 17, 18, 19] [904, 1030, 1035, 100900, 100903, 100950, 100951] ?_
 (try dsimp)
 apply bG
 apply bT
 apply Eso
 obtain ⟨g25, h⟩ := aQ h
 refine WQ (qis g25) ?_
 refine WQ (qAF 2 g25 0) ?_
 refine W1 dnv ?_
 refine W1 dst ?_
 refine Wk [5, 6, 8, 17, 18, 19] [8, 904, 1030, 1035, 100900, 100903, 100950, 100951] ?_
 (try dsimp)
 apply Eso
 apply WM
 refine WQ qap ?_
 refine WQ ql1 ?_
 refine WQ qap ?_
 refine WQ ql1 ?_
 refine WQ qbu ?_
 refine W1 dbs ?_
 obtain ⟨g26, h⟩ := aQ h
 refine W1 (dY (e := fB) rfl rfl (fun _ => rfl) (fun _ => rfl) rfl (Src.lit (e := fB) ([(⟨(0 : Int), (nth ((nth a0.xw a1).xd.xW) v20).xAt, (nth ((nth a0.xw a1).xd.xW) v20).xV⟩ : bI)] : List bI) rfl (fun _ => rfl) rfl rfl) g26 rfl) ?_
 apply WM
 refine Wk [5, 6, 8, 17, 18, 19] [8, 904, 1030, 1035, 100900, 100903, 100950, 100951] ?_
 (try dsimp)
 apply dO
 apply WM
 refine WQ qap ?_
 refine WQ ql1 ?_
 refine W1 dbs ?_
 obtain ⟨g27, h⟩ := aQ h
 refine W1 (dY (e := aT) rfl rfl (fun _ => rfl) (fun _ => rfl) rfl (Src.lit (e := aT) ([(nth ((nth a0.xw a1).xd.xW) v20).xAt] : List Int) rfl (fun _ => rfl) rfl rfl) g27 rfl) ?_
 apply WM
 refine Wk [5, 6, 17, 18, 19] [904, 1030, 1035, 100900, 100903, 100950, 100951] ?_
 (try dsimp)
 apply dO
 obtain ⟨g28, h⟩ := aQ h
 refine WQ (qad g28) ?_
 apply WM
 apply bW
 refine ⟨n23, ((v20 + (1 : Int)), (v21 ++ ([(nth ((nth a0.xw a1).xd.xW) v20).xAt] : List Int)), (v22 ++ ([(⟨(0 : Int), (nth ((nth a0.xw a1).xd.xW) v20).xAt, (nth ((nth a0.xw a1).xd.xW) v20).xV⟩ : bI)] : List bI))), Nat.lt_succ_self _, h, ?_⟩
 exact LB
 apply gy
 refine ⟨(v21, v22), h, ?_⟩
 exact LB
def Aa : cO := (q [o (.mv (.const (.int .u64 0))) 4] (.seq (q [w 11 0, o (.dG 11) 12, o (.add 4 12) 13, o (.load nn 1 13) 14, o (.len nn 14) 15, o (.bin .sub 3 15 (ci 1)) 16, o (.mv (ci 0)) 17] (.block 0 (.loop (q [o (.bin .lss 3 17 16) 18] (.seq (.cond 18 .skip (.exit 0)) (.seq (.block 1 (q [w 19 17, w 5 19] (q [w 20 1, o (.bin .add 3 20 (ci 1)) 21, w 22 5, o (.bin .add 3 21 22) 23, w 24 0, o (.dG 24) 25, o (.add 4 25) 26, o (.load nn 1 26) 27, o (.len nn 27) 28, o (.bin .rem 3 23 28) 29, w 6 29] (q [w 31 0, o (.dG 31) 32, o (.add 1 32) 33, o (.load yy 3 33) 34, w 35 6, o (.call 39 [34, 35]) 36, w 30 36, o (.ext 0 30) 37, o (.ext 1 30) 38, w 7 37, w 8 38] (q [w 40 0, o (.dG 40) 41, o (.add 0 41) 42, o (.load nn 1 42) 43, w 44 7, o (.call 44 [43, 44]) 45, w 39 45, o (.ext 0 39) 46, o (.ext 1 39) 47, w 9 46, w 10 47] (q [w 48 9, o (.bin .and 22 48 (.const (.int .u64 255))) 49, o (.bin .eql 22 49 (.const (.int .u64 1))) 50] (.cond 50 (q [w 51 6, o (.jd .u64 51) 52, o (.bin .add 22 52 (.const (.int .u64 1))) 53, w 4 53] .ret) .skip))))))) (.ops [o (.bin .add 3 17 (ci 1)) 54, w 17 54]))))))) (q [o (.mv (.const (.int .u64 0))) 4] .ret)))
theorem Iu : Fits Tryz.prog 90 2 Aa [(.tmp 4)] := fk Tryz.func90
theorem eF (F : Nat) (a0 : aW) (a1 : Int) (r : Int) (h : vK F a0 a1 = some r) : AC Tryz.prog 90 [S.one (.ptr 100900 0), (zi_ a1)] [(904, ⟨true, flat aT a0.cu⟩), (100900, ⟨false, [.ptr 100950 0, vi a0.dB.ak, vi a0.dB.ay, vi a0.dB.aA, .own 100903 0 a0.xw.length (some (12, 101)), .own 904 0 a0.cu.length (some (1, 3)), vb a0.fP]⟩), (100903, ⟨true, flat bU a0.xw⟩), (100950, ⟨false, [.own 100951 0 a0.xm.xl.length (some (18, 115)), vb a0.xm.dD, vi a0.xm.bC, vi a0.xm.bP, sl aT a0.xm.bQ]⟩), (100951, ⟨true, flat aN a0.xm.xl⟩)] (fun x s' => x = (zu_ r) ∧ l9 s' [(904, ⟨true, flat aT a0.cu⟩), (100900, ⟨false, [.ptr 100950 0, vi a0.dB.ak, vi a0.dB.ay, vi a0.dB.aA, .own 100903 0 a0.xw.length (some (12, 101)), .own 904 0 a0.cu.length (some (1, 3)), vb a0.fP]⟩), (100903, ⟨true, flat bU a0.xw⟩), (100950, ⟨false, [.own 100951 0 a0.xm.xl.length (some (18, 115)), vb a0.xm.dD, vi a0.xm.bC, vi a0.xm.bP, sl aT a0.xm.bQ]⟩), (100951, ⟨true, flat aN a0.xm.xl⟩)]) := by
 unfold vK at h
 refine lN Iu rfl ?_
 intro C hP
 unfold Aa; dsimp
 apply Eso
 apply WM
 refine Wk [0, 1] [904, 100900, 100903, 100950, 100951] ?_
 (try dsimp)
 obtain ⟨k1, k1d, h⟩ := eX h
 refine dJ (fun (i : Unit) => ⟨[], [(904, ⟨true, flat aT a0.cu⟩), (100900, ⟨false, [.ptr 100950 0, vi a0.dB.ak, vi a0.dB.ay, vi a0.dB.aA, .own 100903 0 a0.xw.length (some (12, 101)), .own 904 0 a0.cu.length (some (1, 3)), vb a0.fP]⟩), (100903, ⟨true, flat bU a0.xw⟩), (100950, ⟨false, [.own 100951 0 a0.xm.xl.length (some (18, 115)), vb a0.xm.dD, vi a0.xm.bC, vi a0.xm.bP, sl aT a0.xm.bQ]⟩), (100951, ⟨true, flat aN a0.xm.xl⟩)]⟩) (fun i => k1 () = some r) (fun i h => ?_) ?_
 rw [k1d] at h; dsimp only at h
 (try dsimp)
 apply Eso
 apply WM
 apply bW
 (try dsimp)
 apply bD
 cases h
 (try simp only [qt, qb, qn, qg])
 refine dN (xs := _) ⟨_, rfl, rfl⟩ ?_
 show _ ∧ _
 exact ⟨rfl, ⟨(by first | rfl | simp [aj, au, ah]), ⟨(by first | rfl | simp [aj, au, ah]), ⟨(by first | rfl | simp [aj, au, ah]), ⟨(by first | rfl | simp [aj, au, ah]), ⟨(by first | rfl | simp [aj, au, ah]), trivial⟩⟩⟩⟩⟩⟩
 apply Eso
 apply WM
 refine WQ qnc ?_
 refine WQ qap ?_
 refine WQ ql1 ?_
 refine WQ (jg rfl rfl) ?_
 obtain ⟨g2, h⟩ := aQ h
 refine WQ (qsu g2) ?_
 apply WM
 refine Wk [0, 1, 16, 17] [904, 100900, 100903, 100950, 100951] ?_
 (try dsimp)
 apply bT
 (try dsimp)
 refine eG (fun (i : Int) => ⟨[(0, S.one (.ptr 100900 0)), (1, zi_ a1), (16, (zi_ (((a0.xw.length : Nat) : Int) - (1 : Int)))), (17, zi_ i)], [(904, ⟨true, flat aT a0.cu⟩), (100900, ⟨false, [.ptr 100950 0, vi a0.dB.ak, vi a0.dB.ay, vi a0.dB.aA, .own 100903 0 a0.xw.length (some (12, 101)), .own 904 0 a0.cu.length (some (1, 3)), vb a0.fP]⟩), (100903, ⟨true, flat bU a0.xw⟩), (100950, ⟨false, [.own 100951 0 a0.xm.xl.length (some (18, 115)), vb a0.xm.dD, vi a0.xm.bC, vi a0.xm.bP, sl aT a0.xm.bQ]⟩), (100951, ⟨true, flat aN a0.xm.xl⟩)]⟩) (fun n i => pq F a0 a1 k1 n i = some r) F (0 : Int) h ?_ (fun n i h => ?_)
 exact LB
 generalize i = v20 at h ⊢
 obtain _ | n21 := n
 cases h
 unfold pq at h
 (try dsimp)
 apply Eso
 refine WQ qi ?_
 apply bW
 (try dsimp)
 apply bG
 refine Ec h rfl (fun h hc22 => ?_) (fun h hc22 => ?_)
 apply bf
 refine aX [0, 1, 16, 17] [904, 100900, 100903, 100950, 100951] ?_
 (try dsimp)
 apply bG
 apply bT
 apply Eso
 apply WM
 apply WM
 refine Wk [0, 1, 5, 16, 17] [904, 100900, 100903, 100950, 100951] ?_
 (try dsimp)
 apply Eso
 apply WM
 obtain ⟨g23, h⟩ := aQ h
 refine WQ (qad g23) ?_
 apply WM
 obtain ⟨g24, h⟩ := aQ h
 refine WQ (qad g24) ?_
 apply WM
 refine WQ qnc ?_
 refine WQ qap ?_
 refine WQ ql1 ?_
 refine WQ (jg rfl rfl) ?_
 obtain ⟨g25, h⟩ := aQ h
 refine WQ (Zo rfl rfl g25.1 g25.2) ?_
 apply WM
 refine Wk [0, 1, 6, 16, 17] [904, 100900, 100903, 100950, 100951] ?_
 (try dsimp)
 apply Eso
 apply WM
 refine WQ qnc ?_
 refine WQ qap ?_
 refine WQ qlA ?_
 apply WM
 obtain ⟨x26, aeO, h⟩ := aG h
 refine W1 (dc1 hP (qE F a0.dB (((a1 + (1 : Int)) + v20) % ((a0.xw.length : Nat) : Int)) x26 aeO)) ?_
 apply WM
 refine WQ qx ?_
 refine WQ qx ?_
 apply WM
 apply WM
 refine Wk [0, 1, 6, 7, 16, 17] [904, 100900, 100903, 100950, 100951] ?_
 (try dsimp)
 apply Eso
 apply WM
 refine WQ qnc ?_
 refine WQ qap ?_
 refine WQ ql1 ?_
 apply WM
 obtain ⟨x27, abZ, h⟩ := aG h
 refine W1 (aO [(100900, 100950), (100901, 100951)] false hP (rP F a0.xm x26.1 x27 abZ) rfl ⟨rfl, rfl, trivial⟩ rfl rfl rfl rfl rfl (fun h => by first | rfl | cases h) rfl) ?_
 (try dsimp)
 apply WM
 refine WQ qx ?_
 refine WQ qx ?_
 apply WM
 apply WM
 refine Wk [0, 1, 6, 9, 16, 17] [904, 100900, 100903, 100950, 100951] ?_
 (try dsimp)
 apply Eso
 apply WM
 refine WQ qi ?_
 refine WQ qi ?_
 refine Wk [0, 1, 6, 16, 17, 50] [904, 100900, 100903, 100950, 100951] ?_
 (try dsimp)
 refine Ec h rfl (fun h hc28 => ?_) (fun h hc28 => ?_)
 apply Eso
 apply WM
 refine WQ qcv ?_
 refine WQ qi ?_
 apply WM
 refine Wk [4] [904, 100900, 100903, 100950, 100951] ?_
 (try dsimp)
 apply bD
 cases h
 (try simp only [qt, qb, qn, qg])
 refine dN (xs := _) ⟨_, rfl, rfl⟩ ?_
 show _ ∧ _
 exact ⟨rfl, ⟨(by first | rfl | simp [aj, au, ah]), ⟨(by first | rfl | simp [aj, au, ah]), ⟨(by first | rfl | simp [aj, au, ah]), ⟨(by first | rfl | simp [aj, au, ah]), ⟨(by first | rfl | simp [aj, au, ah]), trivial⟩⟩⟩⟩⟩⟩
 apply bf
 refine aX [0, 1, 16, 17] [904, 100900, 100903, 100950, 100951] ?_
 (try dsimp)
 apply dO
 obtain ⟨g29, h⟩ := aQ h
 refine WQ (qad g29) ?_
 apply WM
 apply bW
 refine ⟨n21, (v20 + (1 : Int)), Nat.lt_succ_self _, h, ?_⟩
 exact LB
 apply gy
 refine ⟨(), h, ?_⟩
 exact LB
end Go.V.P
