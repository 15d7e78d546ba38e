/- Walks: each function does what its model says. No premises. -/
import Derived.Test.YtopidcbmhdeclaaGreatP6
set_option linter.unusedVariables false
set_option linter.unusedSimpArgs false
set_option maxRecDepth 20000
set_option maxHeartbeats 4000000
namespace Go.V.P
open Go.V Go.Proofs
def Ac : cO := (q [o (.mv (ci 0)) 4] (.scope 0 (.ops [w 13 0, o (.dG 13) 14, o (.add 4 14) 15, o (.load nn 1 15) 16, w 17 1, o (.fH 12 16 17) 18, w 5 18]) (.seq (q [w 19 5, o (.dG 19) 20, o (.add 11 20) 21, o (.load nn 1 21) 22, o (.len nn 22) 23, o (.bin .gtr 3 23 (ci 0)) 24] (.cond 24 (q [w 25 5, o (.dG 25) 26, o (.add 11 26) 27, o (.load nn 1 27) 28, o (.fH 3 28 (ci 0)) 29, o (.load yy 3 29) 30, o (.jm [zi, zi, zu]) 6, n_ (.store 3 6 30)] (q [w 31 5, w 32 5, o (.dG 32) 33, o (.add 11 33) 34, o (.load nn 1 34) 35, o (.slc 3 35 (.some (ci 1)) .none .none) 36, o (.dG 31) 37, o (.add 11 37) 38, n_ (.store 1 38 36)] (q [w 39 0, w 40 1, o (.load yy 3 6) 41, o (.call 85 [39, 40, 41]) 42, w 4 42] .ret))) .skip)) (q [w 43 0, o (.dG 43) 44, o (.add 1 44) 45, o (.load yy 3 45) 46, o (.call 47 [46]) 47, w 7 47] (.seq (q [w 48 5, o (.dG 48) 49, o (.add 0 49) 50, o (.load nn 1 50) 51] (.block 0 (q [o (.bin .eql 3 51 (ci 1)) 53, w 52 53] (.cond 52 (q [w 54 5, o (.dG 54) 55, o (.add 0 55) 56, n_ (.store 1 56 (ci 2))] (.goto 0)) (q [o (.bin .eql 3 51 (ci 2)) 58, w 57 58] (.cond 57 (q [w 59 1, o (.jd .u64 59) 60, o (.bin .add 22 60 (.const (.int .u64 1))) 61, w 8 61] (.seq (q [w 63 0, o (.dG 63) 64, o (.add 0 64) 65, o (.load nn 1 65) 66, w 67 7, o (.call 44 [66, 67]) 68, w 62 68, o (.ext 0 62) 69, o (.ext 1 62) 70, w 9 69, w 10 70] (q [w 71 9, w 72 8, o (.bin .neq 22 71 72) 73] (.cond 73 (q [w 75 0, o (.dG 75) 76, o (.add 0 76) 77, o (.load nn 1 77) 78, w 79 7, w 80 8, o (.call 86 [78, 79, .const (.int .u64 0), 80]) 81, w 74 81, o (.ext 0 74) 82, o (.ext 1 74) 83, w 11 82, w 12 83] (q [w 84 12, w 4 84] .ret)) .skip))) (q [w 85 5, o (.dG 85) 86, o (.add 0 86) 87, n_ (.store 1 87 (ci 3))] (q [w 88 5, w 89 0, w 90 1, o (.call 87 [89, 90]) 91, o (.dG 88) 92, o (.add 11 92) 93, n_ (.store 1 93 91)] (.goto 0))))) (q [o (.bin .eql 3 51 (ci 3)) 95, w 94 95] (.cond 94 (q [w 96 5, o (.dG 96) 97, o (.add 0 97) 98, n_ (.store 1 98 (ci 4))] (q [w 99 5, w 100 0, w 101 1, o (.call 88 [100, 101, ci 2]) 102, o (.dG 99) 103, o (.add 11 103) 104, n_ (.store 1 104 102)] (.goto 0))) (q [o (.bin .eql 3 51 (ci 4)) 106, w 105 106] (.cond 105 (q [w 107 5, o (.dG 107) 108, o (.add 0 108) 109, n_ (.store 1 109 (ci 5))] (q [w 110 5, w 111 0, w 112 1, o (.call 89 [111, 112]) 113, o (.dG 110) 114, o (.add 11 114) 115, n_ (.store 1 115 113)] (.goto 0))) (q [o (.bin .eql 3 51 (ci 5)) 117, w 116 117] (.cond 116 (q [w 118 5, o (.dG 118) 119, o (.add 0 119) 120, n_ (.store 1 120 (ci 6))] (q [w 121 5, w 122 0, w 123 1, o (.call 88 [122, 123, ci 3]) 124, o (.dG 121) 125, o (.add 11 125) 126, n_ (.store 1 126 124)] (.goto 0))) (q [o (.bin .eql 3 51 (ci 6)) 128, w 127 128] (.cond 127 (q [w 129 5, o (.dG 129) 130, o (.add 0 130) 131, n_ (.store 1 131 (ci 7))] (.seq (.draw [((w 132 0), []), ((o (.dG 132) 133), [0]), ((o (.add 0 133) 134), [1]), ((o (.load nn 1 134) 135), [2]), ((w 136 7), []), ((w 137 0), []), ((w 138 1), []), ((o (.call 90 [137, 138]) 139), [5, 6]), ((o (.call 40 [135, 136, 139]) 140), [3, 4, 7, 7]), ((w 4 140), [8, 8, 0, 1, 2, 3, 4, 5, 6, 7, 8])]) .ret)) .skip)))))))))))))) (q [o (.mv (ci 0)) 4] .ret))))))
theorem Iw : Fits Tryz.prog 48 2 Ac [(.tmp 4)] := fk Tryz.func48
theorem Iy (F : Nat) (a0 : aW) (a1 : Int) (r : aW × Int) (h : pV F a0 a1 = some r) : AC Tryz.prog 48 [S.one (.ptr 100900 0), (zi_ a1)] [(904, ⟨true, flat aT a0.cu⟩), (100900, ⟨false, [.ptr 100950 0, vi a0.dB.ak, vi a0.dB.ay, vi a0.dB.aA, .own 100903 0 a0.xw.length (some (12, 101)), .own 904 0 a0.cu.length (some (1, 3)), vb a0.fP]⟩), (100903, ⟨true, flat bU a0.xw⟩), (100950, ⟨false, [.own 100951 0 a0.xm.xl.length (some (18, 115)), vb a0.xm.dD, vi a0.xm.bC, vi a0.xm.bP, sl aT a0.xm.bQ]⟩), (100951, ⟨true, flat aN a0.xm.xl⟩)] (fun x s' => x = (zi_ r.2) ∧ l9 s' [(904, ⟨true, flat aT r.1.cu⟩), (100900, ⟨false, [.ptr 100950 0, vi r.1.dB.ak, vi r.1.dB.ay, vi r.1.dB.aA, .own 100903 0 r.1.xw.length (some (12, 101)), .own 904 0 r.1.cu.length (some (1, 3)), vb r.1.fP]⟩), (100903, ⟨true, flat bU r.1.xw⟩), (100950, ⟨false, [.own 100951 0 r.1.xm.xl.length (some (18, 115)), vb r.1.xm.dD, vi r.1.xm.bC, vi r.1.xm.bP, sl aT r.1.xm.bQ]⟩), (100951, ⟨true, flat aN r.1.xm.xl⟩)]) := by
 unfold pV at h
 refine lN Iw rfl ?_
 intro C hP
 unfold Ac; dsimp
 apply Eso
 apply WM
 refine Wk [0, 1] [904, 100900, 100903, 100950, 100951] ?_
 (try dsimp)
 refine Zp (α := (List bV) × Bool × Int × Int × (List Int) × (List aY) × Int × Int × Int × Bool × (List Int)) (fun (i : (List bV) × Bool × Int × Int × (List Int) × (List aY) × Int × Int × Int × Bool × (List Int)) => (⟨[(0, S.one (.ptr 100900 0)), (1, zi_ a1), (5, S.one (.ptr 100903 (0 + a1.toNat * 12)))], [(904, ⟨true, flat aT i.2.2.2.2.2.2.2.2.2.2⟩), (100900, ⟨false, [.ptr 100950 0, vi i.2.2.2.2.2.2.1, vi i.2.2.2.2.2.2.2.1, vi i.2.2.2.2.2.2.2.2.1, .own 100903 0 i.2.2.2.2.2.1.length (some (12, 101)), .own 904 0 i.2.2.2.2.2.2.2.2.2.2.length (some (1, 3)), vb i.2.2.2.2.2.2.2.2.2.1]⟩), (100903, ⟨true, flat bU i.2.2.2.2.2.1⟩), (100950, ⟨false, [.own 100951 0 i.1.length (some (18, 115)), vb i.2.1, vi i.2.2.1, vi i.2.2.2.1, sl aT i.2.2.2.2.1]⟩), (100951, ⟨true, flat aN i.1⟩)]⟩ : St)) (fun n i => jE F a1 n i.1 i.2.1 i.2.2.1 i.2.2.2.1 i.2.2.2.2.1 i.2.2.2.2.2.1 i.2.2.2.2.2.2.1 i.2.2.2.2.2.2.2.1 i.2.2.2.2.2.2.2.2.1 i.2.2.2.2.2.2.2.2.2.1 i.2.2.2.2.2.2.2.2.2.2 = some r) ?_ (fun n i h => ?_)
 apply dO
 apply WM
 refine WQ qnc ?_
 refine WQ qap ?_
 refine WQ ql1 ?_
 apply WM
 obtain ⟨g82, h⟩ := aQ h
 refine WQ (qio g82) ?_
 apply WM
 apply bW
 refine ⟨F, (a0.xm.xl, a0.xm.dD, a0.xm.bC, a0.xm.bP, a0.xm.bQ, a0.xw, a0.dB.ak, a0.dB.ay, a0.dB.aA, a0.fP, a0.cu), h, ?_⟩
 exact LB
 obtain ⟨v70, v71, v72, v73, v74, v75, v76, v77, v78, v79, v80⟩ := i; dsimp only at h
 obtain _ | n81 := n
 cases h
 unfold jE at h
 (try dsimp)
 obtain ⟨g83, h⟩ := aQ h
 apply bG
 apply Eso
 apply WM
 refine WQ qnc ?_
 refine WQ qap ?_
 refine WQ (gB (k := 12) rfl rfl (fun _ => rfl) g83 11 (by omega) rfl) ?_
 refine WQ qls ?_
 refine WQ qi ?_
 refine Wk [0, 1, 5, 24] [904, 100900, 100903, 100950, 100951] ?_
 (try dsimp)
 refine Ec h rfl (fun h abW => ?_) (fun h abW => ?_)
 apply Eso
 apply WM
 refine WQ qnc ?_
 refine WQ qap ?_
 refine WQ (gB (k := 12) rfl rfl (fun _ => rfl) g83 11 (by omega) rfl) ?_
 obtain ⟨g85, h⟩ := aQ h
 refine WQ (qis g85) ?_
 refine WQ (qAF 3 g85 0) ?_
 refine W1 dnv ?_
 refine W1 dst ?_
 refine Wk [0, 1, 5, 6] [6, 904, 100900, 100903, 100950, 100951] ?_
 (try dsimp)
 apply Eso
 apply WM
 apply WM
 refine WQ qnc ?_
 refine WQ qap ?_
 refine WQ (gB (k := 12) rfl rfl (fun _ => rfl) g83 11 (by omega) rfl) ?_
 obtain ⟨g86, h⟩ := aQ h
 refine WQ (lS rfl (fun _ => rfl) rfl rfl g86.1 g86.2.1 g86.2.2) ?_
 refine WQ qnc ?_
 refine WQ qap ?_
 refine W1 (dI (e := bU) (n := 1) (k := 12) rfl rfl (fun _ => rfl) g83 11 (by omega) rfl rfl rfl (by decide) (⟨(nth v75 a1).l7, (nth v75 a1).xd, (cut ((nth v75 a1).xl) (1 : Int) ((((nth v75 a1).xl).length : Nat) : Int))⟩ : aY) rfl (by decide) rfl) ?_
 refine Wk [0, 1, 6] [6, 904, 100900, 100903, 100950, 100951] ?_
 (try dsimp)
 apply Eso
 apply WM
 apply WM
 refine WQ qlA ?_
 obtain ⟨x87, aeP, h⟩ := aG h
 refine W1 (Does.ghost (fK (r := 100900) rfl (by simp [aj, au, ah] : ⟨false, [.ptr 100950 0, vi v76, vi v77, vi v78, .own 100903 0 v75.length (some (12, 101)), .own 904 0 v80.length (some (1, 3)), vb v79]⟩ = ⟨false, [.ptr 100950 0, vi v76, vi v77, vi v78, .own 100903 0 (dZ v75 a1 (⟨(nth v75 a1).l7, (nth v75 a1).xd, (cut ((nth v75 a1).xl) (1 : Int) ((((nth v75 a1).xl).length : Nat) : Int))⟩ : aY)).length (some (12, 101)), .own 904 0 v80.length (some (1, 3)), vb v79]⟩)).b (aO [] false hP (Nj F (⟨(⟨v70, v71, v72, v73, v74⟩ : aC), (⟨v76, v77, v78⟩ : aJ), (dZ v75 a1 (⟨(nth v75 a1).l7, (nth v75 a1).xd, (cut ((nth v75 a1).xl) (1 : Int) ((((nth v75 a1).xl).length : Nat) : Int))⟩ : aY)), v80, v79⟩ : aW) a1 (nth ((nth v75 a1).xl) (0 : Int)) x87 aeP) rfl ⟨rfl, rfl, rfl, rfl, rfl, trivial⟩ rfl rfl rfl rfl rfl (fun h => by first | rfl | cases h) rfl)) ?_
 (try dsimp)
 apply WM
 refine Wk [4] [904, 100900, 100903, 100950, 100951] ?_
 (try dsimp)
 apply bD
 cases h
 (try simp only [qt, qb, qn, qg])
 refine dN (xs := _) ⟨_, rfl, rfl⟩ ?_
 show _ ∧ _
 exact ⟨rfl, ⟨(by first | rfl | simp [aj, au, ah]), ⟨(by first | rfl | simp [aj, au, ah]), ⟨(by first | rfl | simp [aj, au, ah]), ⟨(by first | rfl | simp [aj, au, ah]), ⟨(by first | rfl | simp [aj, au, ah]), trivial⟩⟩⟩⟩⟩⟩
 apply bf
 refine aX [0, 1, 5] [904, 100900, 100903, 100950, 100951] ?_
 (try dsimp)
 apply Eso
 apply WM
 refine WQ qnc ?_
 refine WQ qap ?_
 refine WQ qlA ?_
 obtain ⟨x88, aeQ, h⟩ := aG h
 refine W1 (dc1 hP (AP F (⟨v76, v77, v78⟩ : aJ) x88 aeQ)) ?_
 apply WM
 refine Wk [0, 1, 5, 7] [904, 100900, 100903, 100950, 100951] ?_
 (try dsimp)
 apply bG
 apply Eso
 apply WM
 refine WQ qnc ?_
 refine WQ qap ?_
 refine WQ (gB (k := 12) rfl rfl (fun _ => rfl) g83 0 (by omega) rfl) ?_
 refine Wk [0, 1, 5, 7, 51] [904, 100900, 100903, 100950, 100951] ?_
 (try dsimp)
 apply bT
 apply Eso
 refine WQ qi ?_
 apply WM
 refine Wk [0, 1, 5, 7, 51, 52] [904, 100900, 100903, 100950, 100951] ?_
 (try dsimp)
 refine Ec h rfl (fun h abT => ?_) (fun h abT => ?_)
 apply Eso
 apply WM
 refine WQ qnc ?_
 refine WQ qap ?_
 refine W1 (dI (e := bU) (n := 1) (k := 12) rfl rfl (fun _ => rfl) g83 0 (by omega) rfl rfl rfl (by decide) (⟨(2 : Int), (nth v75 a1).xd, (nth v75 a1).xl⟩ : aY) rfl (by decide) rfl) ?_
 refine Wk [0, 1, 5] [904, 100900, 100903, 100950, 100951] ?_
 (try dsimp)
 apply QK
 refine ⟨rfl, n81, (v70, v71, v72, v73, v74, (dZ v75 a1 (⟨(2 : Int), (nth v75 a1).xd, (nth v75 a1).xl⟩ : aY)), v76, v77, v78, v79, v80), Nat.lt_succ_self _, h, ?_⟩
 refine fM (fK (r := 100900) rfl (by simp [aj, au, ah] : ⟨false, [.ptr 100950 0, vi v76, vi v77, vi v78, .own 100903 0 v75.length (some (12, 101)), .own 904 0 v80.length (some (1, 3)), vb v79]⟩ = ⟨false, [.ptr 100950 0, vi v76, vi v77, vi v78, .own 100903 0 (dZ v75 a1 (⟨(2 : Int), (nth v75 a1).xd, (nth v75 a1).xl⟩ : aY)).length (some (12, 101)), .own 904 0 v80.length (some (1, 3)), vb v79]⟩)).b ?_
 exact LB
 apply Eso
 refine WQ qi ?_
 apply WM
 refine Wk [0, 1, 5, 7, 51, 57] [904, 100900, 100903, 100950, 100951] ?_
 (try dsimp)
 refine Ec h rfl (fun h hc90 => ?_) (fun h hc90 => ?_)
 apply Eso
 apply WM
 refine WQ qcv ?_
 refine WQ qi ?_
 apply WM
 refine Wk [0, 1, 5, 7, 8] [904, 100900, 100903, 100950, 100951] ?_
 (try dsimp)
 apply bG
 apply Eso
 apply WM
 refine WQ qnc ?_
 refine WQ qap ?_
 refine WQ ql1 ?_
 apply WM
 obtain ⟨x91, abU, h⟩ := aG h
 refine W1 (aO [(100900, 100950), (100901, 100951)] false hP (rP F (⟨v70, v71, v72, v73, v74⟩ : aC) x88 x91 abU) rfl ⟨rfl, rfl, trivial⟩ rfl rfl rfl rfl rfl (fun h => by first | rfl | cases h) rfl) ?_
 (try dsimp)
 apply WM
 refine WQ qx ?_
 refine WQ qx ?_
 apply WM
 apply WM
 refine Wk [0, 1, 5, 7, 8, 9] [904, 100900, 100903, 100950, 100951] ?_
 (try dsimp)
 apply Eso
 apply WM
 apply WM
 refine WQ qi ?_
 refine Wk [0, 1, 5, 7, 8, 73] [904, 100900, 100903, 100950, 100951] ?_
 (try dsimp)
 refine Ec h rfl (fun h Zf => ?_) (fun h Zf => ?_)
 apply Eso
 apply WM
 refine WQ qnc ?_
 refine WQ qap ?_
 refine WQ ql1 ?_
 apply WM
 apply WM
 obtain ⟨x93, aeR, h⟩ := aG h
 refine W1 (aO [(100900, 100950), (100901, 100951)] false hP (Nl F (⟨v70, v71, v72, v73, v74⟩ : aC) x88 (0 : Int) (IntKind.u64.wrap ((IntKind.u64.wrap a1) + (1 : Int))) x93 aeR) rfl ⟨rfl, rfl, trivial⟩ rfl rfl rfl rfl rfl (fun h => by first | rfl | cases h) rfl) ?_
 (try dsimp)
 apply WM
 refine WQ qx ?_
 refine WQ qx ?_
 apply WM
 apply WM
 refine Wk [12] [904, 100900, 100903, 100950, 100951] ?_
 (try dsimp)
 apply Eso
 apply WM
 apply WM
 refine Wk [4] [904, 100900, 100903, 100950, 100951] ?_
 (try dsimp)
 apply bD
 cases h
 (try simp only [qt, qb, qn, qg])
 refine dN (xs := _) ⟨_, rfl, rfl⟩ ?_
 show _ ∧ _
 exact ⟨rfl, ⟨(by first | rfl | simp [aj, au, ah]), ⟨(by first | rfl | simp [aj, au, ah]), ⟨(by first | rfl | simp [aj, au, ah]), ⟨(by first | rfl | simp [aj, au, ah]), ⟨(by first | rfl | simp [aj, au, ah]), trivial⟩⟩⟩⟩⟩⟩
 apply bf
 refine aX [0, 1, 5] [904, 100900, 100903, 100950, 100951] ?_
 (try dsimp)
 apply Eso
 apply WM
 refine WQ qnc ?_
 refine WQ qap ?_
 refine W1 (dI (e := bU) (n := 1) (k := 12) rfl rfl (fun _ => rfl) g83 0 (by omega) rfl rfl rfl (by decide) (⟨(3 : Int), (nth v75 a1).xd, (nth v75 a1).xl⟩ : aY) rfl (by decide) rfl) ?_
 refine Wk [0, 1, 5] [904, 100900, 100903, 100950, 100951] ?_
 (try dsimp)
 apply Eso
 apply WM
 apply WM
 apply WM
 cases h
 apply Eso
 refine WQ qi ?_
 apply WM
 refine Wk [0, 1, 5, 7, 51, 94] [904, 100900, 100903, 100950, 100951] ?_
 (try dsimp)
 refine Ec h rfl (fun h aeS => ?_) (fun h aeS => ?_)
 apply Eso
 apply WM
 refine WQ qnc ?_
 refine WQ qap ?_
 refine W1 (dI (e := bU) (n := 1) (k := 12) rfl rfl (fun _ => rfl) g83 0 (by omega) rfl rfl rfl (by decide) (⟨(4 : Int), (nth v75 a1).xd, (nth v75 a1).xl⟩ : aY) rfl (by decide) rfl) ?_
 refine Wk [0, 1, 5] [904, 100900, 100903, 100950, 100951] ?_
 (try dsimp)
 apply Eso
 apply WM
 apply WM
 apply WM
 obtain ⟨x95, aeT, h⟩ := aG h
 refine W1 (Does.ghost (fK (r := 100900) rfl (by simp [aj, au, ah] : ⟨false, [.ptr 100950 0, vi v76, vi v77, vi v78, .own 100903 0 v75.length (some (12, 101)), .own 904 0 v80.length (some (1, 3)), vb v79]⟩ = ⟨false, [.ptr 100950 0, vi v76, vi v77, vi v78, .own 100903 0 (dZ v75 a1 (⟨(4 : Int), (nth v75 a1).xd, (nth v75 a1).xl⟩ : aY)).length (some (12, 101)), .own 904 0 v80.length (some (1, 3)), vb v79]⟩)).b (aO [] false hP (zZ F (⟨(⟨v70, v71, v72, v73, v74⟩ : aC), (⟨v76, v77, v78⟩ : aJ), (dZ v75 a1 (⟨(4 : Int), (nth v75 a1).xd, (nth v75 a1).xl⟩ : aY)), v80, v79⟩ : aW) a1 (2 : Int) x95 aeT) rfl ⟨rfl, rfl, rfl, rfl, rfl, trivial⟩ rfl rfl rfl rfl rfl (fun h => by first | rfl | cases h) rfl)) ?_
 (try dsimp)
 refine WQ qnc ?_
 refine WQ qap ?_
 obtain ⟨g96, h⟩ := aQ h
 refine W1 (dI (e := bU) (n := 1) (k := 12) rfl rfl (fun _ => rfl) g96 11 (by omega) rfl rfl rfl (by decide) (⟨(nth x95.1.xw a1).l7, (nth x95.1.xw a1).xd, x95.2⟩ : aY) rfl (by decide) rfl) ?_
 refine Wk [0, 1, 5] [904, 100900, 100903, 100950, 100951] ?_
 (try dsimp)
 apply QK
 refine ⟨rfl, n81, (x95.1.xm.xl, x95.1.xm.dD, x95.1.xm.bC, x95.1.xm.bP, x95.1.xm.bQ, (dZ x95.1.xw a1 (⟨(nth x95.1.xw a1).l7, (nth x95.1.xw a1).xd, x95.2⟩ : aY)), x95.1.dB.ak, x95.1.dB.ay, x95.1.dB.aA, x95.1.fP, x95.1.cu), Nat.lt_succ_self _, h, ?_⟩
 refine fM (fK (r := 100900) rfl (by simp [aj, au, ah] : ⟨false, [.ptr 100950 0, vi x95.1.dB.ak, vi x95.1.dB.ay, vi x95.1.dB.aA, .own 100903 0 x95.1.xw.length (some (12, 101)), .own 904 0 x95.1.cu.length (some (1, 3)), vb x95.1.fP]⟩ = ⟨false, [.ptr 100950 0, vi x95.1.dB.ak, vi x95.1.dB.ay, vi x95.1.dB.aA, .own 100903 0 (dZ x95.1.xw a1 (⟨(nth x95.1.xw a1).l7, (nth x95.1.xw a1).xd, x95.2⟩ : aY)).length (some (12, 101)), .own 904 0 x95.1.cu.length (some (1, 3)), vb x95.1.fP]⟩)).b ?_
 exact LB
 apply Eso
 refine WQ qi ?_
 apply WM
 refine Wk [0, 1, 5, 7, 51, 105] [904, 100900, 100903, 100950, 100951] ?_
 (try dsimp)
 refine Ec h rfl (fun h aeU => ?_) (fun h aeU => ?_)
 apply Eso
 apply WM
 refine WQ qnc ?_
 refine WQ qap ?_
 refine W1 (dI (e := bU) (n := 1) (k := 12) rfl rfl (fun _ => rfl) g83 0 (by omega) rfl rfl rfl (by decide) (⟨(5 : Int), (nth v75 a1).xd, (nth v75 a1).xl⟩ : aY) rfl (by decide) rfl) ?_
 refine Wk [0, 1, 5] [904, 100900, 100903, 100950, 100951] ?_
 (try dsimp)
 apply Eso
 apply WM
 apply WM
 apply WM
 obtain ⟨x98, aeV, h⟩ := aG h
 refine W1 (Does.ghost (fK (r := 100900) rfl (by simp [aj, au, ah] : ⟨false, [.ptr 100950 0, vi v76, vi v77, vi v78, .own 100903 0 v75.length (some (12, 101)), .own 904 0 v80.length (some (1, 3)), vb v79]⟩ = ⟨false, [.ptr 100950 0, vi v76, vi v77, vi v78, .own 100903 0 (dZ v75 a1 (⟨(5 : Int), (nth v75 a1).xd, (nth v75 a1).xl⟩ : aY)).length (some (12, 101)), .own 904 0 v80.length (some (1, 3)), vb v79]⟩)).b (aO [] false hP (FU F (⟨(⟨v70, v71, v72, v73, v74⟩ : aC), (⟨v76, v77, v78⟩ : aJ), (dZ v75 a1 (⟨(5 : Int), (nth v75 a1).xd, (nth v75 a1).xl⟩ : aY)), v80, v79⟩ : aW) a1 x98 aeV) rfl ⟨rfl, rfl, rfl, rfl, rfl, trivial⟩ rfl rfl rfl rfl rfl (fun h => by first | rfl | cases h) rfl)) ?_
 (try dsimp)
 refine WQ qnc ?_
 refine WQ qap ?_
 refine W1 (mD (e := bU) (n := 1) (k := 12) rfl rfl (fun _ => rfl) (by first | exact g83 | exact kH.1 g83 | simpa only [kH] using g83) 11 (by omega) rfl rfl rfl (by decide) (⟨(5 : Int), (nth v75 a1).xd, x98⟩ : aY) rfl (by decide) rfl) ?_
 refine Wk [0, 1, 5] [904, 100900, 100903, 100950, 100951] ?_
 (try dsimp)
 apply QK
 refine ⟨rfl, n81, (v70, v71, v72, v73, v74, (dZ v75 a1 (⟨(5 : Int), (nth v75 a1).xd, x98⟩ : aY)), v76, v77, v78, v79, v80), Nat.lt_succ_self _, h, ?_⟩
 refine fM (fK (r := 100900) rfl (by simp [aj, au, ah] : ⟨false, [.ptr 100950 0, vi v76, vi v77, vi v78, .own 100903 0 (dZ v75 a1 (⟨(5 : Int), (nth v75 a1).xd, (nth v75 a1).xl⟩ : aY)).length (some (12, 101)), .own 904 0 v80.length (some (1, 3)), vb v79]⟩ = ⟨false, [.ptr 100950 0, vi v76, vi v77, vi v78, .own 100903 0 (dZ v75 a1 (⟨(5 : Int), (nth v75 a1).xd, x98⟩ : aY)).length (some (12, 101)), .own 904 0 v80.length (some (1, 3)), vb v79]⟩)).b ?_
 exact LB
 apply Eso
 refine WQ qi ?_
 apply WM
 refine Wk [0, 1, 5, 7, 51, 116] [904, 100900, 100903, 100950, 100951] ?_
 (try dsimp)
 refine Ec h rfl (fun h hc99 => ?_) (fun h hc99 => ?_)
 apply Eso
 apply WM
 refine WQ qnc ?_
 refine WQ qap ?_
 refine W1 (dI (e := bU) (n := 1) (k := 12) rfl rfl (fun _ => rfl) g83 0 (by omega) rfl rfl rfl (by decide) (⟨(6 : Int), (nth v75 a1).xd, (nth v75 a1).xl⟩ : aY) rfl (by decide) rfl) ?_
 refine Wk [0, 1, 5] [904, 100900, 100903, 100950, 100951] ?_
 (try dsimp)
 apply Eso
 apply WM
 apply WM
 apply WM
 obtain ⟨x100, Zk, h⟩ := aG h
 refine W1 (Does.ghost (fK (r := 100900) rfl (by simp [aj, au, ah] : ⟨false, [.ptr 100950 0, vi v76, vi v77, vi v78, .own 100903 0 v75.length (some (12, 101)), .own 904 0 v80.length (some (1, 3)), vb v79]⟩ = ⟨false, [.ptr 100950 0, vi v76, vi v77, vi v78, .own 100903 0 (dZ v75 a1 (⟨(6 : Int), (nth v75 a1).xd, (nth v75 a1).xl⟩ : aY)).length (some (12, 101)), .own 904 0 v80.length (some (1, 3)), vb v79]⟩)).b (aO [] false hP (zZ F (⟨(⟨v70, v71, v72, v73, v74⟩ : aC), (⟨v76, v77, v78⟩ : aJ), (dZ v75 a1 (⟨(6 : Int), (nth v75 a1).xd, (nth v75 a1).xl⟩ : aY)), v80, v79⟩ : aW) a1 (3 : Int) x100 Zk) rfl ⟨rfl, rfl, rfl, rfl, rfl, trivial⟩ rfl rfl rfl rfl rfl (fun h => by first | rfl | cases h) rfl)) ?_
 (try dsimp)
 refine WQ qnc ?_
 refine WQ qap ?_
 obtain ⟨aeW, h⟩ := aQ h
 refine W1 (dI (e := bU) (n := 1) (k := 12) rfl rfl (fun _ => rfl) aeW 11 (by omega) rfl rfl rfl (by decide) (⟨(nth x100.1.xw a1).l7, (nth x100.1.xw a1).xd, x100.2⟩ : aY) rfl (by decide) rfl) ?_
 refine Wk [0, 1, 5] [904, 100900, 100903, 100950, 100951] ?_
 (try dsimp)
 apply QK
 refine ⟨rfl, n81, (x100.1.xm.xl, x100.1.xm.dD, x100.1.xm.bC, x100.1.xm.bP, x100.1.xm.bQ, (dZ x100.1.xw a1 (⟨(nth x100.1.xw a1).l7, (nth x100.1.xw a1).xd, x100.2⟩ : aY)), x100.1.dB.ak, x100.1.dB.ay, x100.1.dB.aA, x100.1.fP, x100.1.cu), Nat.lt_succ_self _, h, ?_⟩
 refine fM (fK (r := 100900) rfl (by simp [aj, au, ah] : ⟨false, [.ptr 100950 0, vi x100.1.dB.ak, vi x100.1.dB.ay, vi x100.1.dB.aA, .own 100903 0 x100.1.xw.length (some (12, 101)), .own 904 0 x100.1.cu.length (some (1, 3)), vb x100.1.fP]⟩ = ⟨false, [.ptr 100950 0, vi x100.1.dB.ak, vi x100.1.dB.ay, vi x100.1.dB.aA, .own 100903 0 (dZ x100.1.xw a1 (⟨(nth x100.1.xw a1).l7, (nth x100.1.xw a1).xd, x100.2⟩ : aY)).length (some (12, 101)), .own 904 0 x100.1.cu.length (some (1, 3)), vb x100.1.fP]⟩)).b ?_
 exact LB
 apply Eso
 refine WQ qi ?_
 apply WM
 refine Wk [0, 1, 5, 7, 127] [904, 100900, 100903, 100950, 100951] ?_
 (try dsimp)
 refine Ec h rfl (fun h hc102 => ?_) (fun h hc102 => ?_)
 apply Eso
 apply WM
 refine WQ qnc ?_
 refine WQ qap ?_
 refine W1 (dI (e := bU) (n := 1) (k := 12) rfl rfl (fun _ => rfl) g83 0 (by omega) rfl rfl rfl (by decide) (⟨(7 : Int), (nth v75 a1).xd, (nth v75 a1).xl⟩ : aY) rfl (by decide) rfl) ?_
 refine Wk [0, 1, 7] [904, 100900, 100903, 100950, 100951] ?_
 (try dsimp)
 obtain ⟨abB, ac4, h⟩ := eX h
 refine dJ (fun (i : Int × (List bV) × Bool × Int × Int × (List Int)) => ⟨[(4, zi_ i.1)], [(904, ⟨true, flat aT v80⟩), (100900, ⟨false, [.ptr 100950 0, vi v76, vi v77, vi v78, .own 100903 0 (dZ v75 a1 (⟨(7 : Int), (nth v75 a1).xd, (nth v75 a1).xl⟩ : aY)).length (some (12, 101)), .own 904 0 v80.length (some (1, 3)), vb v79]⟩), (100903, ⟨true, flat bU (dZ v75 a1 (⟨(7 : Int), (nth v75 a1).xd, (nth v75 a1).xl⟩ : aY))⟩), (100950, ⟨false, [.own 100951 0 i.2.1.length (some (18, 115)), vb i.2.2.1, vi i.2.2.2.1, vi i.2.2.2.2.1, sl aT i.2.2.2.2.2]⟩), (100951, ⟨true, flat aN i.2.1⟩)]⟩) (fun i => abB i.1 i.2.1 i.2.2.1 i.2.2.2.1 i.2.2.2.2.1 i.2.2.2.2.2 = some r) (fun i h => ?_) ?_
 obtain ⟨acU, acV, v105, acW, v107, acX⟩ := i
 rw [ac4] at h; dsimp only at h
 (try dsimp)
 apply bD
 cases h
 (try simp only [qt, qb, qn, qg])
 refine dN (xs := _) ⟨_, rfl, rfl⟩ ?_
 show _ ∧ _
 exact ⟨rfl, ⟨(by first | rfl | simp [aj, au, ah]), ⟨(by first | rfl | simp [aj, au, ah]), ⟨(by first | rfl | simp [aj, au, ah]), ⟨(by first | rfl | simp [aj, au, ah]), ⟨(by first | rfl | simp [aj, au, ah]), trivial⟩⟩⟩⟩⟩⟩
 obtain ⟨mJ, uz, h⟩ := aG h
 obtain ⟨dA, ou, h⟩ := aG h
 refine ig [5, 6] ?_
 refine XQ 5 rfl rfl rfl qm ?_
 refine XQ 6 rfl rfl rfl qm ?_
 refine X3 rfl ?_ ?_ ?_
 refine XK rfl ((qm).does) ?_
 refine X3 rfl ?_ ?_ ?_
 refine XK rfl ((qnc).does) ?_
 refine X3 rfl ?_ ?_ ?_
 refine XK rfl ((qap).does) ?_
 refine X3 rfl ?_ ?_ ?_
 refine XK rfl ((ql1).does) ?_
 refine X2 rfl ?_ ?_
 refine XK rfl ((qm).does) ?_
 refine X1 rfl (XT rfl rfl (Does.ghost (fK (r := 100900) rfl (by simp [aj, au, ah] : ⟨false, [.ptr 100950 0, vi v76, vi v77, vi v78, .own 100903 0 v75.length (some (12, 101)), .own 904 0 v80.length (some (1, 3)), vb v79]⟩ = ⟨false, [.ptr 100950 0, vi v76, vi v77, vi v78, .own 100903 0 (dZ v75 a1 (⟨(7 : Int), (nth v75 a1).xd, (nth v75 a1).xl⟩ : aY)).length (some (12, 101)), .own 904 0 v80.length (some (1, 3)), vb v79]⟩)).b (aO [] false hP (eF F (⟨(⟨v70, v71, v72, v73, v74⟩ : aC), (⟨v76, v77, v78⟩ : aJ), (dZ v75 a1 (⟨(7 : Int), (nth v75 a1).xd, (nth v75 a1).xl⟩ : aY)), v80, v79⟩ : aW) a1 mJ uz) rfl ⟨rfl, rfl, rfl, rfl, rfl, trivial⟩ rfl rfl rfl rfl rfl (fun h => by first | rfl | cases h) rfl)) ?_)
 refine X1 rfl (XT rfl rfl (aO [(100900, 100950), (100901, 100951)] false hP (dw F (⟨v70, v71, v72, v73, v74⟩ : aC) x88 mJ dA ou) rfl ⟨rfl, rfl, trivial⟩ rfl rfl rfl rfl rfl (fun h => by first | rfl | cases h) rfl) ?_)
 refine X1 rfl (XT rfl rfl ((qm).does) ?_)
 refine dL rfl ?_
 refine ⟨(dA.2, dA.1.xl, dA.1.dD, dA.1.bC, dA.1.bP, dA.1.bQ), h, ?_⟩
 exact LB
 refine XT rfl rfl (Does.ghost (fK (r := 100900) rfl (by simp [aj, au, ah] : ⟨false, [.ptr 100950 0, vi v76, vi v77, vi v78, .own 100903 0 v75.length (some (12, 101)), .own 904 0 v80.length (some (1, 3)), vb v79]⟩ = ⟨false, [.ptr 100950 0, vi v76, vi v77, vi v78, .own 100903 0 (dZ v75 a1 (⟨(7 : Int), (nth v75 a1).xd, (nth v75 a1).xl⟩ : aY)).length (some (12, 101)), .own 904 0 v80.length (some (1, 3)), vb v79]⟩)).b (aO [] false hP (eF F (⟨(⟨v70, v71, v72, v73, v74⟩ : aC), (⟨v76, v77, v78⟩ : aJ), (dZ v75 a1 (⟨(7 : Int), (nth v75 a1).xd, (nth v75 a1).xl⟩ : aY)), v80, v79⟩ : aW) a1 mJ uz) rfl ⟨rfl, rfl, rfl, rfl, rfl, trivial⟩ rfl rfl rfl rfl rfl (fun h => by first | rfl | cases h) rfl)) ?_
 refine X1 rfl (XT rfl rfl ((qm).does) ?_)
 refine X1 rfl (XT rfl rfl (aO [(100900, 100950), (100901, 100951)] false hP (dw F (⟨v70, v71, v72, v73, v74⟩ : aC) x88 mJ dA ou) rfl ⟨rfl, rfl, trivial⟩ rfl rfl rfl rfl rfl (fun h => by first | rfl | cases h) rfl) ?_)
 refine X1 rfl (XT rfl rfl ((qm).does) ?_)
 refine dL rfl ?_
 refine ⟨(dA.2, dA.1.xl, dA.1.dD, dA.1.bC, dA.1.bP, dA.1.bQ), h, ?_⟩
 exact LB
 refine XK rfl ((qm).does) ?_
 refine X2 rfl ?_ ?_
 refine XK rfl ((ql1).does) ?_
 refine X1 rfl (XT rfl rfl (Does.ghost (fK (r := 100900) rfl (by simp [aj, au, ah] : ⟨false, [.ptr 100950 0, vi v76, vi v77, vi v78, .own 100903 0 v75.length (some (12, 101)), .own 904 0 v80.length (some (1, 3)), vb v79]⟩ = ⟨false, [.ptr 100950 0, vi v76, vi v77, vi v78, .own 100903 0 (dZ v75 a1 (⟨(7 : Int), (nth v75 a1).xd, (nth v75 a1).xl⟩ : aY)).length (some (12, 101)), .own 904 0 v80.length (some (1, 3)), vb v79]⟩)).b (aO [] false hP (eF F (⟨(⟨v70, v71, v72, v73, v74⟩ : aC), (⟨v76, v77, v78⟩ : aJ), (dZ v75 a1 (⟨(7 : Int), (nth v75 a1).xd, (nth v75 a1).xl⟩ : aY)), v80, v79⟩ : aW) a1 mJ uz) rfl ⟨rfl, rfl, rfl, rfl, rfl, trivial⟩ rfl rfl rfl rfl rfl (fun h => by first | rfl | cases h) rfl)) ?_)
 refine X1 rfl (XT rfl rfl (aO [(100900, 100950), (100901, 100951)] false hP (dw F (⟨v70, v71, v72, v73, v74⟩ : aC) x88 mJ dA ou) rfl ⟨rfl, rfl, trivial⟩ rfl rfl rfl rfl rfl (fun h => by first | rfl | cases h) rfl) ?_)
 refine X1 rfl (XT rfl rfl ((qm).does) ?_)
 refine dL rfl ?_
 refine ⟨(dA.2, dA.1.xl, dA.1.dD, dA.1.bC, dA.1.bP, dA.1.bQ), h, ?_⟩
 exact LB
 refine XT rfl rfl (Does.ghost (fK (r := 100900) rfl (by simp [aj, au, ah] : ⟨false, [.ptr 100950 0, vi v76, vi v77, vi v78, .own 100903 0 v75.length (some (12, 101)), .own 904 0 v80.length (some (1, 3)), vb v79]⟩ = ⟨false, [.ptr 100950 0, vi v76, vi v77, vi v78, .own 100903 0 (dZ v75 a1 (⟨(7 : Int), (nth v75 a1).xd, (nth v75 a1).xl⟩ : aY)).length (some (12, 101)), .own 904 0 v80.length (some (1, 3)), vb v79]⟩)).b (aO [] false hP (eF F (⟨(⟨v70, v71, v72, v73, v74⟩ : aC), (⟨v76, v77, v78⟩ : aJ), (dZ v75 a1 (⟨(7 : Int), (nth v75 a1).xd, (nth v75 a1).xl⟩ : aY)), v80, v79⟩ : aW) a1 mJ uz) rfl ⟨rfl, rfl, rfl, rfl, rfl, trivial⟩ rfl rfl rfl rfl rfl (fun h => by first | rfl | cases h) rfl)) ?_
 refine X1 rfl (XT rfl rfl ((ql1).does) ?_)
 refine X1 rfl (XT rfl rfl (aO [(100900, 100950), (100901, 100951)] false hP (dw F (⟨v70, v71, v72, v73, v74⟩ : aC) x88 mJ dA ou) rfl ⟨rfl, rfl, trivial⟩ rfl rfl rfl rfl rfl (fun h => by first | rfl | cases h) rfl) ?_)
 refine X1 rfl (XT rfl rfl ((qm).does) ?_)
 refine dL rfl ?_
 refine ⟨(dA.2, dA.1.xl, dA.1.dD, dA.1.bC, dA.1.bP, dA.1.bQ), h, ?_⟩
 exact LB
 refine XT rfl rfl (Does.ghost (fK (r := 100900) rfl (by simp [aj, au, ah] : ⟨false, [.ptr 100950 0, vi v76, vi v77, vi v78, .own 100903 0 v75.length (some (12, 101)), .own 904 0 v80.length (some (1, 3)), vb v79]⟩ = ⟨false, [.ptr 100950 0, vi v76, vi v77, vi v78, .own 100903 0 (dZ v75 a1 (⟨(7 : Int), (nth v75 a1).xd, (nth v75 a1).xl⟩ : aY)).length (some (12, 101)), .own 904 0 v80.length (some (1, 3)), vb v79]⟩)).b (aO [] false hP (eF F (⟨(⟨v70, v71, v72, v73, v74⟩ : aC), (⟨v76, v77, v78⟩ : aJ), (dZ v75 a1 (⟨(7 : Int), (nth v75 a1).xd, (nth v75 a1).xl⟩ : aY)), v80, v79⟩ : aW) a1 mJ uz) rfl ⟨rfl, rfl, rfl, rfl, rfl, trivial⟩ rfl rfl rfl rfl rfl (fun h => by first | rfl | cases h) rfl)) ?_
 refine X2 rfl ?_ ?_
 refine XT rfl rfl ((ql1).does) ?_
 refine X1 rfl (XT rfl rfl ((qm).does) ?_)
 refine X1 rfl (XT rfl rfl (aO [(100900, 100950), (100901, 100951)] false hP (dw F (⟨v70, v71, v72, v73, v74⟩ : aC) x88 mJ dA ou) rfl ⟨rfl, rfl, trivial⟩ rfl rfl rfl rfl rfl (fun h => by first | rfl | cases h) rfl) ?_)
 refine X1 rfl (XT rfl rfl ((qm).does) ?_)
 refine dL rfl ?_
 refine ⟨(dA.2, dA.1.xl, dA.1.dD, dA.1.bC, dA.1.bP, dA.1.bQ), h, ?_⟩
 exact LB
 refine XT rfl rfl ((qm).does) ?_
 refine X1 rfl (XT rfl rfl ((ql1).does) ?_)
 refine X1 rfl (XT rfl rfl (aO [(100900, 100950), (100901, 100951)] false hP (dw F (⟨v70, v71, v72, v73, v74⟩ : aC) x88 mJ dA ou) rfl ⟨rfl, rfl, trivial⟩ rfl rfl rfl rfl rfl (fun h => by first | rfl | cases h) rfl) ?_)
 refine X1 rfl (XT rfl rfl ((qm).does) ?_)
 refine dL rfl ?_
 refine ⟨(dA.2, dA.1.xl, dA.1.dD, dA.1.bC, dA.1.bP, dA.1.bQ), h, ?_⟩
 exact LB
 refine XK rfl ((qm).does) ?_
 refine X2 rfl ?_ ?_
 refine XK rfl ((qap).does) ?_
 refine X2 rfl ?_ ?_
 refine XK rfl ((ql1).does) ?_
 refine X1 rfl (XT rfl rfl (Does.ghost (fK (r := 100900) rfl (by simp [aj, au, ah] : ⟨false, [.ptr 100950 0, vi v76, vi v77, vi v78, .own 100903 0 v75.length (some (12, 101)), .own 904 0 v80.length (some (1, 3)), vb v79]⟩ = ⟨false, [.ptr 100950 0, vi v76, vi v77, vi v78, .own 100903 0 (dZ v75 a1 (⟨(7 : Int), (nth v75 a1).xd, (nth v75 a1).xl⟩ : aY)).length (some (12, 101)), .own 904 0 v80.length (some (1, 3)), vb v79]⟩)).b (aO [] false hP (eF F (⟨(⟨v70, v71, v72, v73, v74⟩ : aC), (⟨v76, v77, v78⟩ : aJ), (dZ v75 a1 (⟨(7 : Int), (nth v75 a1).xd, (nth v75 a1).xl⟩ : aY)), v80, v79⟩ : aW) a1 mJ uz) rfl ⟨rfl, rfl, rfl, rfl, rfl, trivial⟩ rfl rfl rfl rfl rfl (fun h => by first | rfl | cases h) rfl)) ?_)
 refine X1 rfl (XT rfl rfl (aO [(100900, 100950), (100901, 100951)] false hP (dw F (⟨v70, v71, v72, v73, v74⟩ : aC) x88 mJ dA ou) rfl ⟨rfl, rfl, trivial⟩ rfl rfl rfl rfl rfl (fun h => by first | rfl | cases h) rfl) ?_)
 refine X1 rfl (XT rfl rfl ((qm).does) ?_)
 refine dL rfl ?_
 refine ⟨(dA.2, dA.1.xl, dA.1.dD, dA.1.bC, dA.1.bP, dA.1.bQ), h, ?_⟩
 exact LB
 refine XT rfl rfl (Does.ghost (fK (r := 100900) rfl (by simp [aj, au, ah] : ⟨false, [.ptr 100950 0, vi v76, vi v77, vi v78, .own 100903 0 v75.length (some (12, 101)), .own 904 0 v80.length (some (1, 3)), vb v79]⟩ = ⟨false, [.ptr 100950 0, vi v76, vi v77, vi v78, .own 100903 0 (dZ v75 a1 (⟨(7 : Int), (nth v75 a1).xd, (nth v75 a1).xl⟩ : aY)).length (some (12, 101)), .own 904 0 v80.length (some (1, 3)), vb v79]⟩)).b (aO [] false hP (eF F (⟨(⟨v70, v71, v72, v73, v74⟩ : aC), (⟨v76, v77, v78⟩ : aJ), (dZ v75 a1 (⟨(7 : Int), (nth v75 a1).xd, (nth v75 a1).xl⟩ : aY)), v80, v79⟩ : aW) a1 mJ uz) rfl ⟨rfl, rfl, rfl, rfl, rfl, trivial⟩ rfl rfl rfl rfl rfl (fun h => by first | rfl | cases h) rfl)) ?_
 refine X1 rfl (XT rfl rfl ((ql1).does) ?_)
 refine X1 rfl (XT rfl rfl (aO [(100900, 100950), (100901, 100951)] false hP (dw F (⟨v70, v71, v72, v73, v74⟩ : aC) x88 mJ dA ou) rfl ⟨rfl, rfl, trivial⟩ rfl rfl rfl rfl rfl (fun h => by first | rfl | cases h) rfl) ?_)
 refine X1 rfl (XT rfl rfl ((qm).does) ?_)
 refine dL rfl ?_
 refine ⟨(dA.2, dA.1.xl, dA.1.dD, dA.1.bC, dA.1.bP, dA.1.bQ), h, ?_⟩
 exact LB
 refine XT rfl rfl (Does.ghost (fK (r := 100900) rfl (by simp [aj, au, ah] : ⟨false, [.ptr 100950 0, vi v76, vi v77, vi v78, .own 100903 0 v75.length (some (12, 101)), .own 904 0 v80.length (some (1, 3)), vb v79]⟩ = ⟨false, [.ptr 100950 0, vi v76, vi v77, vi v78, .own 100903 0 (dZ v75 a1 (⟨(7 : Int), (nth v75 a1).xd, (nth v75 a1).xl⟩ : aY)).length (some (12, 101)), .own 904 0 v80.length (some (1, 3)), vb v79]⟩)).b (aO [] false hP (eF F (⟨(⟨v70, v71, v72, v73, v74⟩ : aC), (⟨v76, v77, v78⟩ : aJ), (dZ v75 a1 (⟨(7 : Int), (nth v75 a1).xd, (nth v75 a1).xl⟩ : aY)), v80, v79⟩ : aW) a1 mJ uz) rfl ⟨rfl, rfl, rfl, rfl, rfl, trivial⟩ rfl rfl rfl rfl rfl (fun h => by first | rfl | cases h) rfl)) ?_
 refine X1 rfl (XT rfl rfl ((qap).does) ?_)
 refine X1 rfl (XT rfl rfl ((ql1).does) ?_)
 refine X1 rfl (XT rfl rfl (aO [(100900, 100950), (100901, 100951)] false hP (dw F (⟨v70, v71, v72, v73, v74⟩ : aC) x88 mJ dA ou) rfl ⟨rfl, rfl, trivial⟩ rfl rfl rfl rfl rfl (fun h => by first | rfl | cases h) rfl) ?_)
 refine X1 rfl (XT rfl rfl ((qm).does) ?_)
 refine dL rfl ?_
 refine ⟨(dA.2, dA.1.xl, dA.1.dD, dA.1.bC, dA.1.bP, dA.1.bQ), h, ?_⟩
 exact LB
 refine XT rfl rfl (Does.ghost (fK (r := 100900) rfl (by simp [aj, au, ah] : ⟨false, [.ptr 100950 0, vi v76, vi v77, vi v78, .own 100903 0 v75.length (some (12, 101)), .own 904 0 v80.length (some (1, 3)), vb v79]⟩ = ⟨false, [.ptr 100950 0, vi v76, vi v77, vi v78, .own 100903 0 (dZ v75 a1 (⟨(7 : Int), (nth v75 a1).xd, (nth v75 a1).xl⟩ : aY)).length (some (12, 101)), .own 904 0 v80.length (some (1, 3)), vb v79]⟩)).b (aO [] false hP (eF F (⟨(⟨v70, v71, v72, v73, v74⟩ : aC), (⟨v76, v77, v78⟩ : aJ), (dZ v75 a1 (⟨(7 : Int), (nth v75 a1).xd, (nth v75 a1).xl⟩ : aY)), v80, v79⟩ : aW) a1 mJ uz) rfl ⟨rfl, rfl, rfl, rfl, rfl, trivial⟩ rfl rfl rfl rfl rfl (fun h => by first | rfl | cases h) rfl)) ?_
 refine X2 rfl ?_ ?_
 refine XT rfl rfl ((qap).does) ?_
 refine X2 rfl ?_ ?_
 refine XT rfl rfl ((ql1).does) ?_
 refine X1 rfl (XT rfl rfl ((qm).does) ?_)
 refine X1 rfl (XT rfl rfl (aO [(100900, 100950), (100901, 100951)] false hP (dw F (⟨v70, v71, v72, v73, v74⟩ : aC) x88 mJ dA ou) rfl ⟨rfl, rfl, trivial⟩ rfl rfl rfl rfl rfl (fun h => by first | rfl | cases h) rfl) ?_)
 refine X1 rfl (XT rfl rfl ((qm).does) ?_)
 refine dL rfl ?_
 refine ⟨(dA.2, dA.1.xl, dA.1.dD, dA.1.bC, dA.1.bP, dA.1.bQ), h, ?_⟩
 exact LB
 refine XT rfl rfl ((qm).does) ?_
 refine X1 rfl (XT rfl rfl ((ql1).does) ?_)
 refine X1 rfl (XT rfl rfl (aO [(100900, 100950), (100901, 100951)] false hP (dw F (⟨v70, v71, v72, v73, v74⟩ : aC) x88 mJ dA ou) rfl ⟨rfl, rfl, trivial⟩ rfl rfl rfl rfl rfl (fun h => by first | rfl | cases h) rfl) ?_)
 refine X1 rfl (XT rfl rfl ((qm).does) ?_)
 refine dL rfl ?_
 refine ⟨(dA.2, dA.1.xl, dA.1.dD, dA.1.bC, dA.1.bP, dA.1.bQ), h, ?_⟩
 exact LB
 refine XT rfl rfl ((qm).does) ?_
 refine X1 rfl (XT rfl rfl ((qap).does) ?_)
 refine X1 rfl (XT rfl rfl ((ql1).does) ?_)
 refine X1 rfl (XT rfl rfl (aO [(100900, 100950), (100901, 100951)] false hP (dw F (⟨v70, v71, v72, v73, v74⟩ : aC) x88 mJ dA ou) rfl ⟨rfl, rfl, trivial⟩ rfl rfl rfl rfl rfl (fun h => by first | rfl | cases h) rfl) ?_)
 refine X1 rfl (XT rfl rfl ((qm).does) ?_)
 refine dL rfl ?_
 refine ⟨(dA.2, dA.1.xl, dA.1.dD, dA.1.bC, dA.1.bP, dA.1.bQ), h, ?_⟩
 exact LB
 refine XK rfl ((qm).does) ?_
 refine X2 rfl ?_ ?_
 refine XK rfl ((qnc).does) ?_
 refine X2 rfl ?_ ?_
 refine XK rfl ((qap).does) ?_
 refine X2 rfl ?_ ?_
 refine XK rfl ((ql1).does) ?_
 refine X1 rfl (XT rfl rfl (Does.ghost (fK (r := 100900) rfl (by simp [aj, au, ah] : ⟨false, [.ptr 100950 0, vi v76, vi v77, vi v78, .own 100903 0 v75.length (some (12, 101)), .own 904 0 v80.length (some (1, 3)), vb v79]⟩ = ⟨false, [.ptr 100950 0, vi v76, vi v77, vi v78, .own 100903 0 (dZ v75 a1 (⟨(7 : Int), (nth v75 a1).xd, (nth v75 a1).xl⟩ : aY)).length (some (12, 101)), .own 904 0 v80.length (some (1, 3)), vb v79]⟩)).b (aO [] false hP (eF F (⟨(⟨v70, v71, v72, v73, v74⟩ : aC), (⟨v76, v77, v78⟩ : aJ), (dZ v75 a1 (⟨(7 : Int), (nth v75 a1).xd, (nth v75 a1).xl⟩ : aY)), v80, v79⟩ : aW) a1 mJ uz) rfl ⟨rfl, rfl, rfl, rfl, rfl, trivial⟩ rfl rfl rfl rfl rfl (fun h => by first | rfl | cases h) rfl)) ?_)
 refine X1 rfl (XT rfl rfl (aO [(100900, 100950), (100901, 100951)] false hP (dw F (⟨v70, v71, v72, v73, v74⟩ : aC) x88 mJ dA ou) rfl ⟨rfl, rfl, trivial⟩ rfl rfl rfl rfl rfl (fun h => by first | rfl | cases h) rfl) ?_)
 refine X1 rfl (XT rfl rfl ((qm).does) ?_)
 refine dL rfl ?_
 refine ⟨(dA.2, dA.1.xl, dA.1.dD, dA.1.bC, dA.1.bP, dA.1.bQ), h, ?_⟩
 exact LB
 refine XT rfl rfl (Does.ghost (fK (r := 100900) rfl (by simp [aj, au, ah] : ⟨false, [.ptr 100950 0, vi v76, vi v77, vi v78, .own 100903 0 v75.length (some (12, 101)), .own 904 0 v80.length (some (1, 3)), vb v79]⟩ = ⟨false, [.ptr 100950 0, vi v76, vi v77, vi v78, .own 100903 0 (dZ v75 a1 (⟨(7 : Int), (nth v75 a1).xd, (nth v75 a1).xl⟩ : aY)).length (some (12, 101)), .own 904 0 v80.length (some (1, 3)), vb v79]⟩)).b (aO [] false hP (eF F (⟨(⟨v70, v71, v72, v73, v74⟩ : aC), (⟨v76, v77, v78⟩ : aJ), (dZ v75 a1 (⟨(7 : Int), (nth v75 a1).xd, (nth v75 a1).xl⟩ : aY)), v80, v79⟩ : aW) a1 mJ uz) rfl ⟨rfl, rfl, rfl, rfl, rfl, trivial⟩ rfl rfl rfl rfl rfl (fun h => by first | rfl | cases h) rfl)) ?_
 refine X1 rfl (XT rfl rfl ((ql1).does) ?_)
 refine X1 rfl (XT rfl rfl (aO [(100900, 100950), (100901, 100951)] false hP (dw F (⟨v70, v71, v72, v73, v74⟩ : aC) x88 mJ dA ou) rfl ⟨rfl, rfl, trivial⟩ rfl rfl rfl rfl rfl (fun h => by first | rfl | cases h) rfl) ?_)
 refine X1 rfl (XT rfl rfl ((qm).does) ?_)
 refine dL rfl ?_
 refine ⟨(dA.2, dA.1.xl, dA.1.dD, dA.1.bC, dA.1.bP, dA.1.bQ), h, ?_⟩
 exact LB
 refine XT rfl rfl (Does.ghost (fK (r := 100900) rfl (by simp [aj, au, ah] : ⟨false, [.ptr 100950 0, vi v76, vi v77, vi v78, .own 100903 0 v75.length (some (12, 101)), .own 904 0 v80.length (some (1, 3)), vb v79]⟩ = ⟨false, [.ptr 100950 0, vi v76, vi v77, vi v78, .own 100903 0 (dZ v75 a1 (⟨(7 : Int), (nth v75 a1).xd, (nth v75 a1).xl⟩ : aY)).length (some (12, 101)), .own 904 0 v80.length (some (1, 3)), vb v79]⟩)).b (aO [] false hP (eF F (⟨(⟨v70, v71, v72, v73, v74⟩ : aC), (⟨v76, v77, v78⟩ : aJ), (dZ v75 a1 (⟨(7 : Int), (nth v75 a1).xd, (nth v75 a1).xl⟩ : aY)), v80, v79⟩ : aW) a1 mJ uz) rfl ⟨rfl, rfl, rfl, rfl, rfl, trivial⟩ rfl rfl rfl rfl rfl (fun h => by first | rfl | cases h) rfl)) ?_
 refine X1 rfl (XT rfl rfl ((qap).does) ?_)
 refine X1 rfl (XT rfl rfl ((ql1).does) ?_)
 refine X1 rfl (XT rfl rfl (aO [(100900, 100950), (100901, 100951)] false hP (dw F (⟨v70, v71, v72, v73, v74⟩ : aC) x88 mJ dA ou) rfl ⟨rfl, rfl, trivial⟩ rfl rfl rfl rfl rfl (fun h => by first | rfl | cases h) rfl) ?_)
 refine X1 rfl (XT rfl rfl ((qm).does) ?_)
 refine dL rfl ?_
 refine ⟨(dA.2, dA.1.xl, dA.1.dD, dA.1.bC, dA.1.bP, dA.1.bQ), h, ?_⟩
 exact LB
 refine XT rfl rfl (Does.ghost (fK (r := 100900) rfl (by simp [aj, au, ah] : ⟨false, [.ptr 100950 0, vi v76, vi v77, vi v78, .own 100903 0 v75.length (some (12, 101)), .own 904 0 v80.length (some (1, 3)), vb v79]⟩ = ⟨false, [.ptr 100950 0, vi v76, vi v77, vi v78, .own 100903 0 (dZ v75 a1 (⟨(7 : Int), (nth v75 a1).xd, (nth v75 a1).xl⟩ : aY)).length (some (12, 101)), .own 904 0 v80.length (some (1, 3)), vb v79]⟩)).b (aO [] false hP (eF F (⟨(⟨v70, v71, v72, v73, v74⟩ : aC), (⟨v76, v77, v78⟩ : aJ), (dZ v75 a1 (⟨(7 : Int), (nth v75 a1).xd, (nth v75 a1).xl⟩ : aY)), v80, v79⟩ : aW) a1 mJ uz) rfl ⟨rfl, rfl, rfl, rfl, rfl, trivial⟩ rfl rfl rfl rfl rfl (fun h => by first | rfl | cases h) rfl)) ?_
 refine X1 rfl (XT rfl rfl ((qnc).does) ?_)
 refine X1 rfl (XT rfl rfl ((qap).does) ?_)
 refine X1 rfl (XT rfl rfl ((ql1).does) ?_)
 refine X1 rfl (XT rfl rfl (aO [(100900, 100950), (100901, 100951)] false hP (dw F (⟨v70, v71, v72, v73, v74⟩ : aC) x88 mJ dA ou) rfl ⟨rfl, rfl, trivial⟩ rfl rfl rfl rfl rfl (fun h => by first | rfl | cases h) rfl) ?_)
 refine X1 rfl (XT rfl rfl ((qm).does) ?_)
 refine dL rfl ?_
 refine ⟨(dA.2, dA.1.xl, dA.1.dD, dA.1.bC, dA.1.bP, dA.1.bQ), h, ?_⟩
 exact LB
 refine XT rfl rfl (Does.ghost (fK (r := 100900) rfl (by simp [aj, au, ah] : ⟨false, [.ptr 100950 0, vi v76, vi v77, vi v78, .own 100903 0 v75.length (some (12, 101)), .own 904 0 v80.length (some (1, 3)), vb v79]⟩ = ⟨false, [.ptr 100950 0, vi v76, vi v77, vi v78, .own 100903 0 (dZ v75 a1 (⟨(7 : Int), (nth v75 a1).xd, (nth v75 a1).xl⟩ : aY)).length (some (12, 101)), .own 904 0 v80.length (some (1, 3)), vb v79]⟩)).b (aO [] false hP (eF F (⟨(⟨v70, v71, v72, v73, v74⟩ : aC), (⟨v76, v77, v78⟩ : aJ), (dZ v75 a1 (⟨(7 : Int), (nth v75 a1).xd, (nth v75 a1).xl⟩ : aY)), v80, v79⟩ : aW) a1 mJ uz) rfl ⟨rfl, rfl, rfl, rfl, rfl, trivial⟩ rfl rfl rfl rfl rfl (fun h => by first | rfl | cases h) rfl)) ?_
 refine X2 rfl ?_ ?_
 refine XT rfl rfl ((qnc).does) ?_
 refine X2 rfl ?_ ?_
 refine XT rfl rfl ((qap).does) ?_
 refine X2 rfl ?_ ?_
 refine XT rfl rfl ((ql1).does) ?_
 refine X1 rfl (XT rfl rfl ((qm).does) ?_)
 refine X1 rfl (XT rfl rfl (aO [(100900, 100950), (100901, 100951)] false hP (dw F (⟨v70, v71, v72, v73, v74⟩ : aC) x88 mJ dA ou) rfl ⟨rfl, rfl, trivial⟩ rfl rfl rfl rfl rfl (fun h => by first | rfl | cases h) rfl) ?_)
 refine X1 rfl (XT rfl rfl ((qm).does) ?_)
 refine dL rfl ?_
 refine ⟨(dA.2, dA.1.xl, dA.1.dD, dA.1.bC, dA.1.bP, dA.1.bQ), h, ?_⟩
 exact LB
 refine XT rfl rfl ((qm).does) ?_
 refine X1 rfl (XT rfl rfl ((ql1).does) ?_)
 refine X1 rfl (XT rfl rfl (aO [(100900, 100950), (100901, 100951)] false hP (dw F (⟨v70, v71, v72, v73, v74⟩ : aC) x88 mJ dA ou) rfl ⟨rfl, rfl, trivial⟩ rfl rfl rfl rfl rfl (fun h => by first | rfl | cases h) rfl) ?_)
 refine X1 rfl (XT rfl rfl ((qm).does) ?_)
 refine dL rfl ?_
 refine ⟨(dA.2, dA.1.xl, dA.1.dD, dA.1.bC, dA.1.bP, dA.1.bQ), h, ?_⟩
 exact LB
 refine XT rfl rfl ((qm).does) ?_
 refine X1 rfl (XT rfl rfl ((qap).does) ?_)
 refine X1 rfl (XT rfl rfl ((ql1).does) ?_)
 refine X1 rfl (XT rfl rfl (aO [(100900, 100950), (100901, 100951)] false hP (dw F (⟨v70, v71, v72, v73, v74⟩ : aC) x88 mJ dA ou) rfl ⟨rfl, rfl, trivial⟩ rfl rfl rfl rfl rfl (fun h => by first | rfl | cases h) rfl) ?_)
 refine X1 rfl (XT rfl rfl ((qm).does) ?_)
 refine dL rfl ?_
 refine ⟨(dA.2, dA.1.xl, dA.1.dD, dA.1.bC, dA.1.bP, dA.1.bQ), h, ?_⟩
 exact LB
 refine XT rfl rfl ((qm).does) ?_
 refine X1 rfl (XT rfl rfl ((qnc).does) ?_)
 refine X1 rfl (XT rfl rfl ((qap).does) ?_)
 refine X1 rfl (XT rfl rfl ((ql1).does) ?_)
 refine X1 rfl (XT rfl rfl (aO [(100900, 100950), (100901, 100951)] false hP (dw F (⟨v70, v71, v72, v73, v74⟩ : aC) x88 mJ dA ou) rfl ⟨rfl, rfl, trivial⟩ rfl rfl rfl rfl rfl (fun h => by first | rfl | cases h) rfl) ?_)
 refine X1 rfl (XT rfl rfl ((qm).does) ?_)
 refine dL rfl ?_
 refine ⟨(dA.2, dA.1.xl, dA.1.dD, dA.1.bC, dA.1.bP, dA.1.bQ), h, ?_⟩
 exact LB
 refine XK rfl ((qm).does) ?_
 refine X2 rfl ?_ ?_
 refine XK rfl ((qm).does) ?_
 refine X2 rfl ?_ ?_
 refine XK rfl ((qnc).does) ?_
 refine X2 rfl ?_ ?_
 refine XK rfl ((qap).does) ?_
 refine X2 rfl ?_ ?_
 refine XK rfl ((ql1).does) ?_
 refine X1 rfl (XT rfl rfl (Does.ghost (fK (r := 100900) rfl (by simp [aj, au, ah] : ⟨false, [.ptr 100950 0, vi v76, vi v77, vi v78, .own 100903 0 v75.length (some (12, 101)), .own 904 0 v80.length (some (1, 3)), vb v79]⟩ = ⟨false, [.ptr 100950 0, vi v76, vi v77, vi v78, .own 100903 0 (dZ v75 a1 (⟨(7 : Int), (nth v75 a1).xd, (nth v75 a1).xl⟩ : aY)).length (some (12, 101)), .own 904 0 v80.length (some (1, 3)), vb v79]⟩)).b (aO [] false hP (eF F (⟨(⟨v70, v71, v72, v73, v74⟩ : aC), (⟨v76, v77, v78⟩ : aJ), (dZ v75 a1 (⟨(7 : Int), (nth v75 a1).xd, (nth v75 a1).xl⟩ : aY)), v80, v79⟩ : aW) a1 mJ uz) rfl ⟨rfl, rfl, rfl, rfl, rfl, trivial⟩ rfl rfl rfl rfl rfl (fun h => by first | rfl | cases h) rfl)) ?_)
 refine X1 rfl (XT rfl rfl (aO [(100900, 100950), (100901, 100951)] false hP (dw F (⟨v70, v71, v72, v73, v74⟩ : aC) x88 mJ dA ou) rfl ⟨rfl, rfl, trivial⟩ rfl rfl rfl rfl rfl (fun h => by first | rfl | cases h) rfl) ?_)
 refine X1 rfl (XT rfl rfl ((qm).does) ?_)
 refine dL rfl ?_
 refine ⟨(dA.2, dA.1.xl, dA.1.dD, dA.1.bC, dA.1.bP, dA.1.bQ), h, ?_⟩
 exact LB
 refine XT rfl rfl (Does.ghost (fK (r := 100900) rfl (by simp [aj, au, ah] : ⟨false, [.ptr 100950 0, vi v76, vi v77, vi v78, .own 100903 0 v75.length (some (12, 101)), .own 904 0 v80.length (some (1, 3)), vb v79]⟩ = ⟨false, [.ptr 100950 0, vi v76, vi v77, vi v78, .own 100903 0 (dZ v75 a1 (⟨(7 : Int), (nth v75 a1).xd, (nth v75 a1).xl⟩ : aY)).length (some (12, 101)), .own 904 0 v80.length (some (1, 3)), vb v79]⟩)).b (aO [] false hP (eF F (⟨(⟨v70, v71, v72, v73, v74⟩ : aC), (⟨v76, v77, v78⟩ : aJ), (dZ v75 a1 (⟨(7 : Int), (nth v75 a1).xd, (nth v75 a1).xl⟩ : aY)), v80, v79⟩ : aW) a1 mJ uz) rfl ⟨rfl, rfl, rfl, rfl, rfl, trivial⟩ rfl rfl rfl rfl rfl (fun h => by first | rfl | cases h) rfl)) ?_
 refine X1 rfl (XT rfl rfl ((ql1).does) ?_)
 refine X1 rfl (XT rfl rfl (aO [(100900, 100950), (100901, 100951)] false hP (dw F (⟨v70, v71, v72, v73, v74⟩ : aC) x88 mJ dA ou) rfl ⟨rfl, rfl, trivial⟩ rfl rfl rfl rfl rfl (fun h => by first | rfl | cases h) rfl) ?_)
 refine X1 rfl (XT rfl rfl ((qm).does) ?_)
 refine dL rfl ?_
 refine ⟨(dA.2, dA.1.xl, dA.1.dD, dA.1.bC, dA.1.bP, dA.1.bQ), h, ?_⟩
 exact LB
 refine XT rfl rfl (Does.ghost (fK (r := 100900) rfl (by simp [aj, au, ah] : ⟨false, [.ptr 100950 0, vi v76, vi v77, vi v78, .own 100903 0 v75.length (some (12, 101)), .own 904 0 v80.length (some (1, 3)), vb v79]⟩ = ⟨false, [.ptr 100950 0, vi v76, vi v77, vi v78, .own 100903 0 (dZ v75 a1 (⟨(7 : Int), (nth v75 a1).xd, (nth v75 a1).xl⟩ : aY)).length (some (12, 101)), .own 904 0 v80.length (some (1, 3)), vb v79]⟩)).b (aO [] false hP (eF F (⟨(⟨v70, v71, v72, v73, v74⟩ : aC), (⟨v76, v77, v78⟩ : aJ), (dZ v75 a1 (⟨(7 : Int), (nth v75 a1).xd, (nth v75 a1).xl⟩ : aY)), v80, v79⟩ : aW) a1 mJ uz) rfl ⟨rfl, rfl, rfl, rfl, rfl, trivial⟩ rfl rfl rfl rfl rfl (fun h => by first | rfl | cases h) rfl)) ?_
 refine X1 rfl (XT rfl rfl ((qap).does) ?_)
 refine X1 rfl (XT rfl rfl ((ql1).does) ?_)
 refine X1 rfl (XT rfl rfl (aO [(100900, 100950), (100901, 100951)] false hP (dw F (⟨v70, v71, v72, v73, v74⟩ : aC) x88 mJ dA ou) rfl ⟨rfl, rfl, trivial⟩ rfl rfl rfl rfl rfl (fun h => by first | rfl | cases h) rfl) ?_)
 refine X1 rfl (XT rfl rfl ((qm).does) ?_)
 refine dL rfl ?_
 refine ⟨(dA.2, dA.1.xl, dA.1.dD, dA.1.bC, dA.1.bP, dA.1.bQ), h, ?_⟩
 exact LB
 refine XT rfl rfl (Does.ghost (fK (r := 100900) rfl (by simp [aj, au, ah] : ⟨false, [.ptr 100950 0, vi v76, vi v77, vi v78, .own 100903 0 v75.length (some (12, 101)), .own 904 0 v80.length (some (1, 3)), vb v79]⟩ = ⟨false, [.ptr 100950 0, vi v76, vi v77, vi v78, .own 100903 0 (dZ v75 a1 (⟨(7 : Int), (nth v75 a1).xd, (nth v75 a1).xl⟩ : aY)).length (some (12, 101)), .own 904 0 v80.length (some (1, 3)), vb v79]⟩)).b (aO [] false hP (eF F (⟨(⟨v70, v71, v72, v73, v74⟩ : aC), (⟨v76, v77, v78⟩ : aJ), (dZ v75 a1 (⟨(7 : Int), (nth v75 a1).xd, (nth v75 a1).xl⟩ : aY)), v80, v79⟩ : aW) a1 mJ uz) rfl ⟨rfl, rfl, rfl, rfl, rfl, trivial⟩ rfl rfl rfl rfl rfl (fun h => by first | rfl | cases h) rfl)) ?_
 refine X1 rfl (XT rfl rfl ((qnc).does) ?_)
 refine X1 rfl (XT rfl rfl ((qap).does) ?_)
 refine X1 rfl (XT rfl rfl ((ql1).does) ?_)
 refine X1 rfl (XT rfl rfl (aO [(100900, 100950), (100901, 100951)] false hP (dw F (⟨v70, v71, v72, v73, v74⟩ : aC) x88 mJ dA ou) rfl ⟨rfl, rfl, trivial⟩ rfl rfl rfl rfl rfl (fun h => by first | rfl | cases h) rfl) ?_)
 refine X1 rfl (XT rfl rfl ((qm).does) ?_)
 refine dL rfl ?_
 refine ⟨(dA.2, dA.1.xl, dA.1.dD, dA.1.bC, dA.1.bP, dA.1.bQ), h, ?_⟩
 exact LB
 refine XT rfl rfl (Does.ghost (fK (r := 100900) rfl (by simp [aj, au, ah] : ⟨false, [.ptr 100950 0, vi v76, vi v77, vi v78, .own 100903 0 v75.length (some (12, 101)), .own 904 0 v80.length (some (1, 3)), vb v79]⟩ = ⟨false, [.ptr 100950 0, vi v76, vi v77, vi v78, .own 100903 0 (dZ v75 a1 (⟨(7 : Int), (nth v75 a1).xd, (nth v75 a1).xl⟩ : aY)).length (some (12, 101)), .own 904 0 v80.length (some (1, 3)), vb v79]⟩)).b (aO [] false hP (eF F (⟨(⟨v70, v71, v72, v73, v74⟩ : aC), (⟨v76, v77, v78⟩ : aJ), (dZ v75 a1 (⟨(7 : Int), (nth v75 a1).xd, (nth v75 a1).xl⟩ : aY)), v80, v79⟩ : aW) a1 mJ uz) rfl ⟨rfl, rfl, rfl, rfl, rfl, trivial⟩ rfl rfl rfl rfl rfl (fun h => by first | rfl | cases h) rfl)) ?_
 refine X1 rfl (XT rfl rfl ((qm).does) ?_)
 refine X1 rfl (XT rfl rfl ((qnc).does) ?_)
 refine X1 rfl (XT rfl rfl ((qap).does) ?_)
 refine X1 rfl (XT rfl rfl ((ql1).does) ?_)
 refine X1 rfl (XT rfl rfl (aO [(100900, 100950), (100901, 100951)] false hP (dw F (⟨v70, v71, v72, v73, v74⟩ : aC) x88 mJ dA ou) rfl ⟨rfl, rfl, trivial⟩ rfl rfl rfl rfl rfl (fun h => by first | rfl | cases h) rfl) ?_)
 refine X1 rfl (XT rfl rfl ((qm).does) ?_)
 refine dL rfl ?_
 refine ⟨(dA.2, dA.1.xl, dA.1.dD, dA.1.bC, dA.1.bP, dA.1.bQ), h, ?_⟩
 exact LB
 refine XT rfl rfl (Does.ghost (fK (r := 100900) rfl (by simp [aj, au, ah] : ⟨false, [.ptr 100950 0, vi v76, vi v77, vi v78, .own 100903 0 v75.length (some (12, 101)), .own 904 0 v80.length (some (1, 3)), vb v79]⟩ = ⟨false, [.ptr 100950 0, vi v76, vi v77, vi v78, .own 100903 0 (dZ v75 a1 (⟨(7 : Int), (nth v75 a1).xd, (nth v75 a1).xl⟩ : aY)).length (some (12, 101)), .own 904 0 v80.length (some (1, 3)), vb v79]⟩)).b (aO [] false hP (eF F (⟨(⟨v70, v71, v72, v73, v74⟩ : aC), (⟨v76, v77, v78⟩ : aJ), (dZ v75 a1 (⟨(7 : Int), (nth v75 a1).xd, (nth v75 a1).xl⟩ : aY)), v80, v79⟩ : aW) a1 mJ uz) rfl ⟨rfl, rfl, rfl, rfl, rfl, trivial⟩ rfl rfl rfl rfl rfl (fun h => by first | rfl | cases h) rfl)) ?_
 refine X2 rfl ?_ ?_
 refine XT rfl rfl ((qm).does) ?_
 refine X2 rfl ?_ ?_
 refine XT rfl rfl ((qnc).does) ?_
 refine X2 rfl ?_ ?_
 refine XT rfl rfl ((qap).does) ?_
 refine X2 rfl ?_ ?_
 refine XT rfl rfl ((ql1).does) ?_
 refine X1 rfl (XT rfl rfl ((qm).does) ?_)
 refine X1 rfl (XT rfl rfl (aO [(100900, 100950), (100901, 100951)] false hP (dw F (⟨v70, v71, v72, v73, v74⟩ : aC) x88 mJ dA ou) rfl ⟨rfl, rfl, trivial⟩ rfl rfl rfl rfl rfl (fun h => by first | rfl | cases h) rfl) ?_)
 refine X1 rfl (XT rfl rfl ((qm).does) ?_)
 refine dL rfl ?_
 refine ⟨(dA.2, dA.1.xl, dA.1.dD, dA.1.bC, dA.1.bP, dA.1.bQ), h, ?_⟩
 exact LB
 refine XT rfl rfl ((qm).does) ?_
 refine X1 rfl (XT rfl rfl ((ql1).does) ?_)
 refine X1 rfl (XT rfl rfl (aO [(100900, 100950), (100901, 100951)] false hP (dw F (⟨v70, v71, v72, v73, v74⟩ : aC) x88 mJ dA ou) rfl ⟨rfl, rfl, trivial⟩ rfl rfl rfl rfl rfl (fun h => by first | rfl | cases h) rfl) ?_)
 refine X1 rfl (XT rfl rfl ((qm).does) ?_)
 refine dL rfl ?_
 refine ⟨(dA.2, dA.1.xl, dA.1.dD, dA.1.bC, dA.1.bP, dA.1.bQ), h, ?_⟩
 exact LB
 refine XT rfl rfl ((qm).does) ?_
 refine X1 rfl (XT rfl rfl ((qap).does) ?_)
 refine X1 rfl (XT rfl rfl ((ql1).does) ?_)
 refine X1 rfl (XT rfl rfl (aO [(100900, 100950), (100901, 100951)] false hP (dw F (⟨v70, v71, v72, v73, v74⟩ : aC) x88 mJ dA ou) rfl ⟨rfl, rfl, trivial⟩ rfl rfl rfl rfl rfl (fun h => by first | rfl | cases h) rfl) ?_)
 refine X1 rfl (XT rfl rfl ((qm).does) ?_)
 refine dL rfl ?_
 refine ⟨(dA.2, dA.1.xl, dA.1.dD, dA.1.bC, dA.1.bP, dA.1.bQ), h, ?_⟩
 exact LB
 refine XT rfl rfl ((qm).does) ?_
 refine X1 rfl (XT rfl rfl ((qnc).does) ?_)
 refine X1 rfl (XT rfl rfl ((qap).does) ?_)
 refine X1 rfl (XT rfl rfl ((ql1).does) ?_)
 refine X1 rfl (XT rfl rfl (aO [(100900, 100950), (100901, 100951)] false hP (dw F (⟨v70, v71, v72, v73, v74⟩ : aC) x88 mJ dA ou) rfl ⟨rfl, rfl, trivial⟩ rfl rfl rfl rfl rfl (fun h => by first | rfl | cases h) rfl) ?_)
 refine X1 rfl (XT rfl rfl ((qm).does) ?_)
 refine dL rfl ?_
 refine ⟨(dA.2, dA.1.xl, dA.1.dD, dA.1.bC, dA.1.bP, dA.1.bQ), h, ?_⟩
 exact LB
 refine XT rfl rfl ((qm).does) ?_
 refine X1 rfl (XT rfl rfl ((qm).does) ?_)
 refine X1 rfl (XT rfl rfl ((qnc).does) ?_)
 refine X1 rfl (XT rfl rfl ((qap).does) ?_)
 refine X1 rfl (XT rfl rfl ((ql1).does) ?_)
 refine X1 rfl (XT rfl rfl (aO [(100900, 100950), (100901, 100951)] false hP (dw F (⟨v70, v71, v72, v73, v74⟩ : aC) x88 mJ dA ou) rfl ⟨rfl, rfl, trivial⟩ rfl rfl rfl rfl rfl (fun h => by first | rfl | cases h) rfl) ?_)
 refine X1 rfl (XT rfl rfl ((qm).does) ?_)
 refine dL rfl ?_
 refine ⟨(dA.2, dA.1.xl, dA.1.dD, dA.1.bC, dA.1.bP, dA.1.bQ), h, ?_⟩
 exact LB
 apply bf
 refine aX [] [904, 100900, 100903, 100950, 100951] ?_
 (try dsimp)
 apply Eso
 apply WM
 apply bW
 (try dsimp)
 apply bD
 cases h
 (try simp only [qt, qb, qn, qg])
 refine dN (xs := _) ⟨_, rfl, rfl⟩ ?_
 show _ ∧ _
 exact ⟨rfl, ⟨(by first | rfl | simp [aj, au, ah]), ⟨(by first | rfl | simp [aj, au, ah]), ⟨(by first | rfl | simp [aj, au, ah]), ⟨(by first | rfl | simp [aj, au, ah]), ⟨(by first | rfl | simp [aj, au, ah]), trivial⟩⟩⟩⟩⟩⟩
def Ad : cO := (q [o (.mv (cb nn)) 4, o (.mv (ci 0)) 5] (.seq (q [w 11 0, w 12 1, o (.call 43 [11, 12]) 13, w 6 13] (q [w 14 6, o (.bin .neq 32 14 (ci 0)) 15] (.cond 15 (q [w 16 6, o (.mv (cb nn)) 4, w 5 16] .ret) .skip))) (.seq (q [w 17 0, o (.dG 17) 18, o (.add 4 18) 19, o (.load nn 1 19) 20, w 21 1, o (.fH 12 20 21) 22, o (.add 0 22) 23, o (.load nn 1 23) 24, o (.bin .eql 3 24 (ci 0)) 25] (.cond 25 (q [o (.mv (cb nn)) 4, o (.mv (ci 14)) 5] .ret) .skip)) (q [w 26 1, w 7 26] (.seq (.draw [((w 28 0), []), ((o (.dG 28) 29), [0]), ((o (.add 0 29) 30), [1]), ((o (.load nn 1 30) 31), [2]), ((w 32 0), []), ((o (.dG 32) 33), [4]), ((o (.add 1 33) 34), [5]), ((o (.load yy 3 34) 35), [6]), ((o (.call 47 [35]) 36), [7]), ((o (.call 44 [31, 36]) 37), [3, 8, 8]), ((w 27 37), [9]), ((o (.ext 0 27) 38), [10]), ((o (.ext 1 27) 39), [10]), ((w 8 38), [11, 9, 0, 1, 2, 3, 4, 5, 6, 7, 8, 9, 10, 11]), ((w 9 39), [12, 13, 0, 1, 2, 3, 4, 5, 6, 7, 8, 9, 10, 11, 12, 13])]) (.seq (q [w 40 0, o (.dG 40) 41, o (.add 4 41) 42, o (.load nn 1 42) 43, w 44 1, o (.fH 12 43 44) 45, o (.add 0 45) 46, o (.load nn 1 46) 47, o (.bin .eql 3 47 (ci 2)) 48, w 49 48, g_ (.mv 8) 50 49 yy, g_ (.bin .neq 22 50 (.const (.int .u64 0))) 51 49 yy, o (.pick 49 51 (cb nn)) 52, w 53 52, g_ (.mv 8) 54 53 yy, g_ (.mv 1) 55 53 yy, g_ (.jd .u64 55) 56 53 yy, g_ (.bin .add 22 56 (.const (.int .u64 1))) 57 53 yy, g_ (.bin .neq 22 54 57) 58 53 yy, o (.pick 53 58 (cb nn)) 59] (.cond 59 (.ops [w 60 8, o (.jd .i64 60) 61, o (.bin .sub 3 61 (ci 1)) 62, w 7 62]) .skip)) (.seq (q [w 63 0, w 64 7, o (.call 48 [63, 64]) 65, w 10 65] (q [w 66 10, o (.bin .neq 32 66 (ci 0)) 67] (.cond 67 (q [w 68 0, o (.dG 68) 69, o (.add 6 69) 70, n_ (.store 1 70 (cb yy))] (q [w 71 10, o (.mv (cb nn)) 4, w 5 71] .ret)) .skip))) (.seq (q [w 72 0, o (.dG 72) 73, o (.add 4 73) 74, o (.load nn 1 74) 75, w 76 1, o (.fH 12 75 76) 77, o (.add 0 77) 78, o (.load nn 1 78) 79, o (.bin .neq 3 79 (ci 7)) 80] (.cond 80 (q [o (.mv (cb nn)) 4, o (.mv (ci 0)) 5] .ret) .skip)) (q [w 81 0, o (.dG 81) 82, o (.add 4 82) 83, o (.load nn 1 83) 84, w 85 1, o (.build [zi, zi, zu, zu, zu, zu, zu, zi, zu, zi, .nil, .nil] []) 86, o (.fH 12 84 85) 87, n_ (.store 12 87 86)] (q [o (.mv (cb yy)) 4, o (.mv (ci 0)) 5] .ret))))))))))
theorem Iz : Fits Tryz.prog 14 2 Ad [(.tmp 4), (.tmp 5)] := fk Tryz.func14
theorem IB (F : Nat) (a0 : aW) (a1 : Int) (r : aW × Bool × Int) (h : pU F a0 a1 = some r) : AC Tryz.prog 14 [S.one (.ptr 100900 0), (zi_ a1)] [(904, ⟨true, flat aT a0.cu⟩), (100900, ⟨false, [.ptr 100950 0, vi a0.dB.ak, vi a0.dB.ay, vi a0.dB.aA, .own 100903 0 a0.xw.length (some (12, 101)), .own 904 0 a0.cu.length (some (1, 3)), vb a0.fP]⟩), (100903, ⟨true, flat bU a0.xw⟩), (100950, ⟨false, [.own 100951 0 a0.xm.xl.length (some (18, 115)), vb a0.xm.dD, vi a0.xm.bC, vi a0.xm.bP, sl aT a0.xm.bQ]⟩), (100951, ⟨true, flat aN a0.xm.xl⟩)] (fun x s' => x = S.tup [(zb_ r.2.1), (zi_ r.2.2)] ∧ l9 s' [(904, ⟨true, flat aT r.1.cu⟩), (100900, ⟨false, [.ptr 100950 0, vi r.1.dB.ak, vi r.1.dB.ay, vi r.1.dB.aA, .own 100903 0 r.1.xw.length (some (12, 101)), .own 904 0 r.1.cu.length (some (1, 3)), vb r.1.fP]⟩), (100903, ⟨true, flat bU r.1.xw⟩), (100950, ⟨false, [.own 100951 0 r.1.xm.xl.length (some (18, 115)), vb r.1.xm.dD, vi r.1.xm.bC, vi r.1.xm.bP, sl aT r.1.xm.bQ]⟩), (100951, ⟨true, flat aN r.1.xm.xl⟩)]) := by
 unfold pU at h
 refine lN Iz rfl ?_
 intro C hP
 unfold Ad; dsimp
 apply Eso
 apply WM
 apply WM
 refine Wk [0, 1] [904, 100900, 100903, 100950, 100951] ?_
 (try dsimp)
 apply bG
 apply Eso
 apply WM
 apply WM
 obtain ⟨x1, x1h, h⟩ := aG h
 refine W1 (aO [] false hP (tH F a0 a1 x1 x1h) rfl ⟨rfl, rfl, rfl, rfl, rfl, trivial⟩ rfl rfl rfl rfl rfl (fun h => by first | rfl | cases h) rfl) ?_
 (try dsimp)
 apply WM
 refine Wk [0, 1, 6] [904, 100900, 100903, 100950, 100951] ?_
 (try dsimp)
 apply Eso
 apply WM
 refine WQ qi ?_
 refine Wk [0, 1, 6, 15] [904, 100900, 100903, 100950, 100951] ?_
 (try dsimp)
 refine Ec h rfl (fun h hc2 => ?_) (fun h hc2 => ?_)
 apply Eso
 apply WM
 apply WM
 apply WM
 refine Wk [4, 5] [904, 100900, 100903, 100950, 100951] ?_
 (try dsimp)
 apply bD
 cases h
 (try simp only [qt, qb, qn, qg])
 refine dN (xs := _) ⟨_, rfl, ⟨_, rfl, rfl⟩⟩ ?_
 show _ ∧ _
 exact ⟨rfl, ⟨(by first | rfl | simp [aj, au, ah]), ⟨(by first | rfl | simp [aj, au, ah]), ⟨(by first | rfl | simp [aj, au, ah]), ⟨(by first | rfl | simp [aj, au, ah]), ⟨(by first | rfl | simp [aj, au, ah]), trivial⟩⟩⟩⟩⟩⟩
 apply bf
 refine aX [0, 1] [904, 100900, 100903, 100950, 100951] ?_
 (try dsimp)
 apply bG
 apply Eso
 apply WM
 refine WQ qnc ?_
 refine WQ qap ?_
 refine WQ ql1 ?_
 apply WM
 obtain ⟨g3, h⟩ := aQ h
 refine WQ (qio g3) ?_
 refine WQ qap ?_
 refine WQ (gB (k := 12) rfl rfl (fun _ => rfl) g3 0 (by omega) rfl) ?_
 refine WQ qi ?_
 refine Wk [0, 1, 25] [904, 100900, 100903, 100950, 100951] ?_
 (try dsimp)
 refine Ec h rfl (fun h hc4 => ?_) (fun h hc4 => ?_)
 apply Eso
 apply WM
 apply WM
 refine Wk [4, 5] [904, 100900, 100903, 100950, 100951] ?_
 (try dsimp)
 apply bD
 cases h
 (try simp only [qt, qb, qn, qg])
 refine dN (xs := _) ⟨_, rfl, ⟨_, rfl, rfl⟩⟩ ?_
 show _ ∧ _
 exact ⟨rfl, ⟨(by first | rfl | simp [aj, au, ah]), ⟨(by first | rfl | simp [aj, au, ah]), ⟨(by first | rfl | simp [aj, au, ah]), ⟨(by first | rfl | simp [aj, au, ah]), ⟨(by first | rfl | simp [aj, au, ah]), trivial⟩⟩⟩⟩⟩⟩
 apply bf
 refine aX [0, 1] [904, 100900, 100903, 100950, 100951] ?_
 (try dsimp)
 apply Eso
 apply WM
 apply WM
 refine Wk [0, 1, 7] [904, 100900, 100903, 100950, 100951] ?_
 (try dsimp)
 obtain ⟨k6, k6d, h⟩ := eX h
 refine dJ (fun (i : Int) => ⟨[(0, S.one (.ptr 100900 0)), (1, zi_ a1), (7, zi_ a1), (8, zu_ i)], [(904, ⟨true, flat aT a0.cu⟩), (100900, ⟨false, [.ptr 100950 0, vi a0.dB.ak, vi a0.dB.ay, vi a0.dB.aA, .own 100903 0 a0.xw.length (some (12, 101)), .own 904 0 a0.cu.length (some (1, 3)), vb a0.fP]⟩), (100903, ⟨true, flat bU a0.xw⟩), (100950, ⟨false, [.own 100951 0 a0.xm.xl.length (some (18, 115)), vb a0.xm.dD, vi a0.xm.bC, vi a0.xm.bP, sl aT a0.xm.bQ]⟩), (100951, ⟨true, flat aN a0.xm.xl⟩)]⟩) (fun i => k6 i = some r) (fun i h => ?_) ?_
 let iv := i; change k6 i = some r at h; generalize i = v5 at h ⊢
 rw [k6d] at h; dsimp only at h
 (try dsimp)
 obtain ⟨k8, k8d, h⟩ := eX h
 refine dJ (fun (i : Int) => ⟨[(0, S.one (.ptr 100900 0)), (1, zi_ a1), (7, zi_ i)], [(904, ⟨true, flat aT a0.cu⟩), (100900, ⟨false, [.ptr 100950 0, vi a0.dB.ak, vi a0.dB.ay, vi a0.dB.aA, .own 100903 0 a0.xw.length (some (12, 101)), .own 904 0 a0.cu.length (some (1, 3)), vb a0.fP]⟩), (100903, ⟨true, flat bU a0.xw⟩), (100950, ⟨false, [.own 100951 0 a0.xm.xl.length (some (18, 115)), vb a0.xm.dD, vi a0.xm.bC, vi a0.xm.bP, sl aT a0.xm.bQ]⟩), (100951, ⟨true, flat aN a0.xm.xl⟩)]⟩) (fun i => k8 i = some r) (fun i h => ?_) ?_
 let iv := i; change k8 i = some r at h; generalize i = v7 at h ⊢
 rw [k8d] at h; dsimp only at h
 (try dsimp)
 apply bG
 apply Eso
 apply WM
 apply WM
 obtain ⟨x9, x9h, h⟩ := aG h
 refine W1 (aO [] false hP (Iy F a0 v7 x9 x9h) rfl ⟨rfl, rfl, rfl, rfl, rfl, trivial⟩ rfl rfl rfl rfl rfl (fun h => by first | rfl | cases h) rfl) ?_
 (try dsimp)
 apply WM
 refine Wk [0, 1, 10] [904, 100900, 100903, 100950, 100951] ?_
 (try dsimp)
 apply Eso
 apply WM
 refine WQ qi ?_
 refine Wk [0, 1, 10, 67] [904, 100900, 100903, 100950, 100951] ?_
 (try dsimp)
 refine Ec h rfl (fun h QA => ?_) (fun h QA => ?_)
 apply Eso
 apply WM
 refine WQ qnc ?_
 refine WQ qap ?_
 refine W1 dst ?_
 refine Wk [10] [904, 100900, 100903, 100950, 100951] ?_
 (try dsimp)
 apply Eso
 apply WM
 apply WM
 apply WM
 refine Wk [4, 5] [904, 100900, 100903, 100950, 100951] ?_
 (try dsimp)
 apply bD
 cases h
 (try simp only [qt, qb, qn, qg])
 refine dN (xs := _) ⟨_, rfl, ⟨_, rfl, rfl⟩⟩ ?_
 show _ ∧ _
 exact ⟨rfl, ⟨(by first | rfl | simp [aj, au, ah]), ⟨(by first | rfl | simp [aj, au, ah]), ⟨(by first | rfl | simp [aj, au, ah]), ⟨(by first | rfl | simp [aj, au, ah]), ⟨(by first | rfl | simp [aj, au, ah]), trivial⟩⟩⟩⟩⟩⟩
 apply bf
 refine aX [0, 1] [904, 100900, 100903, 100950, 100951] ?_
 (try dsimp)
 apply bG
 apply Eso
 apply WM
 refine WQ qnc ?_
 refine WQ qap ?_
 refine WQ ql1 ?_
 apply WM
 obtain ⟨g11, h⟩ := aQ h
 refine WQ (qio g11) ?_
 refine WQ qap ?_
 refine WQ (gB (k := 12) rfl rfl (fun _ => rfl) g11 0 (by omega) rfl) ?_
 refine WQ qi ?_
 refine Wk [0, 1, 80] [904, 100900, 100903, 100950, 100951] ?_
 (try dsimp)
 refine Ec h rfl (fun h hc12 => ?_) (fun h hc12 => ?_)
 apply Eso
 apply WM
 apply WM
 refine Wk [4, 5] [904, 100900, 100903, 100950, 100951] ?_
 (try dsimp)
 apply bD
 cases h
 (try simp only [qt, qb, qn, qg])
 refine dN (xs := _) ⟨_, rfl, ⟨_, rfl, rfl⟩⟩ ?_
 show _ ∧ _
 exact ⟨rfl, ⟨(by first | rfl | simp [aj, au, ah]), ⟨(by first | rfl | simp [aj, au, ah]), ⟨(by first | rfl | simp [aj, au, ah]), ⟨(by first | rfl | simp [aj, au, ah]), ⟨(by first | rfl | simp [aj, au, ah]), trivial⟩⟩⟩⟩⟩⟩
 apply bf
 refine aX [0, 1] [904, 100900, 100903, 100950, 100951] ?_
 (try dsimp)
 apply Eso
 apply WM
 refine WQ qnc ?_
 refine WQ qap ?_
 refine WQ ql1 ?_
 apply WM
 refine WQ qbu ?_
 obtain ⟨g13, h⟩ := aQ h
 refine WQ (qio g13) ?_
 refine W1 (Does.ghost (Ee (i := 86) rfl).b (dI (e := bU) (n := 12) (k := 12) rfl rfl (fun _ => rfl) g13 0 (by omega) rfl rfl rfl (by decide) (⟨(0 : Int), (⟨(0 : Int), (0 : Int), (⟨(0 : Int), (0 : Int), (0 : Int), (0 : Int)⟩ : V4 Int), (⟨(0 : Int), (0 : Int), (0 : Int)⟩ : dP), ([] : (List aB))⟩ : aV), ([] : (List bI))⟩ : aY) rfl (by decide) rfl)) ?_
 refine Wk [] [904, 100900, 100903, 100950, 100951] ?_
 (try dsimp)
 apply Eso
 apply WM
 apply WM
 apply bW
 (try dsimp)
 refine dR (fK (r := 100900) rfl (by simp [aj, au, ah] : ⟨false, [.ptr 100950 0, vi x9.1.dB.ak, vi x9.1.dB.ay, vi x9.1.dB.aA, .own 100903 0 x9.1.xw.length (some (12, 101)), .own 904 0 x9.1.cu.length (some (1, 3)), vb x9.1.fP]⟩ = (⟨false, [.ptr 100950 0, vi x9.1.dB.ak, vi x9.1.dB.ay, vi x9.1.dB.aA, .own 100903 0 (dZ x9.1.xw a1 (⟨(0 : Int), (⟨(0 : Int), (0 : Int), (⟨(0 : Int), (0 : Int), (0 : Int), (0 : Int)⟩ : V4 Int), (⟨(0 : Int), (0 : Int), (0 : Int)⟩ : dP), ([] : (List aB))⟩ : aV), ([] : (List bI))⟩ : aY)).length (some (12, 101)), .own 904 0 x9.1.cu.length (some (1, 3)), vb x9.1.fP]⟩ : Reg))).b ?_
 (try dsimp)
 apply bD
 cases h
 (try simp only [qt, qb, qn, qg])
 refine dN (xs := _) ⟨_, rfl, ⟨_, rfl, rfl⟩⟩ ?_
 show _ ∧ _
 exact ⟨rfl, ⟨(by first | rfl | simp [aj, au, ah]), ⟨(by first | rfl | simp [aj, au, ah]), ⟨(by first | rfl | simp [aj, au, ah]), ⟨(by first | rfl | simp [aj, au, ah]), ⟨(by first | rfl | simp [aj, au, ah]), trivial⟩⟩⟩⟩⟩⟩
 apply Eso
 apply WM
 refine WQ qnc ?_
 refine WQ qap ?_
 refine WQ ql1 ?_
 apply WM
 obtain ⟨g14, h⟩ := aQ h
 refine WQ (qio g14) ?_
 refine WQ qap ?_
 refine WQ (gB (k := 12) rfl rfl (fun _ => rfl) g14 0 (by omega) rfl) ?_
 refine WQ qi ?_
 apply WM
 apply aF
 rfl
 intro b
 try rw [b]
 exact qm
 apply aF
 rfl
 intro b
 try rw [b]
 exact qi
 refine WQ qan ?_
 apply WM
 apply aF
 rfl
 intro b
 try rw [b]
 exact qm
 apply aF
 rfl
 intro b
 try rw [b]
 exact qm
 apply aF
 rfl
 intro b
 try rw [b]
 exact qcv
 apply aF
 rfl
 intro b
 try rw [b]
 exact qi
 apply aF
 rfl
 intro b
 try rw [b]
 exact qi
 refine WQ qan ?_
 refine Wk [0, 1, 7, 8, 59] [904, 100900, 100903, 100950, 100951] ?_
 (try dsimp)
 refine Ec h rfl (fun h UO => ?_) (fun h UO => ?_)
 apply dO
 apply WM
 refine WQ qcv ?_
 obtain ⟨g16, h⟩ := aQ h
 refine WQ (qsu g16) ?_
 apply WM
 apply bW
 refine ⟨((IntKind.i64.wrap v5) - (1 : Int)), h, ?_⟩
 exact LB
 apply bf
 refine ⟨a1, h, ?_⟩
 exact LB
 obtain ⟨x17, JL, h⟩ := aG h
 obtain ⟨x18, aeX, h⟩ := aG h
 refine ig [0, 1, 2, 3, 4, 5, 6, 7] ?_
 refine XQ 0 rfl rfl rfl qm ?_
 refine XQ 1 rfl rfl rfl qnc ?_
 refine XQ 2 rfl rfl rfl qap ?_
 refine XQ 3 rfl rfl rfl ql1 ?_
 refine XQ 4 rfl rfl rfl qm ?_
 refine XQ 5 rfl rfl rfl qnc ?_
 refine XQ 6 rfl rfl rfl qap ?_
 refine XQ 7 rfl rfl rfl qlA ?_
 (try dsimp)
 refine X1 rfl (XK rfl (dc1 hP (AP F a0.dB x17 JL)) ?_)
 refine X1 rfl (XT rfl rfl (aO [(100900, 100950), (100901, 100951)] false hP (rP F a0.xm x17 x18 aeX) rfl ⟨rfl, rfl, trivial⟩ rfl rfl rfl rfl rfl (fun h => by first | rfl | cases h) rfl) ?_)
 refine X1 rfl (XT rfl rfl ((qm).does) ?_)
 refine X2 rfl ?_ ?_
 refine XT rfl rfl ((qx).does) ?_
 refine X2 rfl ?_ ?_
 refine XT rfl rfl ((qx).does) ?_
 refine X1 rfl (XT rfl rfl ((qm).does) ?_)
 refine X1 rfl (XT rfl rfl ((qm).does) ?_)
 refine dL rfl ?_
 refine ⟨x18.1, h, ?_⟩
 exact LB
 refine XT rfl rfl ((qm).does) ?_
 refine X1 rfl (XT rfl rfl ((qx).does) ?_)
 refine X1 rfl (XT rfl rfl ((qm).does) ?_)
 refine dL rfl ?_
 refine ⟨x18.1, h, ?_⟩
 exact LB
 refine XT rfl rfl ((qx).does) ?_
 refine X1 rfl (XT rfl rfl ((qx).does) ?_)
 refine X1 rfl (XT rfl rfl ((qm).does) ?_)
 refine X1 rfl (XT rfl rfl ((qm).does) ?_)
 refine dL rfl ?_
 refine ⟨x18.1, h, ?_⟩
 exact LB
def Ht : cO := (.ops [w 2 0, o (.dG 2) 3, o (.add 1 3) 4, n_ (.store 1 4 (cb nn))])
theorem QL : Fits Tryz.prog 33 1 Ht [] := fk Tryz.func33
theorem QM (F : Nat) (a0 : aC) (r : aC) (h : xq F a0 = some r) : AC Tryz.prog 33 [S.one (.ptr 100900 0)] [(100900, ⟨false, [.own 100901 0 a0.xl.length (some (18, 115)), vb a0.dD, vi a0.bC, vi a0.bP, sl aT a0.bQ]⟩), (100901, ⟨true, flat aN a0.xl⟩)] (fun x s' => x = S.tup [] ∧ l9 s' [(100900, ⟨false, [.own 100901 0 r.xl.length (some (18, 115)), vb r.dD, vi r.bC, vi r.bP, sl aT r.bQ]⟩), (100901, ⟨true, flat aN r.xl⟩)]) := by
 unfold xq at h
 refine lN QL rfl ?_
 intro C hP
 unfold Ht; dsimp
 apply dO
 apply WM
 refine WQ qnc ?_
 refine WQ qap ?_
 refine W1 dst ?_
 apply bW
 cases h
 (try simp only [qt, qb, qn, qg])
 refine QG (xs := _) rfl ?_
 show _ ∧ _
 exact ⟨rfl, ⟨(by first | rfl | simp [aj, au, ah]), ⟨(by first | rfl | simp [aj, au, ah]), trivial⟩⟩⟩
def Ae : cO := (q [o (.jm [zi, zu, zu, zu, zu, zu, zi, zu, zi, .nil]) 4, o (.mv (ci 0)) 5] (.seq (q [w 9 0, w 10 1, o (.call 43 [9, 10]) 11, w 6 11] (q [w 12 6, o (.bin .neq 32 12 (ci 0)) 13] (.cond 13 (q [o (.build [zi, zu, zu, zu, zu, zu, zi, zu, zi, .nil] []) 14, w 15 6, n_ (.store 10 4 14), w 5 15] .ret) .skip))) (q [w 17 0, w 18 0, o (.dG 18) 19, o (.add 0 19) 20, o (.load nn 1 20) 21, o (.call 18 [21]) 22, w 23 1, o (.call 49 [17, 22, 23]) 24, w 16 24, o (.ext 0 16) 25, o (.ext 1 16) 26, o (.jm [zi, zu, zu, zu, zu, zu, zi, zu, zi, .nil]) 7, n_ (.store 10 7 25), w 8 26] (.seq (q [w 27 8, o (.un .not 27) 28] (.cond 28 (q [o (.build [zi, zu, zu, zu, zu, zu, zi, zu, zi, .nil] []) 29, n_ (.store 10 4 29), o (.mv (ci 2)) 5] .ret) .skip)) (q [o (.load yy 10 7) 30, n_ (.store 10 4 30), o (.mv (ci 0)) 5] .ret)))))
theorem IC : Fits Tryz.prog 16 2 Ae [(.cell true 10 4), (.tmp 5)] := fk Tryz.func16
theorem IE (F : Nat) (a0 : aW) (a1 : Int) (r : aV × Int) (h : pW F a0 a1 = some r) : AC Tryz.prog 16 [S.one (.ptr 100900 0), (zi_ a1)] [(904, ⟨true, flat aT a0.cu⟩), (100900, ⟨false, [.ptr 100950 0, vi a0.dB.ak, vi a0.dB.ay, vi a0.dB.aA, .own 100903 0 a0.xw.length (some (12, 101)), .own 904 0 a0.cu.length (some (1, 3)), vb a0.fP]⟩), (100903, ⟨true, flat bU a0.xw⟩), (100950, ⟨false, [.own 100951 0 a0.xm.xl.length (some (18, 115)), vb a0.xm.dD, vi a0.xm.bC, vi a0.xm.bP, sl aT a0.xm.bQ]⟩), (100951, ⟨true, flat aN a0.xm.xl⟩)] (fun x s' => x = S.tup [S.agg [vi r.1.bK, vu r.1.jD, vu r.1.xL.c0, vu r.1.xL.c1, vu r.1.xL.c2, vu r.1.xL.c3, vi r.1.bJ.kP, vu r.1.bJ.xW, vi r.1.bJ.xN, sl bM r.1.xW], (zi_ r.2)] ∧ l9 s' [(904, ⟨true, flat aT a0.cu⟩), (100900, ⟨false, [.ptr 100950 0, vi a0.dB.ak, vi a0.dB.ay, vi a0.dB.aA, .own 100903 0 a0.xw.length (some (12, 101)), .own 904 0 a0.cu.length (some (1, 3)), vb a0.fP]⟩), (100903, ⟨true, flat bU a0.xw⟩), (100950, ⟨false, [.own 100951 0 a0.xm.xl.length (some (18, 115)), vb a0.xm.dD, vi a0.xm.bC, vi a0.xm.bP, sl aT a0.xm.bQ]⟩), (100951, ⟨true, flat aN a0.xm.xl⟩)]) := by
 unfold pW at h
 refine lN IC rfl ?_
 intro C hP
 unfold Ae; dsimp
 apply Eso
 refine W1 dnv ?_
 apply WM
 refine Wk [0, 1, 4] [4, 904, 100900, 100903, 100950, 100951] ?_
 (try dsimp)
 apply bG
 apply Eso
 apply WM
 apply WM
 obtain ⟨x1, x1h, h⟩ := aG h
 refine W1 (aO [] false hP (tH F a0 a1 x1 x1h) rfl ⟨rfl, rfl, rfl, rfl, rfl, trivial⟩ rfl rfl rfl rfl rfl (fun h => by first | rfl | cases h) rfl) ?_
 (try dsimp)
 apply WM
 refine Wk [0, 1, 4, 6] [4, 904, 100900, 100903, 100950, 100951] ?_
 (try dsimp)
 apply Eso
 apply WM
 refine WQ qi ?_
 refine Wk [0, 1, 4, 6, 13] [4, 904, 100900, 100903, 100950, 100951] ?_
 (try dsimp)
 refine Ec h rfl (fun h hc2 => ?_) (fun h hc2 => ?_)
 apply Eso
 refine WQ qbu ?_
 apply WM
 refine W1 dst ?_
 apply WM
 refine Wk [4, 5] [4, 904, 100900, 100903, 100950, 100951] ?_
 (try dsimp)
 refine dR (ni (q := 4) rfl).b ?_
 (try dsimp)
 apply bD
 cases h
 (try simp only [qt, qb, qn, qg])
 refine dN (xs := _) ⟨_, _, uQ rfl (by simp), rfl, rfl, ⟨_, rfl, rfl⟩⟩ ?_
 show _ ∧ _
 exact ⟨rfl, ⟨(by first | rfl | simp [aj, au, ah]), ⟨(by first | rfl | simp [aj, au, ah]), ⟨(by first | rfl | simp [aj, au, ah]), ⟨(by first | rfl | simp [aj, au, ah]), ⟨(by first | rfl | simp [aj, au, ah]), trivial⟩⟩⟩⟩⟩⟩
 apply bf
 refine aX [0, 1, 4] [4, 904, 100900, 100903, 100950, 100951] ?_
 (try dsimp)
 apply Eso
 apply WM
 apply WM
 refine WQ qnc ?_
 refine WQ qap ?_
 refine WQ ql1 ?_
 obtain ⟨x3, x3h, h⟩ := aG h
 refine W1 (aO [(100900, 100950), (100901, 100951)] false hP (qO F a0.xm x3 x3h) rfl ⟨rfl, rfl, trivial⟩ rfl rfl rfl rfl rfl (fun h => by first | rfl | cases h) rfl) ?_
 (try dsimp)
 apply WM
 obtain ⟨x4, x4h, h⟩ := aG h
 refine W1 (aO [] false hP (zX F a0 x3 a1 x4 x4h) rfl ⟨rfl, rfl, rfl, rfl, rfl, trivial⟩ rfl rfl rfl rfl rfl (fun h => by first | rfl | cases h) rfl) ?_
 (try dsimp)
 apply WM
 refine WQ qx ?_
 refine WQ qx ?_
 refine W1 dnv ?_
 refine W1 dst ?_
 apply WM
 refine Wk [4, 7, 8] [4, 7, 904, 100900, 100903, 100950, 100951] ?_
 (try dsimp)
 apply bG
 apply Eso
 apply WM
 refine WQ qno ?_
 refine Wk [4, 7, 28] [4, 7, 904, 100900, 100903, 100950, 100951] ?_
 (try dsimp)
 refine Ec h rfl (fun h hc5 => ?_) (fun h hc5 => ?_)
 apply Eso
 refine WQ qbu ?_
 refine W1 dst ?_
 apply WM
 refine Wk [4, 5] [4, 904, 100900, 100903, 100950, 100951] ?_
 (try dsimp)
 refine dR (ni (q := 4) rfl).b ?_
 (try dsimp)
 apply bD
 cases h
 (try simp only [qt, qb, qn, qg])
 refine dN (xs := _) ⟨_, _, uQ rfl (by simp), rfl, rfl, ⟨_, rfl, rfl⟩⟩ ?_
 show _ ∧ _
 exact ⟨rfl, ⟨(by first | rfl | simp [aj, au, ah]), ⟨(by first | rfl | simp [aj, au, ah]), ⟨(by first | rfl | simp [aj, au, ah]), ⟨(by first | rfl | simp [aj, au, ah]), ⟨(by first | rfl | simp [aj, au, ah]), trivial⟩⟩⟩⟩⟩⟩
 apply bf
 refine aX [4, 7] [4, 7, 904, 100900, 100903, 100950, 100951] ?_
 (try dsimp)
 apply Eso
 refine WQ qlA ?_
 refine W1 dst ?_
 apply WM
 refine Wk [4, 5] [4, 904, 100900, 100903, 100950, 100951] ?_
 (try dsimp)
 apply bD
 cases h
 (try simp only [qt, qb, qn, qg])
 refine dN (xs := _) ⟨_, _, uQ rfl (by simp), rfl, rfl, ⟨_, rfl, rfl⟩⟩ ?_
 show _ ∧ _
 exact ⟨rfl, ⟨(by first | rfl | simp [aj, au, ah]), ⟨(by first | rfl | simp [aj, au, ah]), ⟨(by first | rfl | simp [aj, au, ah]), ⟨(by first | rfl | simp [aj, au, ah]), ⟨(by first | rfl | simp [aj, au, ah]), trivial⟩⟩⟩⟩⟩⟩
def y8 : cO := (q [o (.mv cn) 2] (q [o (.mv cn) 3] (.seq (q [o (.mv (ci 0)) 4] (.block 0 (.loop (.seq (q [w 5 4, w 6 0, o (.len nn 6) 7, o (.bin .lss 3 5 7) 8] (.cond 8 .skip (.exit 0))) (.seq (.block 1 (.draw [((w 11 3), []), ((w 12 0), []), ((w 13 4), []), ((o (.fH 2 12 13) 14), [1, 2]), ((o (.add 0 14) 15), [3]), ((o (.load nn 1 15) 16), [4]), ((w 17 0), []), ((w 18 4), []), ((o (.fH 2 17 18) 19), [6, 7]), ((o (.add 1 19) 20), [8]), ((o (.load nn 1 20) 21), [9]), ((o (.build [zi, zu] [(0, (1, 16)), (1, (1, 21))]) 22), [5, 10]), ((o (.iW 2 141 1 [zi, zu] [(0, (2, 22))]) 23), [11]), ((o (.app 82 141 2 16 11 23) 24), [0, 12]), ((w 3 24), [13, 13, 0, 1, 2, 3, 4, 5, 6, 7, 8, 9, 10, 11, 12, 13])])) (.ops [w 9 4, o (.bin .add 3 9 (ci 1)) 10, w 4 10])))))) (q [w 25 3, w 2 25] .ret))))
theorem Hu : Fits Tryz.prog 69 1 y8 [(.tmp 2)] := fk Tryz.func69
theorem Hw (F : Nat) (a0 : (List aB)) (r : (List dM)) (h : uN F a0 = some r) : PC Tryz.prog 69 [ss bM a0] (ss iL r) := by
 unfold uN at h
 refine eu Hu rfl rfl ?_
 intro C hP
 unfold y8; dsimp
 apply Eso
 apply WM
 refine Wk [0] [] ?_
 apply Eso
 apply WM
 apply bW
 obtain ⟨k2, k2d, h⟩ := eX h
 refine dJ (fun (i : (List dM)) => ⟨[(3, S.one (.own 1024 0 i.length (some (2, 141))))], [(1024, ⟨true, flat iL i⟩)]⟩) (fun i => k2 i = some r) (fun i h => ?_) ?_
 let iv := i; change k2 i = some r at h; generalize i = v1 at h ⊢
 rw [k2d] at h; dsimp only at h
 apply Eso
 apply WM
 apply WM
 refine Wk [2] [1024] ?_
 refine dR (kY (r := 1024) rfl rfl).b ?_
 apply bD
 cases h
 exact fe
 apply Eso
 apply WM
 apply bW
 apply bT
 refine eG (fun (i : Int × (List dM)) => ⟨[(0, ss bM a0), (3, S.one (.own 1024 0 i.2.length (some (2, 141)))), (4, zi_ i.1)], [(1024, ⟨true, flat iL i.2⟩)]⟩) (fun n i => oM F a0 k2 n i.1 i.2 = some r) F ((0 : Int), ([] : List dM)) h ?_ (fun n i h => ?_)
 refine fM (nT (i := 3) (r := 1024) 2 141 rfl rfl) ?_
 exact LB
 obtain ⟨v15, v16⟩ := i; dsimp only at h
 obtain _ | n17 := n
 cases h
 unfold oM at h
 apply bG
 apply Eso
 apply WM
 apply WM
 refine WQ qls ?_
 refine WQ qi ?_
 refine Wk [0, 3, 4, 8] [1024] ?_
 refine Ec h rfl (fun h hc18 => ?_) (fun h hc18 => ?_)
 apply bf
 refine aX [0, 3, 4] [1024] ?_
 apply bG
 apply bT
 obtain ⟨g19, h⟩ := aQ h
 obtain ⟨g20, h⟩ := aQ h
 obtain ⟨g21, h⟩ := aQ h
 refine ig [0, 1, 2, 3, 4, 5, 6, 7, 8, 9, 10, 11] ?_
 refine XQ 0 rfl rfl rfl qm ?_
 refine XQ 1 rfl rfl rfl qm ?_
 refine XQ 2 rfl rfl rfl qm ?_
 refine XQ 3 rfl rfl rfl (qis g19) ?_
 refine XQ 4 rfl rfl rfl (sJ rfl) ?_
 refine XQ 5 rfl rfl rfl (q1F 2 g19 0) ?_
 refine XQ 6 rfl rfl rfl qm ?_
 refine XQ 7 rfl rfl rfl qm ?_
 refine XQ 8 rfl rfl rfl (qis g20) ?_
 refine XQ 9 rfl rfl rfl (sJ rfl) ?_
 refine XQ 10 rfl rfl rfl (q1F 2 g20 1) ?_
 refine XQ 11 rfl rfl rfl qbu ?_
 refine X1 rfl (XK rfl dbs ?_)
 refine X1 rfl (XT rfl rfl (dY (e := iL) rfl rfl (fun _ => rfl) (fun _ => rfl) rfl (Src.lit (e := iL) ([(⟨(nth a0 v15).xAt, (nth a0 v15).xV⟩ : dM)] : List dM) rfl (fun _ => rfl) rfl rfl) g21 rfl) ?_)
 refine X1 rfl (XT rfl rfl ((qm).does) ?_)
 refine dL rfl ?_
 refine aX [0, 3, 4] [1024] ?_
 apply dO
 apply WM
 obtain ⟨g22, h⟩ := aQ h
 refine WQ (qad g22) ?_
 apply WM
 apply bW
 refine ⟨n17, ((v15 + (1 : Int)), (v16 ++ ([(⟨(nth a0 v15).xAt, (nth a0 v15).xV⟩ : dM)] : List dM))), Nat.lt_succ_self _, h, ?_⟩
 exact LB
 apply gy
 refine ⟨v16, h, ?_⟩
 exact LB
def wX : cO := (q [o (.box 44 0) 1, o (.jm [zi, zu, zu, zu, zu, zu, zi, zu, zi, .nil]) 2] (.seq (.draw [((o (.add 0 1) 3), []), ((o (.load nn 1 3) 4), [0]), ((o (.add 1 1) 5), []), ((o (.load nn 1 5) 6), [2]), ((o (.add 2 1) 7), []), ((o (.load yy 4 7) 8), [4]), ((o (.add 6 1) 9), []), ((o (.add 0 9) 10), [6]), ((o (.load nn 1 10) 11), [7]), ((o (.add 6 1) 12), []), ((o (.add 1 12) 13), [9]), ((o (.load nn 1 13) 14), [10]), ((o (.add 6 1) 15), []), ((o (.add 2 15) 16), [12]), ((o (.load nn 1 16) 17), [13]), ((o (.build [zi, zu, zi] [(0, (1, 11)), (1, (1, 14)), (2, (1, 17))]) 18), [8, 11, 14]), ((o (.add 9 1) 19), []), ((o (.load nn 1 19) 20), [16]), ((o (.call 69 [20]) 21), [17]), ((o (.build [zi, zu, zu, zu, zu, zu, zi, zu, zi, .nil] [(0, (1, 4)), (1, (1, 6)), (2, (4, 8)), (6, (3, 18)), (9, (1, 21))]) 22), [1, 3, 5, 15, 18]), ((n_ (.store 10 2 22)), [19, 18, 0, 1, 2, 3, 4, 5, 6, 7, 8, 9, 10, 11, 12, 13, 14, 15, 16, 17, 18, 19])]) .ret))
theorem EC : Fits Tryz.prog 35 1 wX [(.cell true 10 2)] := fk Tryz.func35
theorem pz (F : Nat) (a0 : aV) (r : jL) (h : kF F a0 = some r) : PC Tryz.prog 35 [S.agg [vi a0.bK, vu a0.jD, vu a0.xL.c0, vu a0.xL.c1, vu a0.xL.c2, vu a0.xL.c3, vi a0.bJ.kP, vu a0.bJ.xW, vi a0.bJ.xN, sl bM a0.xW]] (S.agg [vi r.bK, vu r.jD, vu r.xL.c0, vu r.xL.c1, vu r.xL.c2, vu r.xL.c3, vi r.bJ.kP, vu r.bJ.xW, vi r.bJ.xN, sl iL r.xW]) := by
 unfold kF at h
 refine eu EC rfl rfl ?_
 intro C hP
 unfold wX; dsimp
 apply Eso
 refine W1 dbx ?_
 refine W1 dnv ?_
 refine Wk [1, 2] [1, 2] ?_
 apply bG
 obtain ⟨x1, x1h, h⟩ := aG h
 refine ig [0, 1, 2, 3, 4, 5, 6, 7, 8, 9, 10, 11, 12, 13, 14, 15, 16, 17, 19] ?_
 refine XQ 0 rfl rfl rfl qap ?_
 refine XQ 1 rfl rfl rfl ql1 ?_
 refine XQ 2 rfl rfl rfl qap ?_
 refine XQ 3 rfl rfl rfl ql1 ?_
 refine XQ 4 rfl rfl rfl qap ?_
 refine XQ 5 rfl rfl rfl qlA ?_
 refine XQ 6 rfl rfl rfl qap ?_
 refine XQ 7 rfl rfl rfl qap ?_
 refine XQ 8 rfl rfl rfl ql1 ?_
 refine XQ 9 rfl rfl rfl qap ?_
 refine XQ 10 rfl rfl rfl qap ?_
 refine XQ 11 rfl rfl rfl ql1 ?_
 refine XQ 12 rfl rfl rfl qap ?_
 refine XQ 13 rfl rfl rfl qap ?_
 refine XQ 14 rfl rfl rfl ql1 ?_
 refine XQ 15 rfl rfl rfl qbu ?_
 refine XQ 16 rfl rfl rfl qap ?_
 refine XQ 17 rfl rfl rfl ql1 ?_
 refine X1 rfl (XK rfl (dc1 hP (Hw F a0.xW x1 x1h)) ?_)
 refine XQ 19 rfl rfl rfl qbu ?_
 refine X1 rfl (XT rfl rfl dst ?_)
 refine dL rfl ?_
 refine aX [2] [2] ?_
 apply bD
 cases h
 exact fe
def yE : cO := (q [o (.box 84 0) 2, o (.box 84 1) 3, o (.mv (cb nn)) 4] (.seq (q [o (.add 0 2) 6, o (.load nn 1 6) 7, o (.add 0 3) 8, o (.load nn 1 8) 9, o (.bin .neq 3 7 9) 10, w 11 10, g_ (.add 1 2) 12 11 nn, g_ (.load nn 1 12) 13 11 nn, g_ (.add 1 3) 14 11 nn, g_ (.load nn 1 14) 15 11 nn, g_ (.bin .neq 22 13 15) 16 11 nn, o (.pick 11 (cb yy) 16) 17, w 18 17, g_ (.add 2 2) 19 18 nn, g_ (.load yy 4 19) 20 18 nn, g_ (.add 2 3) 21 18 nn, g_ (.load yy 4 21) 22 18 nn, g_ (.eqA yy 23 20 22) 23 18 nn, o (.pick 18 (cb yy) 23) 24, w 25 24, g_ (.add 6 2) 26 25 nn, g_ (.load yy 3 26) 27 25 nn, g_ (.add 6 3) 28 25 nn, g_ (.load yy 3 28) 29 25 nn, g_ (.eqA yy 81 27 29) 30 25 nn, o (.pick 25 (cb yy) 30) 31, w 32 31, g_ (.add 9 2) 33 32 nn, g_ (.load nn 1 33) 34 32 nn, g_ (.len nn 34) 35 32 nn, g_ (.add 9 3) 36 32 nn, g_ (.load nn 1 36) 37 32 nn, g_ (.len nn 37) 38 32 nn, g_ (.bin .neq 3 35 38) 39 32 nn, o (.pick 32 (cb yy) 39) 40] (.cond 40 (q [o (.mv (cb nn)) 4] .ret) .skip)) (.seq (q [o (.mv (ci 0)) 5] (.block 0 (.loop (.seq (q [w 41 5, o (.add 9 2) 42, o (.load nn 1 42) 43, o (.len nn 43) 44, o (.bin .lss 3 41 44) 45] (.cond 45 .skip (.exit 0))) (.seq (.block 1 (.seq (.draw [((o (.add 9 2) 48), []), ((o (.load nn 1 48) 49), [0]), ((w 50 5), []), ((o (.fH 2 49 50) 51), [1, 2]), ((o (.load yy 2 51) 52), [3]), ((o (.add 9 3) 53), []), ((o (.load nn 1 53) 54), [5]), ((w 55 5), []), ((o (.fH 2 54 55) 56), [6, 7]), ((o (.load yy 2 56) 57), [8]), ((o (.eqA yy 141 52 57) 58), [4, 9])]) (.cond 58 (q [o (.mv (cb nn)) 4] .ret) .skip))) (.ops [w 46 5, o (.bin .add 3 46 (ci 1)) 47, w 5 47])))))) (q [o (.mv (cb yy)) 4] .ret))))
theorem FV : Fits Tryz.prog 34 2 yE [(.tmp 4)] := fk Tryz.func34
theorem yF (F : Nat) (a0 : jL) (a1 : jL) (r : Bool) (h : nP F a0 a1 = some r) : PC Tryz.prog 34 [S.agg [vi a0.bK, vu a0.jD, vu a0.xL.c0, vu a0.xL.c1, vu a0.xL.c2, vu a0.xL.c3, vi a0.bJ.kP, vu a0.bJ.xW, vi a0.bJ.xN, sl iL a0.xW], S.agg [vi a1.bK, vu a1.jD, vu a1.xL.c0, vu a1.xL.c1, vu a1.xL.c2, vu a1.xL.c3, vi a1.bJ.kP, vu a1.bJ.xW, vi a1.bJ.xN, sl iL a1.xW]] (zb_ r) := by
 unfold nP at h
 refine eu FV rfl rfl ?_
 intro C hP
 unfold yE; dsimp
 apply Eso
 refine W1 dbx ?_
 refine W1 dbx ?_
 apply WM
 refine Wk [2, 3] [2, 3] ?_
 (try dsimp)
 apply bG
 apply Eso
 refine WQ qap ?_
 refine WQ ql1 ?_
 refine WQ qap ?_
 refine WQ ql1 ?_
 refine WQ qi ?_
 apply WM
 apply aF
 rfl
 intro b
 try rw [b]
 exact qap
 apply aF
 rfl
 intro b
 try rw [b]
 exact ql1
 apply aF
 rfl
 intro b
 try rw [b]
 exact qap
 apply aF
 rfl
 intro b
 try rw [b]
 exact ql1
 apply aF
 rfl
 intro b
 try rw [b]
 exact qi
 refine WQ qor ?_
 apply WM
 apply aF
 rfl
 intro b
 try rw [b]
 exact qap
 apply aF
 rfl
 intro b
 try rw [b]
 exact qlA
 apply aF
 rfl
 intro b
 try rw [b]
 exact qap
 apply aF
 rfl
 intro b
 try rw [b]
 exact qlA
 apply aF
 rfl
 intro b
 try rw [b]
 exact rJ hP Y1 rfl rfl rfl rfl ⟨rfl, ⟨rfl, ⟨rfl, ⟨rfl, trivial⟩⟩⟩⟩
 refine WQ qor ?_
 apply WM
 apply aF
 rfl
 intro b
 try rw [b]
 exact qap
 apply aF
 rfl
 intro b
 try rw [b]
 exact qlA
 apply aF
 rfl
 intro b
 try rw [b]
 exact qap
 apply aF
 rfl
 intro b
 try rw [b]
 exact qlA
 apply aF
 rfl
 intro b
 try rw [b]
 exact rJ hP abE rfl rfl rfl rfl ⟨rfl, ⟨rfl, ⟨rfl, trivial⟩⟩⟩
 refine WQ qor ?_
 apply WM
 apply aF
 rfl
 intro b
 try rw [b]
 exact qap
 apply aF
 rfl
 intro b
 try rw [b]
 exact ql1
 apply aF
 rfl
 intro b
 try rw [b]
 exact qls
 apply aF
 rfl
 intro b
 try rw [b]
 exact qap
 apply aF
 rfl
 intro b
 try rw [b]
 exact ql1
 apply aF
 rfl
 intro b
 try rw [b]
 exact qls
 apply aF
 rfl
 intro b
 try rw [b]
 exact qi
 refine WQ qor ?_
 refine Wk [2, 3, 40] [2, 3] ?_
 (try dsimp)
 refine Ec h rfl (fun h hc1 => ?_) (fun h hc1 => ?_)
 apply Eso
 apply WM
 refine Wk [4] [] ?_
 (try dsimp)
 apply bD
 cases h
 exact fe
 apply bf
 refine aX [2, 3] [2, 3] ?_
 (try dsimp)
 obtain ⟨k2, k2d, h⟩ := eX h
 refine dJ (fun (i : Unit) => ⟨[], []⟩) (fun i => k2 () = some r) (fun i h => ?_) ?_
 rw [k2d] at h; dsimp only at h
 (try dsimp)
 apply Eso
 apply WM
 apply bW
 (try dsimp)
 apply bD
 cases h
 exact fe
 apply Eso
 apply WM
 apply bW
 (try dsimp)
 apply bT
 (try dsimp)
 refine eG (fun (i : Int) => ⟨[(2, S.one (.ptr 2 0)), (3, S.one (.ptr 3 0)), (5, zi_ i)], [(2, ⟨true, [vi a0.bK, vu a0.jD, vu a0.xL.c0, vu a0.xL.c1, vu a0.xL.c2, vu a0.xL.c3, vi a0.bJ.kP, vu a0.bJ.xW, vi a0.bJ.xN, sl iL a0.xW]⟩), (3, ⟨true, [vi a1.bK, vu a1.jD, vu a1.xL.c0, vu a1.xL.c1, vu a1.xL.c2, vu a1.xL.c3, vi a1.bJ.kP, vu a1.bJ.xW, vi a1.bJ.xN, sl iL a1.xW]⟩)]⟩) (fun n i => oq F a0 a1 k2 n i = some r) F (0 : Int) h ?_ (fun n i h => ?_)
 exact LB
 generalize i = v14 at h ⊢
 obtain _ | n15 := n
 cases h
 unfold oq at h
 (try dsimp)
 apply bG
 apply Eso
 apply WM
 refine WQ qap ?_
 refine WQ ql1 ?_
 refine WQ qls ?_
 refine WQ qi ?_
 refine Wk [2, 3, 5, 45] [2, 3] ?_
 (try dsimp)
 refine Ec h rfl (fun h hc16 => ?_) (fun h hc16 => ?_)
 apply bf
 refine aX [2, 3, 5] [2, 3] ?_
 (try dsimp)
 apply bG
 apply bT
 apply bG
 obtain ⟨g17, h⟩ := aQ h
 obtain ⟨g18, h⟩ := aQ h
 refine ig [0, 1, 2, 3, 4, 5, 6, 7, 8, 9, 10] ?_
 refine XQ 0 rfl rfl rfl qap ?_
 refine XQ 1 rfl rfl rfl ql1 ?_
 refine XQ 2 rfl rfl rfl qm ?_
 refine XQ 3 rfl rfl rfl (qis g17) ?_
 refine XQ 4 rfl rfl rfl (qAF 2 g17 0) ?_
 refine XQ 5 rfl rfl rfl qap ?_
 refine XQ 6 rfl rfl rfl ql1 ?_
 refine XQ 7 rfl rfl rfl qm ?_
 refine XQ 8 rfl rfl rfl (qis g18) ?_
 refine XQ 9 rfl rfl rfl (qAF 2 g18 0) ?_
 refine XQ 10 rfl rfl rfl (rJ hP aar rfl rfl rfl rfl ⟨rfl, ⟨rfl, trivial⟩⟩) ?_
 refine dL rfl ?_
 refine aX [2, 3, 5, 58] [2, 3] ?_
 (try dsimp)
 refine Ec h rfl (fun h hc19 => ?_) (fun h hc19 => ?_)
 apply Eso
 apply WM
 refine Wk [4] [] ?_
 (try dsimp)
 apply bD
 cases h
 exact fe
 apply bf
 refine aX [2, 3, 5] [2, 3] ?_
 (try dsimp)
 apply dO
 apply WM
 obtain ⟨g20, h⟩ := aQ h
 refine WQ (qad g20) ?_
 apply WM
 apply bW
 refine ⟨n15, (v14 + (1 : Int)), Nat.lt_succ_self _, h, ?_⟩
 exact LB
 apply gy
 refine ⟨(), h, ?_⟩
 exact LB
end Go.V.P
