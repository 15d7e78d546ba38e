/- Walks: each function does what its model says: (*reeve/gear.Gear).desc, (*reeve/gear.Gear).State, slices.Equal[[]reeve/state.Slot,reeve/state.Slot], slices.Equal[[]reeve/thing.Thing,reeve/thing.Thing], reeve/state.Same, reeve/boot.Sound, reeve/reevelaw26.awake, reeve/reevelaw26.heavy, reeve/opd.Put, reeve/reevelaw26.words1, reeve/reevelaw26.BootTwice. Printed by mg.py. No premises. -/
import Derived.Test.YteocabneaenpeaaGreatP5
set_option linter.unusedVariables false
set_option linter.unusedSimpArgs false
set_option maxRecDepth 20000
set_option maxHeartbeats 4000000
namespace Go.V.P
open Go.V Go.Proofs
def zx : dJ := (.seq (.ops [(o (.jR [zi, zu, zu, zu, zu, zu, zi, zu, zi, .nil]) 6), (o (.mv (cb false)) 7)]) (.seq (.ops [(w 11 0), (o (.iK (t 11)) 12), (o (.add 1 (t 12)) 13), (o (.load true 3 (t 13)) 14), (w 15 2), (o (.call 30 [(t 14), (t 15)]) 16), (w 10 16), (o (.ext 0 (t 10)) 17), (o (.ext 1 (t 10)) 18), (w 8 17), (w 9 18)]) (.seq (.draw [((w 19 0), []), ((o (.iK (t 19)) 20), [0]), ((o (.add 1 (t 20)) 21), [1]), ((o (.load true 3 (t 21)) 22), [2]), ((w 23 1), []), ((w 24 8), []), ((w 25 8), []), ((w 26 9), []), ((o (.bin .add 3 (t 25) (t 26)) 27), [6, 7]), ((o (.slc 1 (t 23) (.some (t 24)) (.some (t 27)) .none) 28), [4, 5, 8]), ((o (.call 68 [(t 22), (t 28)]) 29), [3, 9]), ((o (.ext 0 (t 29)) 30), [10]), ((o (.ext 1 (t 29)) 31), [10]), ((n_ (.store 10 (t 6) (t 30))), [11, 10, 0, 1, 2, 3, 4, 5, 6, 7, 8, 9, 10, 11, 12]), ((w 7 31), [12, 13, 0, 1, 2, 3, 4, 5, 6, 7, 8, 9, 10, 11, 12, 13])]) .ret)))
theorem GI : Fits Tryz.prog 52 3 zx [(.cell true 10 6), (.tmp 7)] := cu Tryz.func52 (by kernel_rfl) (by kernel_rfl) (by kernel_rfl)
theorem GK (F : Nat) (a0 : eF) (a1 : (List Int)) (a2 : Int) (r : bC × Bool) (h : rC F a0 a1 a2 = some r) : AC Tryz.prog 52 [S.one (.ptr 100900 0), ss cO a1, (zi_ a2)] [(904, (⟨true, flat bT a0.jB⟩ : Reg)), (100900, (⟨false, [.ptr 100950 0, vi a0.lT.ak, vi a0.lT.au, vi a0.lT.ay, .own 100903 0 a0.xw.length (some (12, 291)), .own 904 0 a0.jB.length (some (1, 3)), vb a0.nP]⟩ : Reg)), (100903, (⟨true, flat jZ a0.xw⟩ : Reg)), (100950, (⟨false, [.own 100951 0 a0.xm.xl.length (some (18, 86)), vb a0.xm.gB, vi a0.xm.dA, vi a0.xm.dO, sl bT a0.xm.dN]⟩ : Reg)), (100951, (⟨true, flat bJ a0.xm.xl⟩ : Reg))] (fun x s' => x = S.tup [S.agg [vi r.1.bY, vu r.1.lF, vu r.1.xL.c0, vu r.1.xL.c1, vu r.1.xL.c2, vu r.1.xL.c3, vi r.1.dh.lW, vu r.1.dh.xW, vi r.1.dh.xN, sl bZ r.1.xW], (zb_ r.2)] ∧ qx s' [(904, (⟨true, flat bT a0.jB⟩ : Reg)), (100900, (⟨false, [.ptr 100950 0, vi a0.lT.ak, vi a0.lT.au, vi a0.lT.ay, .own 100903 0 a0.xw.length (some (12, 291)), .own 904 0 a0.jB.length (some (1, 3)), vb a0.nP]⟩ : Reg)), (100903, (⟨true, flat jZ a0.xw⟩ : Reg)), (100950, (⟨false, [.own 100951 0 a0.xm.xl.length (some (18, 86)), vb a0.xm.gB, vi a0.xm.dA, vi a0.xm.dO, sl bT a0.xm.dN]⟩ : Reg)), (100951, (⟨true, flat bJ a0.xm.xl⟩ : Reg))]) := by
 unfold rC at h
 refine qW GI rfl ?_
 intro C hP
 unfold zx; dsimp
 apply Eso
 refine W1 (dw rfl rfl) ?_
 apply WM
 refine Wk [0, 1, 2, 6] [6, 904, 100900, 100903, 100950, 100951] ?_
 (try dsimp)
 apply Eso
 apply WM
 refine WQ (bU rfl rfl) ?_
 refine WQ (ah rfl rfl) ?_
 refine WQ qlA ?_
 apply WM
 obtain ⟨x1, x1h, h⟩ := aN h
 refine W1 (aF hP (sW F a0.lT a2 x1 x1h) rfl rfl rfl) ?_
 apply WM
 refine WQ (bD rfl rfl) ?_
 refine WQ (bD rfl rfl) ?_
 apply WM
 apply WM
 refine Wk [0, 1, 6, 8, 9] [6, 904, 100900, 100903, 100950, 100951] ?_
 (try dsimp)
 apply bP
 obtain ⟨g2, h⟩ := aV h
 obtain ⟨g3, h⟩ := aV h
 obtain ⟨x4, x4h, h⟩ := aN h
 refine iY [0, 1, 2, 3, 4, 5, 6, 7, 8, 9, 11, 12] ?_
 refine XQ 0 rfl rfl rfl (aI rfl) ?_
 refine XQ 1 rfl rfl rfl (bU rfl rfl) ?_
 refine XQ 2 rfl rfl rfl (ah rfl rfl) ?_
 refine XQ 3 rfl rfl rfl qlA ?_
 refine XQ 4 rfl rfl rfl (aI rfl) ?_
 refine XQ 5 rfl rfl rfl (aI rfl) ?_
 refine XQ 6 rfl rfl rfl (aI rfl) ?_
 refine XQ 7 rfl rfl rfl (aI rfl) ?_
 refine XQ 8 rfl rfl rfl (cZ rfl rfl g2.1 g2.2) ?_
 refine XQ 9 rfl rfl rfl (nM rfl (fun _ => rfl) rfl rfl g3.1 g3.2.1 g3.2.2) ?_
 (try dsimp)
 refine X1 rfl (XK rfl (aF hP (zo F a0.lT (cut a1 x1.1 (x1.1 + x1.2)) x4 x4h) rfl rfl rfl) ?_)
 refine XQ 11 rfl rfl rfl (bD rfl rfl) ?_
 refine XQ 12 rfl rfl rfl (bD rfl rfl) ?_
 refine X1 rfl (XT rfl rfl dst ?_)
 refine X1 rfl (XT rfl rfl ((aI rfl).does) ?_)
 refine ig rfl ?_
 refine bf [6, 7] [6, 904, 100900, 100903, 100950, 100951] ?_
 (try dsimp)
 apply bI
 cases h
 (try simp only [qt, qb, qn])
 refine aT (xs := _) ⟨_, _, fG rfl (by simp), rfl, rfl, ⟨_, rfl, rfl⟩⟩ ?_
 show _ ∧ _
 exact ⟨rfl, ⟨(by first | rfl | simp [aG, aP, aH]), ⟨(by first | rfl | simp [aG, aP, aH]), ⟨(by first | rfl | simp [aG, aP, aH]), ⟨(by first | rfl | simp [aG, aP, aH]), ⟨(by first | rfl | simp [aG, aP, aH]), trivial⟩⟩⟩⟩⟩⟩
def yI : dJ := (.seq (.ops [(o (.jR [zi, zi, zi, .nil, .nil]) 2), (o (.mv (ci 0)) 3)]) (.seq (.seq (.ops [(w 9 0), (o (.call 51 [(t 9), (ci 0)]) 10), (w 4 10)]) (.seq (.ops [(w 11 4), (o (.bin .neq 33 (t 11) (ci 0)) 12)]) (.cond (t 12) (.seq (.ops [(o (.build [zi, zi, zi, .nil, .nil] []) 13), (w 14 4), (n_ (.store 5 (t 2) (t 13))), (w 3 14)]) .ret) .skip))) (.seq (.ops [(w 15 0), (o (.iK (t 15)) 16), (o (.add 0 (t 16)) 17), (o (.load false 1 (t 17)) 18), (o (.call 11 [(t 18)]) 19), (w 5 19)]) (.seq (.seq (.ops [(w 20 0), (o (.iK (t 20)) 21), (o (.add 4 (t 21)) 22), (o (.load false 1 (t 22)) 23), (o (.len false (t 23)) 24), (o (.mv (ci 0)) 25)]) (.block 0 (.loop (.seq (.ops [(o (.bin .lss 3 (t 25) (t 24)) 26)]) (.seq (.cond (t 26) .skip (.exit 0)) (.seq (.block 1 (.seq (.ops [(w 27 25), (w 6 27)]) (.seq (.ops [(w 29 0), (w 30 5), (w 31 6), (o (.call 52 [(t 29), (t 30), (t 31)]) 32), (w 28 32), (o (.ext 0 (t 28)) 33), (o (.ext 1 (t 28)) 34), (o (.jR [zi, zu, zu, zu, zu, zu, zi, zu, zi, .nil]) 7), (n_ (.store 10 (t 7) (t 33))), (w 8 34)]) (.seq (.ops [(w 35 8), (w 36 35), (g_ (.add 0 (t 7)) 37 36 true), (g_ (.load false 1 (t 37)) 38 36 true), (g_ (.bin .eql 3 (t 38) (ci 2)) 39 36 true), (o (.pick (t 36) (t 39) (cb false)) 40)]) (.cond (t 40) (.ops [(w 41 5), (o (.add 9 (t 7)) 42), (o (.load false 1 (t 42)) 43), (o (.call 53 [(t 41), (t 43)]) 44), (w 5 44)]) .skip))))) (.ops [(o (.bin .add 3 (t 25) (ci 1)) 45), (w 25 45)]))))))) (.seq (.ops [(w 46 5), (o (.call 54 [(t 46)]) 47), (o (.ext 0 (t 47)) 48), (o (.ext 1 (t 47)) 49), (n_ (.store 5 (t 2) (t 48))), (w 3 49)]) .ret)))))
theorem F5 : Fits Tryz.prog 25 1 yI [(.cell true 5 2), (.tmp 3)] := cu Tryz.func25 (by kernel_rfl) (by kernel_rfl) (by kernel_rfl)
theorem F6 (F : Nat) (a0 : eF) (r : aK × Int) (h : oL F a0 = some r) : AC Tryz.prog 25 [S.one (.ptr 100900 0)] [(904, (⟨true, flat bT a0.jB⟩ : Reg)), (100900, (⟨false, [.ptr 100950 0, vi a0.lT.ak, vi a0.lT.au, vi a0.lT.ay, .own 100903 0 a0.xw.length (some (12, 291)), .own 904 0 a0.jB.length (some (1, 3)), vb a0.nP]⟩ : Reg)), (100903, (⟨true, flat jZ a0.xw⟩ : Reg)), (100950, (⟨false, [.own 100951 0 a0.xm.xl.length (some (18, 86)), vb a0.xm.gB, vi a0.xm.dA, vi a0.xm.dO, sl bT a0.xm.dN]⟩ : Reg)), (100951, (⟨true, flat bJ a0.xm.xl⟩ : Reg))] (fun x s' => x = S.tup [S.agg [vi r.1.bH.ak, vi r.1.bH.au, vi r.1.bH.ay, sl aQ r.1.au, sl aS r.1.ay], (zi_ r.2)] ∧ qx s' [(904, (⟨true, flat bT a0.jB⟩ : Reg)), (100900, (⟨false, [.ptr 100950 0, vi a0.lT.ak, vi a0.lT.au, vi a0.lT.ay, .own 100903 0 a0.xw.length (some (12, 291)), .own 904 0 a0.jB.length (some (1, 3)), vb a0.nP]⟩ : Reg)), (100903, (⟨true, flat jZ a0.xw⟩ : Reg)), (100950, (⟨false, [.own 100951 0 a0.xm.xl.length (some (18, 86)), vb a0.xm.gB, vi a0.xm.dA, vi a0.xm.dO, sl bT a0.xm.dN]⟩ : Reg)), (100951, (⟨true, flat bJ a0.xm.xl⟩ : Reg))]) := by
 unfold oL at h
 refine qW F5 rfl ?_
 intro C hP
 unfold yI; dsimp
 apply Eso
 refine W1 (dw rfl rfl) ?_
 apply WM
 refine Wk [0, 2] [2, 904, 100900, 100903, 100950, 100951] ?_
 (try dsimp)
 apply bP
 apply Eso
 apply WM
 obtain ⟨x1, x1h, h⟩ := aN h
 refine W1 (dL [] false hP (Ji F a0 (0 : Int) x1 x1h) rfl ⟨rfl, rfl, rfl, rfl, rfl, trivial⟩ rfl rfl rfl rfl rfl (fun h => by first | rfl | cases h) rfl) ?_
 (try dsimp)
 apply WM
 refine Wk [0, 2, 4] [2, 904, 100900, 100903, 100950, 100951] ?_
 (try dsimp)
 apply Eso
 apply WM
 refine WQ (aB rfl rfl rfl) ?_
 refine Wk [0, 2, 4, 12] [2, 904, 100900, 100903, 100950, 100951] ?_
 (try dsimp)
 refine Ec h rfl (fun h hc2 => ?_) (fun h hc2 => ?_)
 apply Eso
 refine WQ (bV rfl rfl) ?_
 apply WM
 refine W1 dst ?_
 apply WM
 refine Wk [2, 3] [2, 904, 100900, 100903, 100950, 100951] ?_
 (try dsimp)
 refine fA (oM (q := 2) rfl).b ?_
 (try dsimp)
 apply bI
 cases h
 (try simp only [qt, qb, qn])
 refine aT (xs := _) ⟨_, _, fG rfl (by simp), rfl, rfl, ⟨_, rfl, rfl⟩⟩ ?_
 show _ ∧ _
 exact ⟨rfl, ⟨(by first | rfl | simp [aG, aP, aH]), ⟨(by first | rfl | simp [aG, aP, aH]), ⟨(by first | rfl | simp [aG, aP, aH]), ⟨(by first | rfl | simp [aG, aP, aH]), ⟨(by first | rfl | simp [aG, aP, aH]), trivial⟩⟩⟩⟩⟩⟩
 apply bG
 refine bf [0, 2] [2, 904, 100900, 100903, 100950, 100951] ?_
 (try dsimp)
 apply Eso
 apply WM
 refine WQ (bU rfl rfl) ?_
 refine WQ (ah rfl rfl) ?_
 refine WQ (aj rfl rfl rfl) ?_
 obtain ⟨x3, x3h, h⟩ := aN h
 refine W1 (dL [(100900, 100950), (100901, 100951)] false hP (lS F a0.xm x3 x3h) rfl ⟨rfl, rfl, trivial⟩ rfl rfl rfl rfl rfl (fun h => by first | rfl | cases h) rfl) ?_
 (try dsimp)
 apply WM
 refine Wk [0, 2, 5] [2, 904, 100900, 100903, 100950, 100951] ?_
 (try dsimp)
 obtain ⟨k5, k5d, h⟩ := fO h
 refine dV (α := (List Int)) (fun (i : (List Int)) => (⟨[(2, S.one (.ptr 2 0)), (5, ss cO i)], [(2, (⟨true, [vi (0 : Int), vi (0 : Int), vi (0 : Int), .nil, .nil]⟩ : Reg)), (904, (⟨true, flat bT a0.jB⟩ : Reg)), (100900, (⟨false, [.ptr 100950 0, vi a0.lT.ak, vi a0.lT.au, vi a0.lT.ay, .own 100903 0 a0.xw.length (some (12, 291)), .own 904 0 a0.jB.length (some (1, 3)), vb a0.nP]⟩ : Reg)), (100903, (⟨true, flat jZ a0.xw⟩ : Reg)), (100950, (⟨false, [.own 100951 0 a0.xm.xl.length (some (18, 86)), vb a0.xm.gB, vi a0.xm.dA, vi a0.xm.dO, sl bT a0.xm.dN]⟩ : Reg)), (100951, (⟨true, flat bJ a0.xm.xl⟩ : Reg))]⟩ : St)) (fun i => k5 i = some r) (fun i h => ?_) ?_
 let iv := i; change k5 i = some r at h; generalize i = v4 at h ⊢
 rw [k5d] at h; dsimp only at h
 (try dsimp)
 apply Eso
 apply WM
 obtain ⟨x6, x6h, h⟩ := aN h
 refine W1 (aF hP (BK F v4 x6 x6h) rfl rfl rfl) ?_
 refine WQ (bD rfl rfl) ?_
 refine WQ (bD rfl rfl) ?_
 refine W1 dst ?_
 apply WM
 refine Wk [2, 3] [2, 904, 100900, 100903, 100950, 100951] ?_
 (try dsimp)
 apply bI
 cases h
 (try simp only [qt, qb, qn])
 refine aT (xs := _) ⟨_, _, fG rfl (by simp), rfl, rfl, ⟨_, rfl, rfl⟩⟩ ?_
 show _ ∧ _
 exact ⟨rfl, ⟨(by first | rfl | simp [aG, aP, aH]), ⟨(by first | rfl | simp [aG, aP, aH]), ⟨(by first | rfl | simp [aG, aP, aH]), ⟨(by first | rfl | simp [aG, aP, aH]), ⟨(by first | rfl | simp [aG, aP, aH]), trivial⟩⟩⟩⟩⟩⟩
 apply Eso
 apply WM
 refine WQ (bU rfl rfl) ?_
 refine WQ (ah rfl rfl) ?_
 refine WQ (aj rfl rfl rfl) ?_
 refine WQ (kE rfl rfl) ?_
 apply WM
 refine Wk [0, 2, 5, 24, 25] [2, 904, 100900, 100903, 100950, 100951] ?_
 (try dsimp)
 apply bW
 (try dsimp)
 refine fD (α := (List Int) × Int) (fun (i : (List Int) × Int) => (⟨[(0, S.one (.ptr 100900 0)), (2, S.one (.ptr 2 0)), (5, ss cO i.1), (24, (zi_ ((a0.xw.length : Nat) : Int))), (25, (zi_ i.2))], [(2, (⟨true, [vi (0 : Int), vi (0 : Int), vi (0 : Int), .nil, .nil]⟩ : Reg)), (904, (⟨true, flat bT a0.jB⟩ : Reg)), (100900, (⟨false, [.ptr 100950 0, vi a0.lT.ak, vi a0.lT.au, vi a0.lT.ay, .own 100903 0 a0.xw.length (some (12, 291)), .own 904 0 a0.jB.length (some (1, 3)), vb a0.nP]⟩ : Reg)), (100903, (⟨true, flat jZ a0.xw⟩ : Reg)), (100950, (⟨false, [.own 100951 0 a0.xm.xl.length (some (18, 86)), vb a0.xm.gB, vi a0.xm.dA, vi a0.xm.dO, sl bT a0.xm.dN]⟩ : Reg)), (100951, (⟨true, flat bJ a0.xm.xl⟩ : Reg))]⟩ : St)) (fun n i => jV F a0 k5 n i.1 i.2 = some r) F (x3, (0 : Int)) h ?_ (fun n i h => ?_)
 exact (Le.b (bK ⟨rfl, rfl, rfl, rfl, rfl, trivial⟩ ⟨rfl, rfl, rfl, rfl, rfl, rfl, trivial⟩))
 obtain ⟨v23, v24⟩ := i; dsimp only at h
 obtain _ | n25 := n
 cases h
 unfold jV at h
 (try dsimp)
 apply Eso
 refine WQ (aB rfl rfl rfl) ?_
 apply dn
 (try dsimp)
 apply bP
 refine Ec h rfl (fun h XP => ?_) (fun h XP => ?_)
 apply bG
 refine bf [0, 2, 5, 24, 25] [2, 904, 100900, 100903, 100950, 100951] ?_
 (try dsimp)
 obtain ⟨k28, adG, h⟩ := fO h
 refine dV (α := (List Int)) (fun (i : (List Int)) => (⟨[(0, S.one (.ptr 100900 0)), (2, S.one (.ptr 2 0)), (5, ss cO i), (24, (zi_ ((a0.xw.length : Nat) : Int))), (25, (zi_ v24))], [(2, (⟨true, [vi (0 : Int), vi (0 : Int), vi (0 : Int), .nil, .nil]⟩ : Reg)), (904, (⟨true, flat bT a0.jB⟩ : Reg)), (100900, (⟨false, [.ptr 100950 0, vi a0.lT.ak, vi a0.lT.au, vi a0.lT.ay, .own 100903 0 a0.xw.length (some (12, 291)), .own 904 0 a0.jB.length (some (1, 3)), vb a0.nP]⟩ : Reg)), (100903, (⟨true, flat jZ a0.xw⟩ : Reg)), (100950, (⟨false, [.own 100951 0 a0.xm.xl.length (some (18, 86)), vb a0.xm.gB, vi a0.xm.dA, vi a0.xm.dO, sl bT a0.xm.dN]⟩ : Reg)), (100951, (⟨true, flat bJ a0.xm.xl⟩ : Reg))]⟩ : St)) (fun i => k28 i = some r) (fun i h => ?_) ?_
 let iv := i; change k28 i = some r at h; generalize i = v27 at h ⊢
 rw [adG] at h; dsimp only at h
 (try dsimp)
 apply eP
 obtain ⟨g29, h⟩ := aV h
 refine WQ (cZ rfl rfl g29.1 g29.2) ?_
 apply WM
 apply dn
 refine ⟨n25, (v27, (v24 + (1 : Int))), Nat.lt_succ_self _, h, ?_⟩
 exact (Le.b (bK ⟨rfl, rfl, rfl, rfl, rfl, trivial⟩ ⟨rfl, rfl, rfl, rfl, rfl, rfl, trivial⟩))
 apply bW
 apply Eso
 apply WM
 apply WM
 refine Wk [0, 2, 5, 6, 24, 25] [2, 904, 100900, 100903, 100950, 100951] ?_
 (try dsimp)
 apply Eso
 apply WM
 apply WM
 apply WM
 obtain ⟨x30, aat, h⟩ := aN h
 refine W1 (dL [] false hP (GK F a0 v23 v24 x30 aat) rfl ⟨rfl, rfl, rfl, rfl, rfl, trivial⟩ rfl rfl rfl rfl rfl (fun h => by first | rfl | cases h) rfl) ?_
 (try dsimp)
 apply WM
 refine WQ (bD rfl rfl) ?_
 refine WQ (bD rfl rfl) ?_
 refine W1 (dw rfl rfl) ?_
 refine W1 dst ?_
 apply WM
 refine Wk [0, 2, 5, 7, 8, 24, 25] [2, 7, 904, 100900, 100903, 100950, 100951] ?_
 (try dsimp)
 apply Eso
 apply WM
 apply WM
 apply aC
 rfl
 intro hB; (try simp only [hB, bss, ctt]); exact ah rfl rfl
 apply aC
 rfl
 intro hB; (try simp only [hB, bss, ctt]); exact aj rfl rfl rfl
 apply aC
 rfl
 intro hB; (try simp only [hB, bss, ctt]); exact aB rfl rfl rfl
 refine WQ (dK rfl rfl rfl) ?_
 refine Wk [0, 2, 5, 7, 24, 25, 40] [2, 7, 904, 100900, 100903, 100950, 100951] ?_
 (try dsimp)
 refine Ec h rfl (fun h hc31 => ?_) (fun h hc31 => ?_)
 apply eP
 apply WM
 refine WQ (ah rfl rfl) ?_
 refine WQ (aj rfl rfl rfl) ?_
 obtain ⟨x32, adH, h⟩ := aN h
 refine W1 (aF hP (Ny F v23 x30.1.xW x32 adH) rfl rfl rfl) ?_
 apply WM
 apply dn
 refine ⟨x32, h, ?_⟩
 exact (Le.b (bK ⟨rfl, rfl, rfl, rfl, rfl, trivial⟩ ⟨rfl, rfl, rfl, rfl, rfl, rfl, trivial⟩))
 apply bG
 refine ⟨v23, h, ?_⟩
 exact (Le.b (bK ⟨rfl, rfl, rfl, rfl, rfl, trivial⟩ ⟨rfl, rfl, rfl, rfl, rfl, rfl, trivial⟩))
 apply gV
 refine ⟨v23, h, ?_⟩
 exact (Le.b (bK ⟨rfl, rfl, trivial⟩ ⟨rfl, rfl, rfl, rfl, rfl, rfl, trivial⟩))
def rJ : dJ := (.seq (.ops [(o (.mv (cb false)) 4)]) (.seq (.seq (.ops [(w 6 0), (o (.len false (t 6)) 7), (w 8 1), (o (.len false (t 8)) 9), (o (.bin .neq 3 (t 7) (t 9)) 10)]) (.cond (t 10) (.seq (.ops [(o (.mv (cb false)) 4)]) .ret) .skip)) (.seq (.seq (.ops [(w 11 0), (o (.len false (t 11)) 12), (o (.mv (ci 0)) 13)]) (.block 0 (.loop (.seq (.ops [(o (.bin .lss 3 (t 13) (t 12)) 14)]) (.seq (.cond (t 14) .skip (.exit 0)) (.seq (.block 1 (.seq (.ops [(w 15 13), (w 5 15)]) (.seq (.draw [((w 16 0), []), ((w 17 5), []), ((o (.gJ 5 (t 16) (t 17)) 18), [0, 1]), ((o (.load true 5 (t 18)) 19), [2]), ((w 20 1), []), ((w 21 5), []), ((o (.gJ 5 (t 20) (t 21)) 22), [4, 5]), ((o (.load true 5 (t 22)) 23), [6]), ((o (.eqA true 111 (t 19) (t 23)) 24), [3, 7])]) (.cond (t 24) (.seq (.ops [(o (.mv (cb false)) 4)]) .ret) .skip)))) (.ops [(o (.bin .add 3 (t 13) (ci 1)) 25), (w 13 25)]))))))) (.seq (.ops [(o (.mv (cb true)) 4)]) .ret))))
theorem yB : Fits Tryz.prog 41 2 rJ [(.tmp 4)] := cu Tryz.func41 (by kernel_rfl) (by kernel_rfl) (by kernel_rfl)
theorem yC (F : Nat) (a0 : (List aY)) (a1 : (List aY)) (r : Bool) (h : kF F a0 a1 = some r) : PC Tryz.prog 41 [ss aQ a0, ss aQ a1] (zb_ r) := by
 unfold kF at h
 refine fC yB rfl rfl ?_
 intro C hP
 unfold rJ; dsimp
 apply Eso
 apply WM
 refine Wk [0, 1] [] ?_
 (try dsimp)
 apply bP
 apply Eso
 apply WM
 refine WQ (bM rfl) ?_
 apply WM
 refine WQ (bM rfl) ?_
 refine WQ (aB rfl rfl rfl) ?_
 refine Wk [0, 1, 10] [] ?_
 (try dsimp)
 refine Ec h rfl (fun h hc1 => ?_) (fun h hc1 => ?_)
 apply Eso
 apply WM
 refine Wk [4] [] ?_
 (try dsimp)
 apply bI
 cases h
 (try simp only [qt, qb, qn])
 refine aT (xs := _) ⟨_, rfl, rfl⟩ ?_
 rfl
 apply bG
 refine bf [0, 1] [] ?_
 (try dsimp)
 obtain ⟨k2, k2d, h⟩ := fO h
 refine dV (α := Unit) (fun (i : Unit) => (⟨[], []⟩ : St)) (fun i => k2 () = some r) (fun i h => ?_) ?_
 rw [k2d] at h; dsimp only at h
 (try dsimp)
 apply Eso
 apply WM
 apply dn
 (try dsimp)
 apply bI
 cases h
 (try simp only [qt, qb, qn])
 refine aT (xs := _) ⟨_, rfl, rfl⟩ ?_
 rfl
 apply Eso
 apply WM
 refine WQ (bM rfl) ?_
 apply WM
 refine Wk [0, 1, 12, 13] [] ?_
 (try dsimp)
 apply bW
 (try dsimp)
 refine fD (α := Int) (fun (i : Int) => (⟨[(0, ss aQ a0), (1, ss aQ a1), (12, (zi_ ((a0.length : Nat) : Int))), (13, (zi_ i))], []⟩ : St)) (fun n i => iQ F a0 a1 k2 n i = some r) F (0 : Int) h ?_ (fun n i h => ?_)
 exact (Le.b (bK ⟨rfl, rfl, rfl, rfl, trivial⟩ trivial))
 generalize i = v14 at h ⊢
 obtain _ | n15 := n
 cases h
 unfold iQ at h
 (try dsimp)
 apply Eso
 refine WQ (aB rfl rfl rfl) ?_
 apply dn
 (try dsimp)
 apply bP
 refine Ec h rfl (fun h hc16 => ?_) (fun h hc16 => ?_)
 apply bG
 refine bf [0, 1, 12, 13] [] ?_
 (try dsimp)
 apply bP
 apply bW
 apply Eso
 apply WM
 apply WM
 refine Wk [0, 1, 5, 12, 13] [] ?_
 (try dsimp)
 apply bP
 obtain ⟨g17, h⟩ := aV h
 obtain ⟨g18, h⟩ := aV h
 refine iY [0, 1, 2, 3, 4, 5, 6, 7, 8] ?_
 refine XQ 0 rfl rfl rfl (aI rfl) ?_
 refine XQ 1 rfl rfl rfl (aI rfl) ?_
 refine XQ 2 rfl rfl rfl (aX rfl rfl g17.1 g17.2) ?_
 refine XQ 3 rfl rfl rfl (dX (k := 5) rfl (fun _ => rfl) g17 0 rfl rfl rfl) ?_
 refine XQ 4 rfl rfl rfl (aI rfl) ?_
 refine XQ 5 rfl rfl rfl (aI rfl) ?_
 refine XQ 6 rfl rfl rfl (aX rfl rfl g18.1 g18.2) ?_
 refine XQ 7 rfl rfl rfl (dX (k := 5) rfl (fun _ => rfl) g18 0 rfl rfl rfl) ?_
 refine XQ 8 rfl rfl rfl (vT hP YR rfl rfl rfl rfl ⟨rfl, ⟨rfl, ⟨rfl, ⟨rfl, ⟨rfl, trivial⟩⟩⟩⟩⟩) ?_
 refine ig rfl ?_
 refine bf [0, 1, 12, 13, 24] [] ?_
 (try dsimp)
 refine Ec h rfl (fun h hc19 => ?_) (fun h hc19 => ?_)
 apply Eso
 apply WM
 refine Wk [4] [] ?_
 (try dsimp)
 apply bI
 cases h
 (try simp only [qt, qb, qn])
 refine aT (xs := _) ⟨_, rfl, rfl⟩ ?_
 rfl
 apply bG
 refine bf [0, 1, 12, 13] [] ?_
 (try dsimp)
 apply eP
 obtain ⟨g20, h⟩ := aV h
 refine WQ (cZ rfl rfl g20.1 g20.2) ?_
 apply WM
 apply dn
 refine ⟨n15, (v14 + (1 : Int)), Nat.lt_succ_self _, h, ?_⟩
 exact (Le.b (bK ⟨rfl, rfl, rfl, rfl, trivial⟩ trivial))
 apply gV
 refine ⟨(), h, ?_⟩
 exact (Le.b (bK trivial trivial))
def qX : dJ := (.seq (.ops [(o (.mv (cb false)) 4)]) (.seq (.seq (.ops [(w 6 0), (o (.len false (t 6)) 7), (w 8 1), (o (.len false (t 8)) 9), (o (.bin .neq 3 (t 7) (t 9)) 10)]) (.cond (t 10) (.seq (.ops [(o (.mv (cb false)) 4)]) .ret) .skip)) (.seq (.seq (.ops [(w 11 0), (o (.len false (t 11)) 12), (o (.mv (ci 0)) 13)]) (.block 0 (.loop (.seq (.ops [(o (.bin .lss 3 (t 13) (t 12)) 14)]) (.seq (.cond (t 14) .skip (.exit 0)) (.seq (.block 1 (.seq (.ops [(w 15 13), (w 5 15)]) (.seq (.draw [((w 16 0), []), ((w 17 5), []), ((o (.gJ 13 (t 16) (t 17)) 18), [0, 1]), ((o (.load true 13 (t 18)) 19), [2]), ((w 20 1), []), ((w 21 5), []), ((o (.gJ 13 (t 20) (t 21)) 22), [4, 5]), ((o (.load true 13 (t 22)) 23), [6]), ((o (.eqA true 104 (t 19) (t 23)) 24), [3, 7])]) (.cond (t 24) (.seq (.ops [(o (.mv (cb false)) 4)]) .ret) .skip)))) (.ops [(o (.bin .add 3 (t 13) (ci 1)) 25), (w 13 25)]))))))) (.seq (.ops [(o (.mv (cb true)) 4)]) .ret))))
theorem yc : Fits Tryz.prog 42 2 qX [(.tmp 4)] := cu Tryz.func42 (by kernel_rfl) (by kernel_rfl) (by kernel_rfl)
theorem yg (F : Nat) (a0 : (List aJ)) (a1 : (List aJ)) (r : Bool) (h : jT F a0 a1 = some r) : PC Tryz.prog 42 [ss aS a0, ss aS a1] (zb_ r) := by
 unfold jT at h
 refine fC yc rfl rfl ?_
 intro C hP
 unfold qX; dsimp
 apply Eso
 apply WM
 refine Wk [0, 1] [] ?_
 (try dsimp)
 apply bP
 apply Eso
 apply WM
 refine WQ (bM rfl) ?_
 apply WM
 refine WQ (bM rfl) ?_
 refine WQ (aB rfl rfl rfl) ?_
 refine Wk [0, 1, 10] [] ?_
 (try dsimp)
 refine Ec h rfl (fun h hc1 => ?_) (fun h hc1 => ?_)
 apply Eso
 apply WM
 refine Wk [4] [] ?_
 (try dsimp)
 apply bI
 cases h
 (try simp only [qt, qb, qn])
 refine aT (xs := _) ⟨_, rfl, rfl⟩ ?_
 rfl
 apply bG
 refine bf [0, 1] [] ?_
 (try dsimp)
 obtain ⟨k2, k2d, h⟩ := fO h
 refine dV (α := Unit) (fun (i : Unit) => (⟨[], []⟩ : St)) (fun i => k2 () = some r) (fun i h => ?_) ?_
 rw [k2d] at h; dsimp only at h
 (try dsimp)
 apply Eso
 apply WM
 apply dn
 (try dsimp)
 apply bI
 cases h
 (try simp only [qt, qb, qn])
 refine aT (xs := _) ⟨_, rfl, rfl⟩ ?_
 rfl
 apply Eso
 apply WM
 refine WQ (bM rfl) ?_
 apply WM
 refine Wk [0, 1, 12, 13] [] ?_
 (try dsimp)
 apply bW
 (try dsimp)
 refine fD (α := Int) (fun (i : Int) => (⟨[(0, ss aS a0), (1, ss aS a1), (12, (zi_ ((a0.length : Nat) : Int))), (13, (zi_ i))], []⟩ : St)) (fun n i => iI F a0 a1 k2 n i = some r) F (0 : Int) h ?_ (fun n i h => ?_)
 exact (Le.b (bK ⟨rfl, rfl, rfl, rfl, trivial⟩ trivial))
 generalize i = v14 at h ⊢
 obtain _ | n15 := n
 cases h
 unfold iI at h
 (try dsimp)
 apply Eso
 refine WQ (aB rfl rfl rfl) ?_
 apply dn
 (try dsimp)
 apply bP
 refine Ec h rfl (fun h hc16 => ?_) (fun h hc16 => ?_)
 apply bG
 refine bf [0, 1, 12, 13] [] ?_
 (try dsimp)
 apply bP
 apply bW
 apply Eso
 apply WM
 apply WM
 refine Wk [0, 1, 5, 12, 13] [] ?_
 (try dsimp)
 apply bP
 obtain ⟨g17, h⟩ := aV h
 obtain ⟨g18, h⟩ := aV h
 refine iY [0, 1, 2, 3, 4, 5, 6, 7, 8] ?_
 refine XQ 0 rfl rfl rfl (aI rfl) ?_
 refine XQ 1 rfl rfl rfl (aI rfl) ?_
 refine XQ 2 rfl rfl rfl (aX rfl rfl g17.1 g17.2) ?_
 refine XQ 3 rfl rfl rfl (dX (k := 13) rfl (fun _ => rfl) g17 0 rfl rfl rfl) ?_
 refine XQ 4 rfl rfl rfl (aI rfl) ?_
 refine XQ 5 rfl rfl rfl (aI rfl) ?_
 refine XQ 6 rfl rfl rfl (aX rfl rfl g18.1 g18.2) ?_
 refine XQ 7 rfl rfl rfl (dX (k := 13) rfl (fun _ => rfl) g18 0 rfl rfl rfl) ?_
 refine XQ 8 rfl rfl rfl (vT hP OB rfl rfl rfl rfl ⟨rfl, ⟨rfl, ⟨rfl, ⟨rfl, ⟨rfl, ⟨rfl, ⟨rfl, ⟨trivial, ⟨rfl, ⟨rfl, ⟨rfl, ⟨rfl, ⟨rfl, trivial⟩⟩⟩⟩⟩⟩⟩⟩⟩⟩⟩⟩⟩) ?_
 refine ig rfl ?_
 refine bf [0, 1, 12, 13, 24] [] ?_
 (try dsimp)
 refine Ec h rfl (fun h hc19 => ?_) (fun h hc19 => ?_)
 apply Eso
 apply WM
 refine Wk [4] [] ?_
 (try dsimp)
 apply bI
 cases h
 (try simp only [qt, qb, qn])
 refine aT (xs := _) ⟨_, rfl, rfl⟩ ?_
 rfl
 apply bG
 refine bf [0, 1, 12, 13] [] ?_
 (try dsimp)
 apply eP
 obtain ⟨g20, h⟩ := aV h
 refine WQ (cZ rfl rfl g20.1 g20.2) ?_
 apply WM
 apply dn
 refine ⟨n15, (v14 + (1 : Int)), Nat.lt_succ_self _, h, ?_⟩
 exact (Le.b (bK ⟨rfl, rfl, rfl, rfl, trivial⟩ trivial))
 apply gV
 refine ⟨(), h, ?_⟩
 exact (Le.b (bK trivial trivial))
def F7 : dJ := (.seq (.ops [(o (.box 27 (t 0)) 2), (o (.box 27 (t 1)) 3), (o (.mv (cb false)) 4)]) (.seq (.ops [(o (.add 0 (t 2)) 5), (o (.load true 3 (t 5)) 6), (o (.add 0 (t 3)) 7), (o (.load true 3 (t 7)) 8), (o (.eqA false 23 (t 6) (t 8)) 9), (w 10 9), (g_ (.add 3 (t 2)) 11 10 true), (g_ (.load false 1 (t 11)) 12 10 true), (g_ (.add 3 (t 3)) 13 10 true), (g_ (.load false 1 (t 13)) 14 10 true), (g_ (.call 41 [(t 12), (t 14)]) 15 10 true), (o (.pick (t 10) (t 15) (cb false)) 16), (w 17 16), (g_ (.add 4 (t 2)) 18 17 true), (g_ (.load false 1 (t 18)) 19 17 true), (g_ (.add 4 (t 3)) 20 17 true), (g_ (.load false 1 (t 20)) 21 17 true), (g_ (.call 42 [(t 19), (t 21)]) 22 17 true), (o (.pick (t 17) (t 22) (cb false)) 23), (w 4 23)]) .ret))
theorem Pn : Fits Tryz.prog 16 2 F7 [(.tmp 4)] := cu Tryz.func16 (by kernel_rfl) (by kernel_rfl) (by kernel_rfl)
theorem Po (F : Nat) (a0 : aK) (a1 : aK) (r : Bool) (h : ug F a0 a1 = some r) : PC Tryz.prog 16 [S.agg [vi a0.bH.ak, vi a0.bH.au, vi a0.bH.ay, sl aQ a0.au, sl aS a0.ay], S.agg [vi a1.bH.ak, vi a1.bH.au, vi a1.bH.ay, sl aQ a1.au, sl aS a1.ay]] (zb_ r) := by
 unfold ug at h
 refine fC Pn rfl rfl ?_
 intro C hP
 unfold F7; dsimp
 apply Eso
 refine W1 (eu rfl rfl rfl rfl) ?_
 refine W1 (eu rfl rfl rfl rfl) ?_
 apply WM
 refine Wk [2, 3] [2, 3] ?_
 (try dsimp)
 apply Eso
 refine WQ (ah rfl rfl) ?_
 refine WQ qlA ?_
 refine WQ (ah rfl rfl) ?_
 refine WQ qlA ?_
 refine WQ (vT hP Z7 rfl rfl rfl rfl ⟨rfl, ⟨rfl, ⟨rfl, trivial⟩⟩⟩) ?_
 apply WM
 apply aC
 rfl
 intro hB; (try simp only [hB, bss, ctt]); exact ah rfl rfl
 apply aC
 rfl
 intro hB; (try simp only [hB, bss, ctt]); exact aj rfl rfl rfl
 apply aC
 rfl
 intro hB; (try simp only [hB, bss, ctt]); exact ah rfl rfl
 apply aC
 rfl
 intro hB; (try simp only [hB, bss, ctt]); exact aj rfl rfl rfl
 obtain ⟨x1, x1h, h⟩ := aN h
 apply jk
 rfl
 intro hB; (try simp only [hB, bss, ctt]); exact aF hP (yC F a0.au a1.au x1 (jW x1h (bt hB))) rfl rfl rfl
 refine WQ (dK rfl rfl rfl) ?_
 apply WM
 apply aC
 rfl
 intro hB; (try simp only [hB, bss, ctt]); exact ah rfl rfl
 apply aC
 rfl
 intro hB; (try simp only [hB, bss, ctt]); exact aj rfl rfl rfl
 apply aC
 rfl
 intro hB; (try simp only [hB, bss, ctt]); exact ah rfl rfl
 apply aC
 rfl
 intro hB; (try simp only [hB, bss, ctt]); exact aj rfl rfl rfl
 obtain ⟨x2, x2h, h⟩ := aN h
 apply jk
 rfl
 intro hB; (try simp only [hB, bss, ctt]); exact aF hP (yg F a0.ay a1.ay x2 (jW x2h (bt hB))) rfl rfl rfl
 refine WQ (dK rfl rfl rfl) ?_
 apply WM
 refine Wk [4] [] ?_
 (try dsimp)
 apply bI
 cases h
 (try simp only [qt, qb, qn])
 refine aT (xs := _) ⟨_, rfl, rfl⟩ ?_
 rfl
def F8 : dJ := (.seq (.ops [(o (.mv (cb false)) 2)]) (.seq (.ops [(w 6 0), (o (.call 33 [(t 6)]) 7), (w 5 7), (o (.ext 0 (t 5)) 8), (o (.ext 1 (t 5)) 9), (o (.jR [zi, zi, zi, .nil, .nil, .nil, zu, zb]) 3), (n_ (.store 8 (t 3) (t 8))), (w 4 9)]) (.seq (.ops [(w 10 4), (w 2 10)]) .ret)))
theorem Pv : Fits Tryz.prog 18 1 F8 [(.tmp 2)] := cu Tryz.func18 (by kernel_rfl) (by kernel_rfl) (by kernel_rfl)
theorem Px (F : Nat) (a0 : (List Int)) (r : Bool) (h : uh F a0 = some r) : PC Tryz.prog 18 [ss cO a0] (zb_ r) := by
 unfold uh at h
 refine fC Pv rfl rfl ?_
 intro C hP
 unfold F8; dsimp
 apply Eso
 apply WM
 refine Wk [0] [] ?_
 (try dsimp)
 apply Eso
 apply WM
 obtain ⟨x1, x1h, h⟩ := aN h
 refine W1 (aF hP (Ir F a0 x1 x1h) rfl rfl rfl) ?_
 apply WM
 refine WQ (bD rfl rfl) ?_
 refine WQ (bD rfl rfl) ?_
 refine W1 (dw rfl rfl) ?_
 refine W1 dst ?_
 apply WM
 refine Wk [4] [] ?_
 (try dsimp)
 apply Eso
 apply WM
 apply WM
 refine Wk [2] [] ?_
 (try dsimp)
 apply bI
 cases h
 (try simp only [qt, qb, qn])
 refine aT (xs := _) ⟨_, rfl, rfl⟩ ?_
 rfl
def yh : dJ := (.seq (.ops [(o (.mv (cb false)) 0)]) (.seq (.ops [(o (.call 27 []) 11), (o (.call 12 [(t 11), (ci 64)]) 12), (w 10 12), (o (.ext 0 (t 10)) 13), (o (.ext 1 (t 10)) 14), (w 1 13), (w 2 14)]) (.seq (.seq (.ops [(w 15 2), (o (.bin .neq 33 (t 15) (ci 0)) 16), (w 17 16), (g_ (.mv (t 1)) 18 17 false), (g_ (.eqP false (t 18) cp) 19 17 false), (o (.pick (t 17) (cb true) (t 19)) 20)]) (.cond (t 20) (.seq (.ops [(o (.mv (cb false)) 0)]) .ret) .skip)) (.seq (.ops [(w 22 1), (o (.call 10 [(t 22)]) 23), (w 21 23), (o (.ext 0 (t 21)) 24), (o (.ext 1 (t 21)) 25), (w 3 24), (w 4 25)]) (.seq (.seq (.ops [(w 26 4), (o (.bin .neq 33 (t 26) (ci 0)) 27), (w 28 27), (g_ (.mv (t 3)) 29 28 false), (g_ (.eqP false (t 29) cp) 30 28 false), (o (.pick (t 28) (cb true) (t 30)) 31)]) (.cond (t 31) (.seq (.ops [(o (.mv (cb false)) 0)]) .ret) .skip)) (.seq (.ops [(w 33 3), (o (.call 25 [(t 33)]) 34), (w 32 34), (o (.ext 0 (t 32)) 35), (o (.ext 1 (t 32)) 36), (o (.jR [zi, zi, zi, .nil, .nil]) 5), (n_ (.store 5 (t 5) (t 35))), (w 6 36)]) (.seq (.ops [(o (.call 27 []) 38), (o (.call 13 [(t 38), (ci 64)]) 39), (w 37 39), (o (.ext 0 (t 37)) 40), (o (.ext 1 (t 37)) 41), (o (.jR [zi, zi, zi, .nil, .nil]) 7), (n_ (.store 5 (t 7) (t 40))), (w 8 41)]) (.seq (.ops [(w 42 1), (o (.call 11 [(t 42)]) 43), (w 9 43)]) (.seq (.ops [(w 44 6), (o (.bin .eql 33 (t 44) (ci 0)) 45), (w 46 45), (g_ (.load true 5 (t 5)) 47 46 true), (g_ (.load true 5 (t 7)) 48 46 true), (g_ (.call 16 [(t 47), (t 48)]) 49 46 true), (o (.pick (t 46) (t 49) (cb false)) 50), (w 51 50), (g_ (.mv (t 9)) 52 51 true), (g_ (.len false (t 52)) 53 51 true), (g_ (.bin .gtr 3 (t 53) (ci 8)) 54 51 true), (o (.pick (t 51) (t 54) (cb false)) 55), (w 56 55), (g_ (.mv (t 9)) 57 56 true), (g_ (.gJ 1 (t 57) (ci 4)) 58 56 true), (g_ (.load false 1 (t 58)) 59 56 true), (g_ (.bin .eql 42 (t 59) (.const (.int .u64 1))) 60 56 true), (o (.pick (t 56) (t 60) (cb false)) 61), (w 62 61), (g_ (.mv (t 9)) 63 62 true), (g_ (.call 18 [(t 63)]) 64 62 true), (o (.pick (t 62) (t 64) (cb false)) 65), (w 0 65)]) .ret)))))))))
theorem Ew : Fits Tryz.prog 6 0 yh [(.tmp 0)] := cu Tryz.func6 (by kernel_rfl) (by kernel_rfl) (by kernel_rfl)
theorem Ey (F : Nat)  (r : Bool) (h : nX F  = some r) : PC Tryz.prog 6 [] (zb_ r) := by
 unfold nX at h
 refine fC Ew rfl rfl ?_
 intro C hP
 unfold yh; dsimp
 apply Eso
 apply WM
 refine Wk [] [] ?_
 (try dsimp)
 apply Eso
 obtain ⟨x1, x1h, h⟩ := aN h
 refine W1 (aF hP (Hu F  x1 x1h) rfl rfl rfl) ?_
 obtain ⟨x2, x2h, h⟩ := aN h
 rcases wX h with ⟨o3e, h⟩ | ⟨o3, o3e, h⟩
 refine W1 (dL [] true hP (wY o3e (Ij F x1 (64 : Int) x2 x2h)) rfl trivial rfl rfl rfl rfl rfl (fun h => by first | rfl | cases h) rfl) ?_
 (try dsimp)
 apply WM
 refine WQ (bD rfl rfl) ?_
 refine WQ (bD rfl rfl) ?_
 apply WM
 apply WM
 refine Wk [1, 2] [] ?_
 (try dsimp)
 apply bP
 apply Eso
 apply WM
 refine WQ (aB rfl rfl rfl) ?_
 apply WM
 apply aC
 rfl
 intro hB; (try simp only [hB, bss, ctt]); exact aI rfl
 apply aC
 rfl
 intro hB; (try simp only [hB, bss, ctt]); exact xk rfl rfl
 refine WQ (dS rfl rfl rfl) ?_
 refine Wk [1, 20] [] ?_
 (try dsimp)
 refine Ec h rfl (fun h hc4 => ?_) (fun h hc4 => ?_)
 apply Eso
 apply WM
 refine Wk [0] [] ?_
 (try dsimp)
 apply bI
 cases h
 (try simp only [qt, qb, qn])
 refine aT (xs := _) ⟨_, rfl, rfl⟩ ?_
 rfl
 apply bG
 refine bf [1] [] ?_
 (try dsimp)
 apply Eso
 apply WM
 cases h
 refine W1 (dL [(7190, 7120), (7191, 7121)] true hP (wZ o3e (Ij F x1 (64 : Int) x2 x2h)) rfl trivial rfl rfl rfl rfl rfl (fun h => by first | rfl | cases h) rfl) ?_
 (try dsimp)
 apply WM
 refine WQ (bD rfl rfl) ?_
 refine WQ (bD rfl rfl) ?_
 apply WM
 apply WM
 refine Wk [1, 2] [7120, 7121] ?_
 (try dsimp)
 apply bP
 apply Eso
 apply WM
 refine WQ (aB rfl rfl rfl) ?_
 apply WM
 apply aC
 rfl
 intro hB; (try simp only [hB, bss, ctt]); exact aI rfl
 apply aC
 rfl
 intro hB; (try simp only [hB, bss, ctt]); exact rG rfl rfl rfl
 refine WQ (dS rfl rfl rfl) ?_
 refine Wk [1, 20] [7120, 7121] ?_
 (try dsimp)
 refine Ec h rfl (fun h hc5 => ?_) (fun h hc5 => ?_)
 apply Eso
 apply WM
 refine Wk [0] [] ?_
 (try dsimp)
 apply bI
 cases h
 (try simp only [qt, qb, qn])
 refine aT (xs := _) ⟨_, rfl, rfl⟩ ?_
 rfl
 apply bG
 refine bf [1] [7120, 7121] ?_
 (try dsimp)
 apply Eso
 apply WM
 obtain ⟨x6, x6h, h⟩ := aN h
 rcases wX h with ⟨o7e, h⟩ | ⟨o7, o7e, h⟩
 refine W1 (dL [(100900, 7121), (100901, 7120)] false hP (wY o7e (qc F o3 x6 x6h)) rfl ⟨rfl, rfl, trivial⟩ rfl rfl rfl rfl rfl (fun h => by first | rfl | cases h) rfl) ?_
 (try dsimp)
 apply WM
 refine WQ (bD rfl rfl) ?_
 refine WQ (bD rfl rfl) ?_
 apply WM
 apply WM
 refine Wk [1, 3, 4] [7120, 7121] ?_
 (try dsimp)
 apply bP
 apply Eso
 apply WM
 refine WQ (aB rfl rfl rfl) ?_
 apply WM
 apply aC
 rfl
 intro hB; (try simp only [hB, bss, ctt]); exact aI rfl
 apply aC
 rfl
 intro hB; (try simp only [hB, bss, ctt]); exact xk rfl rfl
 refine WQ (dS rfl rfl rfl) ?_
 refine Wk [1, 3, 31] [7120, 7121] ?_
 (try dsimp)
 refine Ec h rfl (fun h hc8 => ?_) (fun h hc8 => ?_)
 apply Eso
 apply WM
 refine Wk [0] [] ?_
 (try dsimp)
 apply bI
 cases h
 (try simp only [qt, qb, qn])
 refine aT (xs := _) ⟨_, rfl, rfl⟩ ?_
 rfl
 apply bG
 refine bf [1, 3] [7120, 7121] ?_
 (try dsimp)
 apply Eso
 apply WM
 cases h
 refine W1 (dL [(100900, 7121), (100901, 7120), (7360, 7230), (7361, 7231), (7362, 7232)] false hP (wZ o7e (qc F o3 x6 x6h)) rfl ⟨rfl, rfl, trivial⟩ rfl rfl rfl rfl rfl (fun h => by first | rfl | cases h) rfl) ?_
 (try dsimp)
 apply WM
 refine WQ (bD rfl rfl) ?_
 refine WQ (bD rfl rfl) ?_
 apply WM
 apply WM
 refine Wk [1, 3, 4] [7120, 7121, 7230, 7231, 7232] ?_
 (try dsimp)
 apply bP
 apply Eso
 apply WM
 refine WQ (aB rfl rfl rfl) ?_
 apply WM
 apply aC
 rfl
 intro hB; (try simp only [hB, bss, ctt]); exact aI rfl
 apply aC
 rfl
 intro hB; (try simp only [hB, bss, ctt]); exact rG rfl rfl rfl
 refine WQ (dS rfl rfl rfl) ?_
 refine Wk [1, 3, 31] [7120, 7121, 7230, 7231, 7232] ?_
 (try dsimp)
 refine Ec h rfl (fun h hc9 => ?_) (fun h hc9 => ?_)
 apply Eso
 apply WM
 refine Wk [0] [] ?_
 (try dsimp)
 apply bI
 cases h
 (try simp only [qt, qb, qn])
 refine aT (xs := _) ⟨_, rfl, rfl⟩ ?_
 rfl
 apply bG
 refine bf [1, 3] [7120, 7121, 7230, 7231, 7232] ?_
 (try dsimp)
 apply Eso
 apply WM
 obtain ⟨x10, Fg, h⟩ := aN h
 refine W1 (dL [(100900, 7231), (100950, 7121), (100951, 7120), (100903, 7230), (904, 7232)] false hP (F6 F (⟨x6.1, o7.lT, o7.xw, o7.jB, o7.nP⟩ : eF) x10 Fg) rfl ⟨rfl, rfl, rfl, rfl, rfl, trivial⟩ rfl rfl rfl rfl rfl (fun h => by first | rfl | cases h) rfl) ?_
 (try dsimp)
 apply WM
 refine WQ (bD rfl rfl) ?_
 refine WQ (bD rfl rfl) ?_
 refine W1 (dw rfl rfl) ?_
 refine W1 dst ?_
 apply WM
 refine Wk [1, 5, 6] [5, 7120, 7121] ?_
 (try dsimp)
 apply Eso
 obtain ⟨x11, XR, h⟩ := aN h
 refine W1 (aF hP (Hu F  x11 XR) rfl rfl rfl) ?_
 obtain ⟨x12, Vq, h⟩ := aN h
 refine W1 (aF hP (HY F x11 (64 : Int) x12 Vq) rfl rfl rfl) ?_
 apply WM
 refine WQ (bD rfl rfl) ?_
 refine WQ (bD rfl rfl) ?_
 refine W1 (dw rfl rfl) ?_
 refine W1 dst ?_
 apply WM
 refine Wk [1, 5, 6, 7] [5, 7, 7120, 7121] ?_
 (try dsimp)
 apply Eso
 apply WM
 obtain ⟨x13, Ed, h⟩ := aN h
 refine W1 (Does.ghost (mM (r := 7121) rfl (by simp [aG, aP, aH] : (⟨false, [.own 7120 0 (⟨x6.1, o7.lT, o7.xw, o7.jB, o7.nP⟩ : eF).xm.xl.length (some (18, 86)), vb (⟨x6.1, o7.lT, o7.xw, o7.jB, o7.nP⟩ : eF).xm.gB, vi (⟨x6.1, o7.lT, o7.xw, o7.jB, o7.nP⟩ : eF).xm.dA, vi (⟨x6.1, o7.lT, o7.xw, o7.jB, o7.nP⟩ : eF).xm.dO, .sl (flat bT (⟨x6.1, o7.lT, o7.xw, o7.jB, o7.nP⟩ : eF).xm.dN) (⟨x6.1, o7.lT, o7.xw, o7.jB, o7.nP⟩ : eF).xm.dN.length]⟩ : Reg) = (⟨false, [.own 7120 0 ((⟨x6.1, o7.lT, o7.xw, o7.jB, o7.nP⟩ : eF).xm.xl).length (some (18, 86)), vb (⟨x6.1, o7.lT, o7.xw, o7.jB, o7.nP⟩ : eF).xm.gB, vi (⟨x6.1, o7.lT, o7.xw, o7.jB, o7.nP⟩ : eF).xm.dA, vi (⟨x6.1, o7.lT, o7.xw, o7.jB, o7.nP⟩ : eF).xm.dO, .sl (flat bT (⟨x6.1, o7.lT, o7.xw, o7.jB, o7.nP⟩ : eF).xm.dN) (⟨x6.1, o7.lT, o7.xw, o7.jB, o7.nP⟩ : eF).xm.dN.length]⟩ : Reg))).b (dL [(100900, 7121), (100901, 7120)] false hP (lS F ((⟨x6.1, o7.lT, o7.xw, o7.jB, o7.nP⟩ : eF).xm) x13 Ed) rfl ⟨rfl, rfl, trivial⟩ rfl rfl rfl rfl rfl (fun h => by first | rfl | cases h) rfl)) ?_
 (try dsimp)
 apply WM
 refine Wk [5, 6, 7, 9] [5, 7] ?_
 (try dsimp)
 apply Eso
 apply WM
 refine WQ (aB rfl rfl rfl) ?_
 apply WM
 apply aC
 rfl
 intro hB; (try simp only [hB, bss, ctt]); exact qlA
 apply aC
 rfl
 intro hB; (try simp only [hB, bss, ctt]); exact qlA
 obtain ⟨x14, QH, h⟩ := aN h
 apply jk
 rfl
 intro hB; (try simp only [hB, bss, ctt]); exact aF hP (Po F x10.1 x12.1 x14 (jW QH (bt hB))) rfl rfl rfl
 refine WQ (dK rfl rfl rfl) ?_
 apply WM
 apply aC
 rfl
 intro hB; (try simp only [hB, bss, ctt]); exact aI rfl
 apply aC
 rfl
 intro hB; (try simp only [hB, bss, ctt]); exact bM rfl
 apply aC
 rfl
 intro hB; (try simp only [hB, bss, ctt]); exact aB rfl rfl rfl
 refine WQ (dK rfl rfl rfl) ?_
 apply WM
 apply aC
 rfl
 intro hB; (try simp only [hB, bss, ctt]); exact aI rfl
 obtain ⟨g15, h⟩ := aV h
 apply aC
 rfl
 intro hB; (try simp only [hB, bss, ctt]); exact aX rfl rfl (g15 hB).1 (g15 hB).2
 apply aC
 rfl
 intro hB; (try simp only [hB, bss, ctt]); exact aZ (k := 1) rfl (fun _ => rfl) (g15 hB) 0 rfl rfl
 apply aC
 rfl
 intro hB; (try simp only [hB, bss, ctt]); exact aB rfl rfl rfl
 refine WQ (dK rfl rfl rfl) ?_
 apply WM
 apply aC
 rfl
 intro hB; (try simp only [hB, bss, ctt]); exact aI rfl
 obtain ⟨x16, adI, h⟩ := aN h
 apply jk
 rfl
 intro hB; (try simp only [hB, bss, ctt]); exact aF hP (Px F x13 x16 (jW adI (bt hB))) rfl rfl rfl
 refine WQ (dK rfl rfl rfl) ?_
 apply WM
 refine Wk [0] [] ?_
 (try dsimp)
 apply bI
 cases h
 (try simp only [qt, qb, qn])
 refine aT (xs := _) ⟨_, rfl, rfl⟩ ?_
 rfl
def yj : dJ := (.seq (.ops [(o (.box 27 (t 0)) 3), (o (.mv (cb false)) 6)]) (.seq (.seq (.ops [(o (.add 3 (t 3)) 8), (o (.load false 1 (t 8)) 9), (o (.len false (t 9)) 10), (o (.bin .gtr 3 (t 10) (ci 100)) 11), (w 12 11), (g_ (.add 4 (t 3)) 13 12 false), (g_ (.load false 1 (t 13)) 14 12 false), (g_ (.len false (t 14)) 15 12 false), (g_ (.bin .gtr 3 (t 15) (ci 50)) 16 12 false), (o (.pick (t 12) (cb true) (t 16)) 17), (w 18 17), (g_ (.mv (t 1)) 19 18 false), (g_ (.len false (t 19)) 20 18 false), (g_ (.bin .gtr 3 (t 20) (ci 5)) 21 18 false), (o (.pick (t 18) (cb true) (t 21)) 22), (w 23 22), (g_ (.mv (t 2)) 24 23 false), (g_ (.len false (t 24)) 25 23 false), (g_ (.bin .gtr 3 (t 25) (ci 20)) 26 23 false), (o (.pick (t 23) (cb true) (t 26)) 27)]) (.cond (t 27) (.seq (.ops [(o (.mv (cb true)) 6)]) .ret) .skip)) (.seq (.seq (.ops [(o (.mv (ci 0)) 7)]) (.block 0 (.loop (.seq (.seq (.ops [(w 28 7), (w 29 1), (o (.len false (t 29)) 30), (o (.bin .lss 3 (t 28) (t 30)) 31)]) (.cond (t 31) .skip (.exit 0))) (.seq (.block 1 (.seq (.ops [(w 34 1), (w 35 7), (o (.gJ 10 (t 34) (t 35)) 36), (o (.add 9 (t 36)) 37), (o (.load false 1 (t 37)) 38), (o (.len false (t 38)) 39), (o (.bin .gtr 3 (t 39) (ci 600)) 40)]) (.cond (t 40) (.seq (.ops [(o (.mv (cb true)) 6)]) .ret) .skip))) (.ops [(w 32 7), (o (.bin .add 3 (t 32) (ci 1)) 33), (w 7 33)])))))) (.seq (.ops [(o (.mv (cb false)) 6)]) .ret))))
theorem Ez : Fits Tryz.prog 7 3 yj [(.tmp 6)] := cu Tryz.func7 (by kernel_rfl) (by kernel_rfl) (by kernel_rfl)
theorem EC (F : Nat) (a0 : aK) (a1 : (List bC)) (a2 : (List jg)) (r : Bool) (h : nY F a0 a1 a2 = some r) : PC Tryz.prog 7 [S.agg [vi a0.bH.ak, vi a0.bH.au, vi a0.bH.ay, sl aQ a0.au, sl aS a0.ay], ss gI a1, ss iW a2] (zb_ r) := by
 unfold nY at h
 refine fC Ez rfl rfl ?_
 intro C hP
 unfold yj; dsimp
 apply Eso
 refine W1 (eu rfl rfl rfl rfl) ?_
 apply WM
 refine Wk [1, 2, 3] [3] ?_
 (try dsimp)
 apply bP
 apply Eso
 refine WQ (ah rfl rfl) ?_
 refine WQ (aj rfl rfl rfl) ?_
 refine WQ (bM rfl) ?_
 refine WQ (aB rfl rfl rfl) ?_
 apply WM
 apply aC
 rfl
 intro hB; (try simp only [hB, bss, ctt]); exact ah rfl rfl
 apply aC
 rfl
 intro hB; (try simp only [hB, bss, ctt]); exact aj rfl rfl rfl
 apply aC
 rfl
 intro hB; (try simp only [hB, bss, ctt]); exact bM rfl
 apply aC
 rfl
 intro hB; (try simp only [hB, bss, ctt]); exact aB rfl rfl rfl
 refine WQ (dS rfl rfl rfl) ?_
 apply WM
 apply aC
 rfl
 intro hB; (try simp only [hB, bss, ctt]); exact aI rfl
 apply aC
 rfl
 intro hB; (try simp only [hB, bss, ctt]); exact bM rfl
 apply aC
 rfl
 intro hB; (try simp only [hB, bss, ctt]); exact aB rfl rfl rfl
 refine WQ (dS rfl rfl rfl) ?_
 apply WM
 apply aC
 rfl
 intro hB; (try simp only [hB, bss, ctt]); exact aI rfl
 apply aC
 rfl
 intro hB; (try simp only [hB, bss, ctt]); exact bM rfl
 apply aC
 rfl
 intro hB; (try simp only [hB, bss, ctt]); exact aB rfl rfl rfl
 refine WQ (dS rfl rfl rfl) ?_
 refine Wk [1, 27] [] ?_
 (try dsimp)
 refine Ec h rfl (fun h hc1 => ?_) (fun h hc1 => ?_)
 apply Eso
 apply WM
 refine Wk [6] [] ?_
 (try dsimp)
 apply bI
 cases h
 (try simp only [qt, qb, qn])
 refine aT (xs := _) ⟨_, rfl, rfl⟩ ?_
 rfl
 apply bG
 refine bf [1] [] ?_
 (try dsimp)
 obtain ⟨k2, k2d, h⟩ := fO h
 refine dV (α := Unit) (fun (i : Unit) => (⟨[], []⟩ : St)) (fun i => k2 () = some r) (fun i h => ?_) ?_
 rw [k2d] at h; dsimp only at h
 (try dsimp)
 apply Eso
 apply WM
 apply dn
 (try dsimp)
 apply bI
 cases h
 (try simp only [qt, qb, qn])
 refine aT (xs := _) ⟨_, rfl, rfl⟩ ?_
 rfl
 apply Eso
 apply WM
 apply dn
 (try dsimp)
 apply bW
 (try dsimp)
 refine fD (α := Int) (fun (i : Int) => (⟨[(1, ss gI a1), (7, (zi_ i))], []⟩ : St)) (fun n i => ji F a1 k2 n i = some r) F (0 : Int) h ?_ (fun n i h => ?_)
 exact (Le.b (bK ⟨rfl, rfl, trivial⟩ trivial))
 generalize i = v12 at h ⊢
 obtain _ | n13 := n
 cases h
 unfold ji at h
 (try dsimp)
 apply bP
 apply Eso
 apply WM
 apply WM
 refine WQ (bM rfl) ?_
 refine WQ (aB rfl rfl rfl) ?_
 refine Wk [1, 7, 31] [] ?_
 (try dsimp)
 refine Ec h rfl (fun h aaM => ?_) (fun h aaM => ?_)
 apply bG
 refine bf [1, 7] [] ?_
 (try dsimp)
 apply bP
 apply bW
 apply Eso
 apply WM
 apply WM
 obtain ⟨g15, h⟩ := aV h
 refine WQ (aX rfl rfl g15.1 g15.2) ?_
 refine WQ (nK rfl) ?_
 refine WQ (aZ (k := 10) rfl (fun _ => rfl) g15 9 rfl rfl) ?_
 refine WQ (bM rfl) ?_
 refine WQ (aB rfl rfl rfl) ?_
 refine Wk [1, 7, 40] [] ?_
 (try dsimp)
 refine Ec h rfl (fun h hc16 => ?_) (fun h hc16 => ?_)
 apply Eso
 apply WM
 refine Wk [6] [] ?_
 (try dsimp)
 apply bI
 cases h
 (try simp only [qt, qb, qn])
 refine aT (xs := _) ⟨_, rfl, rfl⟩ ?_
 rfl
 apply bG
 refine bf [1, 7] [] ?_
 (try dsimp)
 apply eP
 apply WM
 obtain ⟨g17, h⟩ := aV h
 refine WQ (cZ rfl rfl g17.1 g17.2) ?_
 apply WM
 apply dn
 refine ⟨n13, (v12 + (1 : Int)), Nat.lt_succ_self _, h, ?_⟩
 exact (Le.b (bK ⟨rfl, rfl, trivial⟩ trivial))
 apply gV
 refine ⟨(), h, ?_⟩
 exact (Le.b (bK trivial trivial))
def NC : dJ := (.seq (.ops [(o (.box 23 (t 0)) 2), (o (.box 57 (t 1)) 3), (o (.mv cn) 4)]) (.seq (.seq (.ops [(o (.load true 3 (t 2)) 10), (o (.load true 10 (t 3)) 11), (o (.call 64 [(t 10), (t 11)]) 12), (o (.un .not (t 12)) 13)]) (.cond (t 13) (.seq (.ops [(o (.mv cn) 4)]) .ret) .skip)) (.seq (.ops [(o (.load true 3 (t 2)) 15), (o (.call 30 [(t 15), (ci 0)]) 16), (w 14 16), (o (.ext 0 (t 14)) 17), (o (.ext 1 (t 14)) 18), (w 5 17), (w 6 18)]) (.seq (.ops [(w 19 6), (o (.mk 36 42 1 8 [zu] (t 19) (t 19)) 20), (w 7 20)]) (.seq (.ops [(w 21 7), (o (.load true 10 (t 3)) 22), (o (.call 65 [(t 22)]) 23), (o (.gJ 1 (t 21) (ci 0)) 24), (n_ (.store 1 (t 24) (t 23)))]) (.seq (.draw [((w 25 7), []), ((o (.slc 1 (t 25) (.some (ci 1)) .none .none) 26), [0]), ((o (.add 2 (t 3)) 27), []), ((o (.QF 1 4 (t 27) .none .none) 28), [2]), ((o (.copy 1 (t 26) (t 28)) 29), [1, 3])]) (.seq (.ops [(w 30 7), (o (.add 6 (t 3)) 31), (o (.add 1 (t 31)) 32), (o (.load false 1 (t 32)) 33), (o (.gJ 1 (t 30) (ci 5)) 34), (n_ (.store 1 (t 34) (t 33)))]) (.seq (.ops [(w 35 7), (o (.add 6 (t 3)) 36), (o (.add 2 (t 36)) 37), (o (.load false 1 (t 37)) 38), (o (.jF .u64 (t 38)) 39), (o (.gJ 1 (t 35) (ci 6)) 40), (n_ (.store 1 (t 40) (t 39)))]) (.seq (.seq (.ops [(o (.add 9 (t 3)) 41), (o (.load false 1 (t 41)) 42), (o (.len false (t 42)) 43), (o (.mv (ci 0)) 44)]) (.block 0 (.loop (.seq (.ops [(o (.bin .lss 3 (t 44) (t 43)) 45)]) (.seq (.cond (t 45) .skip (.exit 0)) (.seq (.block 1 (.seq (.ops [(w 46 44), (o (.gJ 2 (t 42) (t 44)) 47), (o (.load true 2 (t 47)) 48), (o (.jR [zi, zu]) 9), (w 8 46), (n_ (.store 2 (t 9) (t 48)))]) (.seq (.ops [(w 49 7), (w 50 8), (o (.bin .mul 3 (ci 2) (t 50)) 51), (o (.bin .add 3 (ci 8) (t 51)) 52), (o (.add 0 (t 9)) 53), (o (.load false 1 (t 53)) 54), (o (.jF .u64 (t 54)) 55), (o (.gJ 1 (t 49) (t 52)) 56), (n_ (.store 1 (t 56) (t 55)))]) (.ops [(w 57 7), (w 58 8), (o (.bin .mul 3 (ci 2) (t 58)) 59), (o (.bin .add 3 (ci 8) (t 59)) 60), (o (.bin .add 3 (t 60) (ci 1)) 61), (o (.add 1 (t 9)) 62), (o (.load false 1 (t 62)) 63), (o (.gJ 1 (t 57) (t 61)) 64), (n_ (.store 1 (t 64) (t 63)))])))) (.ops [(o (.bin .add 3 (t 44) (ci 1)) 65), (w 44 65)]))))))) (.seq (.ops [(w 66 7), (w 4 66)]) .ret))))))))))
theorem VG : Fits Tryz.prog 31 2 NC [(.tmp 4)] := cu Tryz.func31 (by kernel_rfl) (by kernel_rfl) (by kernel_rfl)
theorem VH (F : Nat) (a0 : bg) (a1 : bC) (r : (List Int)) (h : zh F a0 a1 = some r) : PC Tryz.prog 31 [S.agg [vi a0.ak, vi a0.au, vi a0.ay], S.agg [vi a1.bY, vu a1.lF, vu a1.xL.c0, vu a1.xL.c1, vu a1.xL.c2, vu a1.xL.c3, vi a1.dh.lW, vu a1.dh.xW, vi a1.dh.xN, sl bZ a1.xW]] (ss cO r) := by
 unfold zh at h
 refine fC VG rfl rfl ?_
 intro C hP
 unfold NC; dsimp
 apply Eso
 refine W1 (eu rfl rfl rfl rfl) ?_
 refine W1 (eu rfl rfl rfl rfl) ?_
 apply WM
 refine Wk [2, 3] [2, 3] ?_
 (try dsimp)
 apply bP
 apply Eso
 refine WQ qlA ?_
 refine WQ qlA ?_
 obtain ⟨x1, x1h, h⟩ := aN h
 refine W1 (aF hP (KN F a0 a1 x1 x1h) rfl rfl rfl) ?_
 refine WQ (dM rfl) ?_
 refine Wk [2, 3, 13] [2, 3] ?_
 (try dsimp)
 refine Ec h rfl (fun h hc2 => ?_) (fun h hc2 => ?_)
 apply Eso
 apply WM
 refine Wk [4] [] ?_
 (try dsimp)
 refine fA (FP (i := 4) rfl).b ?_
 (try dsimp)
 apply bI
 cases h
 (try simp only [qt, qb, qn])
 refine aT (xs := _) ⟨_, rfl, rfl⟩ ?_
 rfl
 apply bG
 refine bf [2, 3] [2, 3] ?_
 (try dsimp)
 apply Eso
 refine WQ qlA ?_
 obtain ⟨x3, x3h, h⟩ := aN h
 refine W1 (aF hP (sW F a0 (0 : Int) x3 x3h) rfl rfl rfl) ?_
 apply WM
 refine WQ (bD rfl rfl) ?_
 refine WQ (bD rfl rfl) ?_
 apply WM
 apply WM
 refine Wk [3, 6] [3] ?_
 (try dsimp)
 apply Eso
 apply WM
 obtain ⟨g4, h⟩ := aV h
 refine W1 (nD (e := cO) (0 : Int) rfl rfl rfl (fun _ => rfl) g4.1 g4.2.1 g4.2.2.1 g4.2.2.2 rfl) ?_
 apply WM
 refine Wk [3, 7] [3, 20] ?_
 (try dsimp)
 apply Eso
 apply WM
 refine WQ qlA ?_
 obtain ⟨x5, x5h, h⟩ := aN h
 refine W1 (aF hP (Iy F a1 x5 x5h) rfl rfl rfl) ?_
 obtain ⟨g6, h⟩ := aV h
 refine WQ (fZ rfl rfl rfl g6.1 g6.2) ?_
 refine W1 (eU (e := cO) (n := 1) (k := 1) rfl rfl (fun _ => rfl) g6 0 (by omega) rfl rfl rfl (by decide) x5 rfl (by decide) rfl) ?_
 refine Wk [3, 7] [3, 20] ?_
 (try dsimp)
 apply bP
 obtain ⟨g7, h⟩ := aV h
 obtain ⟨g8, h⟩ := aV h
 refine iY [0, 1, 2, 3] ?_
 refine XQ 0 rfl rfl rfl (aI rfl) ?_
 refine XQ 1 rfl rfl rfl (wW rfl rfl rfl rfl g7.1 g7.2.1 g7.2.2) ?_
 refine XQ 2 rfl rfl rfl (ah rfl rfl) ?_
 refine XQ 3 rfl rfl rfl (rX rfl rfl rfl rfl (by decide) (by decide) (by decide) (List.cons_ne_nil _ _)) ?_
 refine X1 rfl (XT rfl rfl (zN rfl rfl (fun _ => rfl) (fun _ => rfl) rfl (Src.part (e := cO) ([a1.xL.c0, a1.xL.c1, a1.xL.c2, a1.xL.c3] : List Int) rfl (fun _ => rfl) rfl rfl) g8) ?_)
 refine ig rfl ?_
 refine bf [3, 7] [3, 20] ?_
 (try dsimp)
 apply Eso
 apply WM
 refine WQ (ah rfl rfl) ?_
 refine WQ (ah rfl rfl) ?_
 refine WQ (aj rfl rfl rfl) ?_
 obtain ⟨g9, h⟩ := aV h
 refine WQ (fZ rfl rfl rfl g9.1.1 g9.2) ?_
 refine W1 (eU (e := cO) (n := 1) (k := 1) rfl rfl (fun _ => rfl) g9.1 0 (by omega) rfl rfl rfl (by decide) a1.dh.xW rfl (by decide) rfl) ?_
 refine Wk [3, 7] [3, 20] ?_
 (try dsimp)
 apply Eso
 apply WM
 refine WQ (ah rfl rfl) ?_
 refine WQ (ah rfl rfl) ?_
 refine WQ (aj rfl rfl rfl) ?_
 refine WQ (dF rfl) ?_
 obtain ⟨g10, h⟩ := aV h
 refine WQ (fZ rfl rfl rfl g10.1.1 g10.2) ?_
 refine W1 (eU (e := cO) (n := 1) (k := 1) rfl rfl (fun _ => rfl) (by first | exact g10.1 | exact kX.1 g10.1 | simpa only [kX] using g10.1) 0 (by omega) rfl rfl rfl (by decide) (IntKind.u64.wrap a1.dh.xN) rfl (by decide) rfl) ?_
 refine Wk [3, 7] [3, 20] ?_
 (try dsimp)
 obtain ⟨k12, O9, h⟩ := fO h
 refine dV (α := (List Int)) (fun (i : (List Int)) => (⟨[(7, S.one (.own 20 0 i.length (some (1, 42))))], [(20, (⟨true, flat cO i⟩ : Reg))]⟩ : St)) (fun i => k12 i = some r) (fun i h => ?_) ?_
 let iv := i; change k12 i = some r at h; generalize i = v11 at h ⊢
 rw [O9] at h; dsimp only at h
 (try dsimp)
 apply Eso
 apply WM
 apply WM
 refine Wk [4] [20] ?_
 (try dsimp)
 refine fA (l7 (r := 20) rfl rfl).b ?_
 (try dsimp)
 apply bI
 cases h
 (try simp only [qt, qb, qn])
 refine aT (xs := _) ⟨_, rfl, rfl⟩ ?_
 rfl
 apply Eso
 refine WQ (ah rfl rfl) ?_
 refine WQ (aj rfl rfl rfl) ?_
 refine WQ (bM rfl) ?_
 apply WM
 refine Wk [7, 42, 43, 44] [20] ?_
 (try dsimp)
 apply bW
 (try dsimp)
 refine fD (α := Int × (List Int)) (fun (i : Int × (List Int)) => (⟨[(7, S.one (.own 20 0 i.2.length (some (1, 42)))), (42, ss bZ a1.xW), (43, (zi_ ((a1.xW.length : Nat) : Int))), (44, (zi_ i.1))], [(20, (⟨true, flat cO i.2⟩ : Reg))]⟩ : St)) (fun n i => nJ F a1 k12 n i.1 i.2 = some r) F ((0 : Int), (jl (jl (cpy (jl (List.replicate x3.2.toNat (0 : Int)) (0 : Int) x5) (0 + (1 : Int).toNat * 1) ((((List.replicate x3.2.toNat (0 : Int)).length : Nat) : Int).toNat - (1 : Int).toNat) ([a1.xL.c0, a1.xL.c1, a1.xL.c2, a1.xL.c3] : List Int)) (5 : Int) a1.dh.xW) (6 : Int) (IntKind.u64.wrap a1.dh.xN))) h ?_ (fun n i h => ?_)
 refine iZ (mV (i := 7) _ rfl (by simp [aG, aP, aH] : (List.replicate x3.2.toNat (0 : Int)).length = (jl (jl (cpy (jl (List.replicate x3.2.toNat (0 : Int)) (0 : Int) x5) (0 + (1 : Int).toNat * 1) ((((List.replicate x3.2.toNat (0 : Int)).length : Nat) : Int).toNat - (1 : Int).toNat) ([a1.xL.c0, a1.xL.c1, a1.xL.c2, a1.xL.c3] : List Int)) (5 : Int) a1.dh.xW) (6 : Int) (IntKind.u64.wrap a1.dh.xN)).length)).b ?_
 exact (Le.b (bK ⟨rfl, rfl, rfl, rfl, trivial⟩ ⟨rfl, trivial⟩))
 obtain ⟨v35, v36⟩ := i; dsimp only at h
 obtain _ | n37 := n
 cases h
 unfold nJ at h
 (try dsimp)
 apply Eso
 refine WQ (aB rfl rfl rfl) ?_
 apply dn
 (try dsimp)
 apply bP
 refine Ec h rfl (fun h hc38 => ?_) (fun h hc38 => ?_)
 apply bG
 refine bf [7, 42, 43, 44] [20] ?_
 (try dsimp)
 apply bP
 apply bW
 apply Eso
 apply WM
 obtain ⟨g39, h⟩ := aV h
 refine WQ (aX rfl rfl g39.1 g39.2) ?_
 refine WQ (dX (k := 2) rfl (fun _ => rfl) g39 0 rfl rfl rfl) ?_
 refine W1 (dw rfl rfl) ?_
 apply WM
 refine W1 dst ?_
 refine Wk [7, 8, 9, 42, 43, 44] [9, 20] ?_
 (try dsimp)
 apply Eso
 apply WM
 apply WM
 obtain ⟨g40, h⟩ := aV h
 refine WQ (nC rfl rfl g40.1 g40.2) ?_
 obtain ⟨g41, h⟩ := aV h
 refine WQ (cZ rfl rfl g41.1 g41.2) ?_
 refine WQ (ah rfl rfl) ?_
 refine WQ (aj rfl rfl rfl) ?_
 refine WQ (dF rfl) ?_
 obtain ⟨g42, h⟩ := aV h
 refine WQ (fZ rfl rfl rfl g42.1 g42.2) ?_
 refine W1 (eU (e := cO) (n := 1) (k := 1) rfl rfl (fun _ => rfl) g42 0 (by omega) rfl rfl rfl (by decide) (IntKind.u64.wrap (nth a1.xW v35).xAt) rfl (by decide) rfl) ?_
 refine Wk [7, 8, 9, 42, 43, 44] [9, 20] ?_
 (try dsimp)
 apply eP
 apply WM
 apply WM
 obtain ⟨g43, h⟩ := aV h
 refine WQ (nC rfl rfl g43.1 g43.2) ?_
 obtain ⟨g44, h⟩ := aV h
 refine WQ (cZ rfl rfl g44.1 g44.2) ?_
 obtain ⟨g45, h⟩ := aV h
 refine WQ (cZ rfl rfl g45.1 g45.2) ?_
 refine WQ (ah rfl rfl) ?_
 refine WQ (aj rfl rfl rfl) ?_
 obtain ⟨g46, h⟩ := aV h
 refine WQ (fZ rfl rfl rfl g46.1 g46.2) ?_
 refine W1 (eU (e := cO) (n := 1) (k := 1) rfl rfl (fun _ => rfl) (by first | exact g46 | exact kX.1 g46 | simpa only [kX] using g46) 0 (by omega) rfl rfl rfl (by decide) ((nth a1.xW v35).xV) rfl (by decide) rfl) ?_
 refine Wk [7, 42, 43, 44] [20] ?_
 (try dsimp)
 apply eP
 obtain ⟨g47, h⟩ := aV h
 refine WQ (cZ rfl rfl g47.1 g47.2) ?_
 apply WM
 apply dn
 refine ⟨n37, ((v35 + (1 : Int)), (jl (jl v36 ((8 : Int) + ((2 : Int) * v35)) (IntKind.u64.wrap (nth a1.xW v35).xAt)) (((8 : Int) + ((2 : Int) * v35)) + (1 : Int)) ((nth a1.xW v35).xV))), Nat.lt_succ_self _, h, ?_⟩
 refine iZ (mV (i := 7) _ rfl (by simp [aG, aP, aH] : v36.length = (jl (jl v36 ((8 : Int) + ((2 : Int) * v35)) (IntKind.u64.wrap (nth a1.xW v35).xAt)) (((8 : Int) + ((2 : Int) * v35)) + (1 : Int)) ((nth a1.xW v35).xV)).length)).b ?_
 exact (Le.b (bK ⟨rfl, rfl, rfl, rfl, trivial⟩ ⟨rfl, trivial⟩))
 apply gV
 refine ⟨v36, h, ?_⟩
 exact (Le.b (bK ⟨rfl, trivial⟩ ⟨rfl, trivial⟩))
def wJ : dJ := (.seq (.ops [(o (.box 27 (t 0)) 3), (o (.mv cn) 6)]) (.seq (.ops [(o (.kK 1 42 0 [] []) 14), (o (.load true 5 (t 3)) 15), (o (.call 29 [(t 15), (.const (.int .u64 3))]) 16), (o (.app 36 42 1 8 (t 14) (t 16)) 17), (w 7 17)]) (.seq (.seq (.ops [(o (.mv (ci 0)) 8)]) (.block 0 (.loop (.seq (.seq (.ops [(w 18 8), (w 19 1), (o (.len false (t 19)) 20), (o (.bin .lss 3 (t 18) (t 20)) 21)]) (.cond (t 21) .skip (.exit 0))) (.seq (.block 1 (.seq (.ops [(o (.add 0 (t 3)) 25), (o (.load true 3 (t 25)) 26), (w 27 8), (o (.call 30 [(t 26), (t 27)]) 28), (w 24 28), (o (.ext 0 (t 24)) 29), (o (.ext 1 (t 24)) 30), (w 9 29), (w 10 30)]) (.seq (.draw [((o (.add 0 (t 3)) 31), []), ((o (.load true 3 (t 31)) 32), [0]), ((w 33 1), []), ((w 34 8), []), ((o (.gJ 10 (t 33) (t 34)) 35), [2, 3]), ((o (.load true 10 (t 35)) 36), [4]), ((o (.call 31 [(t 32), (t 36)]) 37), [1, 5]), ((w 11 37), [6, 6, 0, 1, 2, 3, 4, 5, 6])]) (.seq (.seq (.ops [(w 38 11), (o (.len false (t 38)) 39), (w 40 10), (o (.bin .neq 3 (t 39) (t 40)) 41), (w 42 41), (g_ (.mv (t 10)) 43 42 false), (g_ (.bin .eql 3 (t 43) (ci 0)) 44 42 false), (o (.pick (t 42) (cb true) (t 44)) 45), (w 46 45), (g_ (.mv (t 9)) 47 46 false), (g_ (.mv (t 10)) 48 46 false), (g_ (.bin .add 3 (t 47) (t 48)) 49 46 false), (g_ (.mv (t 7)) 50 46 false), (g_ (.len false (t 50)) 51 46 false), (g_ (.bin .gtr 3 (t 49) (t 51)) 52 46 false), (o (.pick (t 46) (cb true) (t 52)) 53)]) (.cond (t 53) (.exit 1) .skip)) (.seq (.ops [(o (.mv (ci 0)) 12)]) (.block 2 (.loop (.seq (.seq (.ops [(w 54 12), (w 55 10), (o (.bin .lss 3 (t 54) (t 55)) 56)]) (.cond (t 56) .skip (.exit 2))) (.seq (.block 3 (.ops [(w 59 7), (w 60 9), (w 61 12), (o (.bin .add 3 (t 60) (t 61)) 62), (w 63 11), (w 64 12), (o (.gJ 1 (t 63) (t 64)) 65), (o (.load false 1 (t 65)) 66), (o (.gJ 1 (t 59) (t 62)) 67), (n_ (.store 1 (t 67) (t 66)))])) (.ops [(w 57 12), (o (.bin .add 3 (t 57) (ci 1)) 58), (w 12 58)])))))))))) (.ops [(w 22 8), (o (.bin .add 3 (t 22) (ci 1)) 23), (w 8 23)])))))) (.seq (.seq (.ops [(o (.mv (ci 0)) 13)]) (.block 4 (.loop (.seq (.seq (.ops [(w 68 13), (w 69 2), (o (.len false (t 69)) 70), (o (.bin .lss 3 (t 68) (t 70)) 71)]) (.cond (t 71) .skip (.exit 4))) (.seq (.block 5 (.seq (.ops [(w 74 2), (w 75 13), (o (.gJ 2 (t 74) (t 75)) 76), (o (.add 0 (t 76)) 77), (o (.load false 1 (t 77)) 78), (o (.bin .geq 3 (t 78) (ci 0)) 79), (w 80 79), (g_ (.mv (t 2)) 81 80 true), (g_ (.mv (t 13)) 82 80 true), (g_ (.gJ 2 (t 81) (t 82)) 83 80 true), (g_ (.add 0 (t 83)) 84 80 true), (g_ (.load false 1 (t 84)) 85 80 true), (g_ (.mv (t 7)) 86 80 true), (g_ (.len false (t 86)) 87 80 true), (g_ (.bin .lss 3 (t 85) (t 87)) 88 80 true), (o (.pick (t 80) (t 88) (cb false)) 89)]) (.cond (t 89) (.draw [((w 90 7), []), ((w 91 2), []), ((w 92 13), []), ((o (.gJ 2 (t 91) (t 92)) 93), [1, 2]), ((o (.add 0 (t 93)) 94), [3]), ((o (.load false 1 (t 94)) 95), [4]), ((w 96 2), []), ((w 97 13), []), ((o (.gJ 2 (t 96) (t 97)) 98), [6, 7]), ((o (.add 1 (t 98)) 99), [8]), ((o (.load false 1 (t 99)) 100), [9]), ((o (.gJ 1 (t 90) (t 95)) 101), [0, 5, 0, 1, 2, 3, 4, 5, 6, 7, 8, 9, 10]), ((n_ (.store 1 (t 101) (t 100))), [11, 10, 0, 1, 2, 3, 4, 5, 6, 7, 8, 9, 10])]) .skip))) (.ops [(w 72 13), (o (.bin .add 3 (t 72) (ci 1)) 73), (w 13 73)])))))) (.seq (.ops [(w 102 7), (w 6 102)]) .ret)))))
theorem Dv : Fits Tryz.prog 9 3 wJ [(.tmp 6)] := cu Tryz.func9 (by kernel_rfl) (by kernel_rfl) (by kernel_rfl)
theorem Dw (F : Nat) (a0 : aK) (a1 : (List bC)) (a2 : (List jg)) (r : (List Int)) (h : ny F a0 a1 a2 = some r) : PC Tryz.prog 9 [S.agg [vi a0.bH.ak, vi a0.bH.au, vi a0.bH.ay, sl aQ a0.au, sl aS a0.ay], ss gI a1, ss iW a2] (ss cO r) := by
 unfold ny at h
 refine fC Dv rfl rfl ?_
 intro C hP
 unfold wJ; dsimp
 apply Eso
 refine W1 (eu rfl rfl rfl rfl) ?_
 apply WM
 refine Wk [1, 2, 3] [3] ?_
 (try dsimp)
 apply Eso
 refine W1 (dY rfl rfl rfl rfl) ?_
 refine WQ qlA ?_
 obtain ⟨x1, x1h, h⟩ := aN h
 refine W1 (aF hP (Ih F a0 (3 : Int) x1 x1h) rfl rfl rfl) ?_
 obtain ⟨g2, h⟩ := aV h
 refine W1 (Does.ghost (mM (r := 14) (g' := (⟨true, flat cO ([] : List Int)⟩ : Reg)) rfl rfl).b (jc (e := cO) rfl rfl (fun _ => rfl) (fun _ => rfl) rfl (Src.slF x1 (fun _ => rfl)) g2 rfl)) ?_
 apply WM
 refine Wk [1, 2, 3, 7] [3, 14] ?_
 (try dsimp)
 obtain ⟨k4, k4d, h⟩ := fO h
 refine dV (α := (List Int)) (fun (i : (List Int)) => (⟨[(2, ss iW a2), (7, S.one (.own 14 0 i.length (some (1, 42))))], [(14, (⟨true, flat cO i⟩ : Reg))]⟩ : St)) (fun i => k4 i = some r) (fun i h => ?_) ?_
 let iv := i; change k4 i = some r at h; generalize i = v3 at h ⊢
 rw [k4d] at h; dsimp only at h
 (try dsimp)
 obtain ⟨k6, k6d, h⟩ := fO h
 refine dV (α := (List Int)) (fun (i : (List Int)) => (⟨[(7, S.one (.own 14 0 i.length (some (1, 42))))], [(14, (⟨true, flat cO i⟩ : Reg))]⟩ : St)) (fun i => k6 i = some r) (fun i h => ?_) ?_
 let iv := i; change k6 i = some r at h; generalize i = v5 at h ⊢
 rw [k6d] at h; dsimp only at h
 (try dsimp)
 apply Eso
 apply WM
 apply WM
 refine Wk [6] [14] ?_
 (try dsimp)
 refine fA (l7 (r := 14) rfl rfl).b ?_
 (try dsimp)
 apply bI
 cases h
 (try simp only [qt, qb, qn])
 refine aT (xs := _) ⟨_, rfl, rfl⟩ ?_
 rfl
 apply Eso
 apply WM
 apply dn
 (try dsimp)
 apply bW
 (try dsimp)
 refine fD (α := Int × (List Int)) (fun (i : Int × (List Int)) => (⟨[(2, ss iW a2), (7, S.one (.own 14 0 i.2.length (some (1, 42)))), (13, (zi_ i.1))], [(14, (⟨true, flat cO i.2⟩ : Reg))]⟩ : St)) (fun n i => gZ F a2 k6 n i.1 i.2 = some r) F ((0 : Int), v3) h ?_ (fun n i h => ?_)
 exact (Le.b (bK ⟨rfl, rfl, rfl, trivial⟩ ⟨rfl, trivial⟩))
 obtain ⟨v29, v30⟩ := i; dsimp only at h
 obtain _ | n31 := n
 cases h
 unfold gZ at h
 (try dsimp)
 apply bP
 apply Eso
 apply WM
 apply WM
 refine WQ (bM rfl) ?_
 refine WQ (aB rfl rfl rfl) ?_
 refine Wk [2, 7, 13, 71] [14] ?_
 (try dsimp)
 refine Ec h rfl (fun h hc32 => ?_) (fun h hc32 => ?_)
 apply bG
 refine bf [2, 7, 13] [14] ?_
 (try dsimp)
 obtain ⟨k34, adJ, h⟩ := fO h
 refine dV (α := (List Int)) (fun (i : (List Int)) => (⟨[(2, ss iW a2), (7, S.one (.own 14 0 i.length (some (1, 42)))), (13, (zi_ v29))], [(14, (⟨true, flat cO i⟩ : Reg))]⟩ : St)) (fun i => k34 i = some r) (fun i h => ?_) ?_
 let iv := i; change k34 i = some r at h; generalize i = v33 at h ⊢
 rw [adJ] at h; dsimp only at h
 (try dsimp)
 apply eP
 apply WM
 obtain ⟨g35, h⟩ := aV h
 refine WQ (cZ rfl rfl g35.1 g35.2) ?_
 apply WM
 apply dn
 refine ⟨n31, ((v29 + (1 : Int)), v33), Nat.lt_succ_self _, h, ?_⟩
 exact (Le.b (bK ⟨rfl, rfl, rfl, trivial⟩ ⟨rfl, trivial⟩))
 apply bW
 apply Eso
 apply WM
 apply WM
 obtain ⟨g36, h⟩ := aV h
 refine WQ (aX rfl rfl g36.1 g36.2) ?_
 refine WQ (nK rfl) ?_
 refine WQ (aZ (k := 2) rfl (fun _ => rfl) g36 0 rfl rfl) ?_
 refine WQ (aB rfl rfl rfl) ?_
 apply WM
 apply aC
 rfl
 intro hB; (try simp only [hB, bss, ctt]); exact aI rfl
 apply aC
 rfl
 intro hB; (try simp only [hB, bss, ctt]); exact aI rfl
 obtain ⟨g37, h⟩ := aV h
 apply aC
 rfl
 intro hB; (try simp only [hB, bss, ctt]); exact aX rfl rfl (g37 hB).1 (g37 hB).2
 apply aC
 rfl
 intro hB; (try simp only [hB, bss, ctt]); exact nK rfl
 apply aC
 rfl
 intro hB; (try simp only [hB, bss, ctt]); exact aZ (k := 2) rfl (fun _ => rfl) (g37 hB) 0 rfl rfl
 apply aC
 rfl
 intro hB; (try simp only [hB, bss, ctt]); exact aI rfl
 apply aC
 rfl
 intro hB; (try simp only [hB, bss, ctt]); exact kE rfl rfl
 apply aC
 rfl
 intro hB; (try simp only [hB, bss, ctt]); exact aB rfl rfl rfl
 refine WQ (dK rfl rfl rfl) ?_
 refine Wk [2, 7, 13, 89] [14] ?_
 (try dsimp)
 refine Ec h rfl (fun h hc38 => ?_) (fun h hc38 => ?_)
 obtain ⟨g39, h⟩ := aV h
 obtain ⟨g40, h⟩ := aV h
 obtain ⟨g41, h⟩ := aV h
 refine iY [0, 1, 2, 3, 4, 5, 6, 7, 8, 9, 10, 11] ?_
 refine XQ 0 rfl rfl rfl (aI rfl) ?_
 refine XQ 1 rfl rfl rfl (aI rfl) ?_
 refine XQ 2 rfl rfl rfl (aI rfl) ?_
 refine XQ 3 rfl rfl rfl (aX rfl rfl g39.1 g39.2) ?_
 refine XQ 4 rfl rfl rfl (nK rfl) ?_
 refine XQ 5 rfl rfl rfl (aZ (k := 2) rfl (fun _ => rfl) g39 0 rfl rfl) ?_
 refine XQ 6 rfl rfl rfl (aI rfl) ?_
 refine XQ 7 rfl rfl rfl (aI rfl) ?_
 refine XQ 8 rfl rfl rfl (aX rfl rfl g40.1 g40.2) ?_
 refine XQ 9 rfl rfl rfl (nK rfl) ?_
 refine XQ 10 rfl rfl rfl (aZ (k := 2) rfl (fun _ => rfl) g40 1 rfl rfl) ?_
 refine XQ 11 rfl rfl rfl (fZ rfl rfl rfl g41.1 g41.2) ?_
 (try dsimp)
 refine X1 rfl (XT rfl rfl (eU (e := cO) (n := 1) (k := 1) rfl rfl (fun _ => rfl) g41 0 (by omega) rfl rfl rfl (by decide) ((nth a2 v29).xV) rfl (by decide) rfl) ?_)
 refine ig rfl ?_
 refine ⟨(jl v30 ((nth a2 v29).xAt) ((nth a2 v29).xV)), h, ?_⟩
 refine iZ (mV (i := 7) _ rfl (by simp [aG, aP, aH] : v30.length = (jl v30 ((nth a2 v29).xAt) ((nth a2 v29).xV)).length)).b ?_
 exact (Le.b (bK ⟨rfl, rfl, rfl, trivial⟩ ⟨rfl, trivial⟩))
 apply bG
 refine ⟨v30, h, ?_⟩
 exact (Le.b (bK ⟨rfl, rfl, rfl, trivial⟩ ⟨rfl, trivial⟩))
 apply gV
 refine ⟨v30, h, ?_⟩
 exact (Le.b (bK ⟨rfl, trivial⟩ ⟨rfl, trivial⟩))
 apply Eso
 apply WM
 apply dn
 (try dsimp)
 apply bW
 (try dsimp)
 refine fD (α := Int × (List Int)) (fun (i : Int × (List Int)) => (⟨[(1, ss gI a1), (2, ss iW a2), (3, S.one (.ptr 3 0)), (7, S.one (.own 14 0 i.2.length (some (1, 42)))), (8, (zi_ i.1))], [(3, (⟨true, [vi a0.bH.ak, vi a0.bH.au, vi a0.bH.ay, sl aQ a0.au, sl aS a0.ay]⟩ : Reg)), (14, (⟨true, flat cO i.2⟩ : Reg))]⟩ : St)) (fun n i => iG F a0 a1 k4 n i.1 i.2 = some r) F ((0 : Int), (([] : List Int) ++ x1)) h ?_ (fun n i h => ?_)
 exact (Le.b (bK ⟨rfl, rfl, rfl, rfl, rfl, trivial⟩ ⟨rfl, rfl, trivial⟩))
 obtain ⟨IQ, Qr⟩ := i; dsimp only at h
 obtain _ | n104 := n
 cases h
 unfold iG at h
 (try dsimp)
 apply bP
 apply Eso
 apply WM
 apply WM
 refine WQ (bM rfl) ?_
 refine WQ (aB rfl rfl rfl) ?_
 refine Wk [1, 2, 3, 7, 8, 21] [3, 14] ?_
 (try dsimp)
 refine Ec h rfl (fun h abE => ?_) (fun h abE => ?_)
 apply bG
 refine bf [1, 2, 3, 7, 8] [3, 14] ?_
 (try dsimp)
 obtain ⟨OA, abG, h⟩ := fO h
 refine dV (α := (List Int)) (fun (i : (List Int)) => (⟨[(1, ss gI a1), (2, ss iW a2), (3, S.one (.ptr 3 0)), (7, S.one (.own 14 0 i.length (some (1, 42)))), (8, (zi_ IQ))], [(3, (⟨true, [vi a0.bH.ak, vi a0.bH.au, vi a0.bH.ay, sl aQ a0.au, sl aS a0.ay]⟩ : Reg)), (14, (⟨true, flat cO i⟩ : Reg))]⟩ : St)) (fun i => OA i = some r) (fun i h => ?_) ?_
 let iv := i; change OA i = some r at h; generalize i = Z5 at h ⊢
 rw [abG] at h; dsimp only at h
 (try dsimp)
 apply eP
 apply WM
 obtain ⟨abH, h⟩ := aV h
 refine WQ (cZ rfl rfl abH.1 abH.2) ?_
 apply WM
 apply dn
 refine ⟨n104, ((IQ + (1 : Int)), Z5), Nat.lt_succ_self _, h, ?_⟩
 exact (Le.b (bK ⟨rfl, rfl, rfl, rfl, rfl, trivial⟩ ⟨rfl, rfl, trivial⟩))
 apply bW
 apply Eso
 refine WQ (ah rfl rfl) ?_
 refine WQ qlA ?_
 apply WM
 obtain ⟨vS, abI, h⟩ := aN h
 refine W1 (aF hP (sW F a0.bH IQ vS abI) rfl rfl rfl) ?_
 apply WM
 refine WQ (bD rfl rfl) ?_
 refine WQ (bD rfl rfl) ?_
 apply WM
 apply WM
 refine Wk [1, 2, 3, 7, 8, 9, 10] [3, 14] ?_
 (try dsimp)
 apply bP
 obtain ⟨aaN, h⟩ := aV h
 obtain ⟨yO, abJ, h⟩ := aN h
 refine iY [0, 1, 2, 3, 4, 5, 7] ?_
 refine XQ 0 rfl rfl rfl (ah rfl rfl) ?_
 refine XQ 1 rfl rfl rfl qlA ?_
 refine XQ 2 rfl rfl rfl (aI rfl) ?_
 refine XQ 3 rfl rfl rfl (aI rfl) ?_
 refine XQ 4 rfl rfl rfl (aX rfl rfl aaN.1 aaN.2) ?_
 refine XQ 5 rfl rfl rfl (dX (k := 10) rfl (fun _ => rfl) aaN 0 rfl rfl rfl) ?_
 refine X1 rfl (XK rfl (aF hP (VH F a0.bH (nth a1 IQ) yO abJ) rfl rfl rfl) ?_)
 refine XQ 7 rfl rfl rfl (aI rfl) ?_
 refine ig rfl ?_
 refine bf [1, 2, 3, 7, 8, 9, 10, 11] [3, 14] ?_
 (try dsimp)
 apply bP
 apply Eso
 apply WM
 refine WQ (bM rfl) ?_
 apply WM
 refine WQ (aB rfl rfl rfl) ?_
 apply WM
 apply aC
 rfl
 intro hB; (try simp only [hB, bss, ctt]); exact aI rfl
 apply aC
 rfl
 intro hB; (try simp only [hB, bss, ctt]); exact aB rfl rfl rfl
 refine WQ (dS rfl rfl rfl) ?_
 apply WM
 apply aC
 rfl
 intro hB; (try simp only [hB, bss, ctt]); exact aI rfl
 apply aC
 rfl
 intro hB; (try simp only [hB, bss, ctt]); exact aI rfl
 obtain ⟨abK, h⟩ := aV h
 apply aC
 rfl
 intro hB; (try simp only [hB, bss, ctt]); exact cZ rfl rfl (abK hB).1 (abK hB).2
 apply aC
 rfl
 intro hB; (try simp only [hB, bss, ctt]); exact aI rfl
 apply aC
 rfl
 intro hB; (try simp only [hB, bss, ctt]); exact kE rfl rfl
 apply aC
 rfl
 intro hB; (try simp only [hB, bss, ctt]); exact aB rfl rfl rfl
 refine WQ (dS rfl rfl rfl) ?_
 refine Wk [1, 2, 3, 7, 8, 9, 10, 11, 53] [3, 14] ?_
 (try dsimp)
 refine Ec h rfl (fun h hc113 => ?_) (fun h hc113 => ?_)
 apply gV
 refine ⟨Qr, h, ?_⟩
 exact (Le.b (bK ⟨rfl, rfl, rfl, rfl, rfl, trivial⟩ ⟨rfl, rfl, trivial⟩))
 apply bG
 refine bf [1, 2, 3, 7, 8, 9, 10, 11] [3, 14] ?_
 (try dsimp)
 apply Eso
 apply WM
 apply dn
 (try dsimp)
 apply bW
 (try dsimp)
 refine fD (α := Int × (List Int)) (fun (i : Int × (List Int)) => (⟨[(1, ss gI a1), (2, ss iW a2), (3, S.one (.ptr 3 0)), (7, S.one (.own 14 0 i.2.length (some (1, 42)))), (8, (zi_ IQ)), (9, (zi_ vS.1)), (10, (zi_ vS.2)), (11, ss cO yO), (12, (zi_ i.1))], [(3, (⟨true, [vi a0.bH.ak, vi a0.bH.au, vi a0.bH.ay, sl aQ a0.au, sl aS a0.ay]⟩ : Reg)), (14, (⟨true, flat cO i.2⟩ : Reg))]⟩ : St)) (fun n i => je F OA vS yO n i.1 i.2 = some r) F ((0 : Int), Qr) h ?_ (fun n i h => ?_)
 exact (Le.b (bK ⟨rfl, rfl, rfl, rfl, rfl, rfl, rfl, rfl, rfl, trivial⟩ ⟨rfl, rfl, trivial⟩))
 obtain ⟨Eb, v127⟩ := i; dsimp only at h
 obtain _ | n128 := n
 cases h
 unfold je at h
 (try dsimp)
 apply bP
 apply Eso
 apply WM
 apply WM
 refine WQ (aB rfl rfl rfl) ?_
 refine Wk [1, 2, 3, 7, 8, 9, 10, 11, 12, 56] [3, 14] ?_
 (try dsimp)
 refine Ec h rfl (fun h abL => ?_) (fun h abL => ?_)
 apply bG
 refine bf [1, 2, 3, 7, 8, 9, 10, 11, 12] [3, 14] ?_
 (try dsimp)
 apply bP
 apply bW
 apply eP
 apply WM
 apply WM
 apply WM
 obtain ⟨abM, h⟩ := aV h
 refine WQ (cZ rfl rfl abM.1 abM.2) ?_
 apply WM
 apply WM
 obtain ⟨aaO, h⟩ := aV h
 refine WQ (aX rfl rfl aaO.1 aaO.2) ?_
 refine WQ (aZ (k := 1) rfl (fun _ => rfl) aaO 0 rfl rfl) ?_
 obtain ⟨aaP, h⟩ := aV h
 refine WQ (fZ rfl rfl rfl aaP.1 aaP.2) ?_
 refine W1 (eU (e := cO) (n := 1) (k := 1) rfl rfl (fun _ => rfl) aaP 0 (by omega) rfl rfl rfl (by decide) (nth yO Eb) rfl (by decide) rfl) ?_
 refine Wk [1, 2, 3, 7, 8, 9, 10, 11, 12] [3, 14] ?_
 (try dsimp)
 apply eP
 apply WM
 obtain ⟨abN, h⟩ := aV h
 refine WQ (cZ rfl rfl abN.1 abN.2) ?_
 apply WM
 apply dn
 refine ⟨n128, ((Eb + (1 : Int)), (jl v127 (vS.1 + Eb) (nth yO Eb))), Nat.lt_succ_self _, h, ?_⟩
 refine iZ (mV (i := 7) _ rfl (by simp [aG, aP, aH] : v127.length = (jl v127 (vS.1 + Eb) (nth yO Eb)).length)).b ?_
 exact (Le.b (bK ⟨rfl, rfl, rfl, rfl, rfl, rfl, rfl, rfl, rfl, trivial⟩ ⟨rfl, rfl, trivial⟩))
 apply gV
 refine ⟨v127, h, ?_⟩
 exact (Le.b (bK ⟨rfl, rfl, rfl, rfl, rfl, trivial⟩ ⟨rfl, rfl, trivial⟩))
 apply gV
 refine ⟨Qr, h, ?_⟩
 exact (Le.b (bK ⟨rfl, rfl, trivial⟩ ⟨rfl, trivial⟩))
def uq : dJ := (.seq (.ops [(o (.box 27 (t 0)) 4), (o (.mv (cb false)) 8)]) (.seq (.seq (.ops [(o (.call 6 []) 17), (o (.un .not (t 17)) 18)]) (.cond (t 18) (.seq (.ops [(o (.mv (cb false)) 8)]) .ret) .skip)) (.seq (.seq (.ops [(o (.load true 5 (t 4)) 19), (w 20 1), (w 21 2), (o (.call 7 [(t 19), (t 20), (t 21)]) 22), (w 23 22), (g_ (.mv (t 3)) 24 23 false), (g_ (.bin .lss 3 (t 24) (ci 1)) 25 23 false), (o (.pick (t 23) (cb true) (t 25)) 26), (w 27 26), (g_ (.mv (t 3)) 28 27 false), (g_ (.bin .gtr 3 (t 28) (ci 4)) 29 27 false), (o (.pick (t 27) (cb true) (t 29)) 30)]) (.cond (t 30) (.seq (.ops [(o (.mv (cb true)) 8)]) .ret) .skip)) (.seq (.ops [(o (.load true 5 (t 4)) 32), (w 33 1), (w 34 2), (o (.call 9 [(t 32), (t 33), (t 34)]) 35), (o (.call 8 [(t 35)]) 36), (w 31 36), (o (.ext 0 (t 31)) 37), (o (.ext 1 (t 31)) 38), (w 9 37), (w 10 38)]) (.seq (.seq (.ops [(w 39 10), (o (.bin .neq 33 (t 39) (ci 0)) 40), (w 41 40), (g_ (.mv (t 9)) 42 41 false), (g_ (.eqP false (t 42) cp) 43 41 false), (o (.pick (t 41) (cb true) (t 43)) 44)]) (.cond (t 44) (.seq (.ops [(w 45 10), (o (.bin .eql 33 (t 45) (ci 1)) 46), (w 8 46)]) .ret) .skip)) (.seq (.ops [(w 48 9), (o (.call 10 [(t 48)]) 49), (w 47 49), (o (.ext 0 (t 47)) 50), (o (.ext 1 (t 47)) 51), (w 11 50), (w 12 51)]) (.seq (.seq (.ops [(w 52 12), (o (.bin .neq 33 (t 52) (ci 0)) 53), (w 54 53), (g_ (.mv (t 11)) 55 54 false), (g_ (.eqP false (t 55) cp) 56 54 false), (o (.pick (t 54) (cb true) (t 56)) 57)]) (.cond (t 57) (.seq (.ops [(w 58 12), (o (.bin .eql 33 (t 58) (ci 2)) 59), (w 8 59)]) .ret) .skip)) (.seq (.ops [(w 60 9), (o (.call 11 [(t 60)]) 61), (w 13 61)]) (.seq (.seq (.ops [(w 62 13), (o (.len false (t 62)) 63), (o (.bin .lss 3 (t 63) (ci 16)) 64)]) (.cond (t 64) (.seq (.ops [(o (.mv (cb false)) 8)]) .ret) .skip)) (.seq (.seq (.ops [(w 65 13), (o (.gJ 1 (t 65) (ci 4)) 66), (o (.load false 1 (t 66)) 67), (o (.bin .gtr 42 (t 67) (.const (.int .u64 2305843009213693952))) 68)]) (.cond (t 68) (.seq (.ops [(o (.mv (cb true)) 8)]) .ret) .skip)) (.seq (.seq (.ops [(o (.mv (ci 0)) 14)]) (.block 0 (.loop (.seq (.seq (.ops [(w 69 14), (w 70 3), (o (.bin .lss 3 (t 69) (t 70)) 71)]) (.cond (t 71) .skip (.exit 0))) (.seq (.block 1 (.seq (.ops [(w 75 9), (o (.call 10 [(t 75)]) 76), (w 74 76), (o (.ext 0 (t 74)) 77), (o (.ext 1 (t 74)) 78), (w 12 78)]) (.seq (.ops [(w 79 12), (o (.bin .neq 33 (t 79) (ci 0)) 80)]) (.cond (t 80) (.seq (.ops [(o (.mv (cb false)) 8)]) .ret) .skip)))) (.ops [(w 72 14), (o (.bin .add 3 (t 72) (ci 1)) 73), (w 14 73)])))))) (.seq (.ops [(w 81 9), (o (.call 11 [(t 81)]) 82), (w 15 82)]) (.seq (.seq (.draw [((w 83 13), []), ((o (.len false (t 83)) 84), [0]), ((w 85 15), []), ((o (.len false (t 85)) 86), [2]), ((o (.bin .neq 3 (t 84) (t 86)) 87), [1, 3]), ((w 88 87), [4]), ((g_ (.mv (t 13)) 89 88 false), [5]), ((g_ (.len false (t 89)) 90 88 false), [6, 5]), ((g_ (.bin .lss 3 (t 90) (ci 16)) 91 88 false), [7, 5]), ((o (.pick (t 88) (cb true) (t 91)) 92), [5, 8]), ((w 93 92), [9, 5]), ((g_ (.mv (t 15)) 94 93 false), [10]), ((g_ (.gJ 1 (t 94) (ci 4)) 95 93 false), [11, 10]), ((g_ (.load false 1 (t 95)) 96 93 false), [12, 10]), ((g_ (.mv (t 13)) 97 93 false), [10]), ((g_ (.gJ 1 (t 97) (ci 4)) 98 93 false), [14, 10]), ((g_ (.load false 1 (t 98)) 99 93 false), [15, 10]), ((g_ (.mv (t 3)) 100 93 false), [10]), ((g_ (.jF .u64 (t 100)) 101 93 false), [17, 10]), ((g_ (.bin .add 42 (t 99) (t 101)) 102 93 false), [16, 18, 10]), ((g_ (.bin .neq 42 (t 96) (t 102)) 103 93 false), [13, 19, 10]), ((o (.pick (t 93) (cb true) (t 103)) 104), [10, 20])]) (.cond (t 104) (.seq (.ops [(o (.mv (cb false)) 8)]) .ret) .skip)) (.seq (.seq (.ops [(o (.mv (ci 8)) 16)]) (.block 2 (.loop (.seq (.seq (.ops [(w 105 16), (w 106 13), (o (.len false (t 106)) 107), (o (.bin .sub 3 (t 107) (ci 8)) 108), (o (.bin .lss 3 (t 105) (t 108)) 109)]) (.cond (t 109) .skip (.exit 2))) (.seq (.block 3 (.seq (.draw [((w 112 13), []), ((w 113 16), []), ((o (.gJ 1 (t 112) (t 113)) 114), [0, 1]), ((o (.load false 1 (t 114)) 115), [2]), ((w 116 15), []), ((w 117 16), []), ((o (.gJ 1 (t 116) (t 117)) 118), [4, 5]), ((o (.load false 1 (t 118)) 119), [6]), ((o (.bin .neq 42 (t 115) (t 119)) 120), [3, 7])]) (.cond (t 120) (.seq (.ops [(o (.mv (cb false)) 8)]) .ret) .skip))) (.ops [(w 110 16), (o (.bin .add 3 (t 110) (ci 1)) 111), (w 16 111)])))))) (.seq (.ops [(o (.mv (cb true)) 8)]) .ret)))))))))))))))
theorem zS : Fits Tryz.prog 3 4 uq [(.tmp 8)] := cu Tryz.func3 (by kernel_rfl) (by kernel_rfl) (by kernel_rfl)
theorem zK (F : Nat) (a0 : aK) (a1 : (List bC)) (a2 : (List jg)) (a3 : Int) (r : Bool) (h : lJ F a0 a1 a2 a3 = some r) : PC Tryz.prog 3 [S.agg [vi a0.bH.ak, vi a0.bH.au, vi a0.bH.ay, sl aQ a0.au, sl aS a0.ay], ss gI a1, ss iW a2, (zi_ a3)] (zb_ r) := by
 unfold lJ at h
 refine fC zS rfl rfl ?_
 intro C hP
 unfold uq; dsimp
 apply Eso
 refine W1 (eu rfl rfl rfl rfl) ?_
 apply WM
 refine Wk [1, 2, 3, 4] [4] ?_
 (try dsimp)
 apply bP
 apply Eso
 obtain ⟨x1, x1h, h⟩ := aN h
 refine W1 (aF hP (Ey F  x1 x1h) rfl rfl rfl) ?_
 refine WQ (dM rfl) ?_
 refine Wk [1, 2, 3, 4, 18] [4] ?_
 (try dsimp)
 refine Ec h rfl (fun h hc2 => ?_) (fun h hc2 => ?_)
 apply Eso
 apply WM
 refine Wk [8] [] ?_
 (try dsimp)
 apply bI
 cases h
 (try simp only [qt, qb, qn])
 refine aT (xs := _) ⟨_, rfl, rfl⟩ ?_
 rfl
 apply bG
 refine bf [1, 2, 3, 4] [4] ?_
 (try dsimp)
 apply bP
 apply Eso
 refine WQ qlA ?_
 apply WM
 apply WM
 obtain ⟨x3, x3h, h⟩ := aN h
 refine W1 (aF hP (EC F a0 a1 a2 x3 x3h) rfl rfl rfl) ?_
 apply WM
 apply aC
 rfl
 intro hB; (try simp only [hB, bss, ctt]); exact aI rfl
 apply aC
 rfl
 intro hB; (try simp only [hB, bss, ctt]); exact aB rfl rfl rfl
 refine WQ (dS rfl rfl rfl) ?_
 apply WM
 apply aC
 rfl
 intro hB; (try simp only [hB, bss, ctt]); exact aI rfl
 apply aC
 rfl
 intro hB; (try simp only [hB, bss, ctt]); exact aB rfl rfl rfl
 refine WQ (dS rfl rfl rfl) ?_
 refine Wk [1, 2, 3, 4, 30] [4] ?_
 (try dsimp)
 refine Ec h rfl (fun h hc4 => ?_) (fun h hc4 => ?_)
 apply Eso
 apply WM
 refine Wk [8] [] ?_
 (try dsimp)
 apply bI
 cases h
 (try simp only [qt, qb, qn])
 refine aT (xs := _) ⟨_, rfl, rfl⟩ ?_
 rfl
 apply bG
 refine bf [1, 2, 3, 4] [4] ?_
 (try dsimp)
 apply Eso
 refine WQ qlA ?_
 apply WM
 apply WM
 obtain ⟨x5, x5h, h⟩ := aN h
 refine W1 (aF hP (Dw F a0 a1 a2 x5 x5h) rfl rfl rfl) ?_
 obtain ⟨x6, x6h, h⟩ := aN h
 rcases wX h with ⟨o7e, h⟩ | ⟨o7, o7e, h⟩
 refine W1 (dL [] true hP (wY o7e (zO F x5 x6 x6h)) rfl trivial rfl rfl rfl rfl rfl (fun h => by first | rfl | cases h) rfl) ?_
 (try dsimp)
 apply WM
 refine WQ (bD rfl rfl) ?_
 refine WQ (bD rfl rfl) ?_
 apply WM
 apply WM
 refine Wk [3, 9, 10] [] ?_
 (try dsimp)
 apply bP
 apply Eso
 apply WM
 refine WQ (aB rfl rfl rfl) ?_
 apply WM
 apply aC
 rfl
 intro hB; (try simp only [hB, bss, ctt]); exact aI rfl
 apply aC
 rfl
 intro hB; (try simp only [hB, bss, ctt]); exact xk rfl rfl
 refine WQ (dS rfl rfl rfl) ?_
 refine Wk [3, 9, 10, 44] [] ?_
 (try dsimp)
 refine Ec h rfl (fun h hc8 => ?_) (fun h hc8 => ?_)
 apply Eso
 apply WM
 refine WQ (aB rfl rfl rfl) ?_
 apply WM
 refine Wk [8] [] ?_
 (try dsimp)
 apply bI
 cases h
 (try simp only [qt, qb, qn])
 refine aT (xs := _) ⟨_, rfl, rfl⟩ ?_
 rfl
 apply bG
 refine bf [3, 9] [] ?_
 (try dsimp)
 apply Eso
 apply WM
 cases h
 refine W1 (dL [(7130, 7360), (7131, 7361)] true hP (wZ o7e (zO F x5 x6 x6h)) rfl trivial rfl rfl rfl rfl rfl (fun h => by first | rfl | cases h) rfl) ?_
 (try dsimp)
 apply WM
 refine WQ (bD rfl rfl) ?_
 refine WQ (bD rfl rfl) ?_
 apply WM
 apply WM
 refine Wk [3, 9, 10] [7360, 7361] ?_
 (try dsimp)
 apply bP
 apply Eso
 apply WM
 refine WQ (aB rfl rfl rfl) ?_
 apply WM
 apply aC
 rfl
 intro hB; (try simp only [hB, bss, ctt]); exact aI rfl
 apply aC
 rfl
 intro hB; (try simp only [hB, bss, ctt]); exact rG rfl rfl rfl
 refine WQ (dS rfl rfl rfl) ?_
 refine Wk [3, 9, 10, 44] [7360, 7361] ?_
 (try dsimp)
 refine Ec h rfl (fun h hc9 => ?_) (fun h hc9 => ?_)
 apply Eso
 apply WM
 refine WQ (aB rfl rfl rfl) ?_
 apply WM
 refine Wk [8] [] ?_
 (try dsimp)
 apply bI
 cases h
 (try simp only [qt, qb, qn])
 refine aT (xs := _) ⟨_, rfl, rfl⟩ ?_
 rfl
 apply bG
 refine bf [3, 9] [7360, 7361] ?_
 (try dsimp)
 apply Eso
 apply WM
 obtain ⟨x10, Fg, h⟩ := aN h
 rcases wX h with ⟨aaQ, h⟩ | ⟨o11, aaQ, h⟩
 refine W1 (dL [(100900, 7361), (100901, 7360)] false hP (wY aaQ (qc F o7 x10 Fg)) rfl ⟨rfl, rfl, trivial⟩ rfl rfl rfl rfl rfl (fun h => by first | rfl | cases h) rfl) ?_
 (try dsimp)
 apply WM
 refine WQ (bD rfl rfl) ?_
 refine WQ (bD rfl rfl) ?_
 apply WM
 apply WM
 refine Wk [3, 9, 11, 12] [7360, 7361] ?_
 (try dsimp)
 apply bP
 apply Eso
 apply WM
 refine WQ (aB rfl rfl rfl) ?_
 apply WM
 apply aC
 rfl
 intro hB; (try simp only [hB, bss, ctt]); exact aI rfl
 apply aC
 rfl
 intro hB; (try simp only [hB, bss, ctt]); exact xk rfl rfl
 refine WQ (dS rfl rfl rfl) ?_
 refine Wk [3, 9, 12, 57] [7360, 7361] ?_
 (try dsimp)
 refine Ec h rfl (fun h hc12 => ?_) (fun h hc12 => ?_)
 apply Eso
 apply WM
 refine WQ (aB rfl rfl rfl) ?_
 apply WM
 refine Wk [8] [] ?_
 (try dsimp)
 apply bI
 cases h
 (try simp only [qt, qb, qn])
 refine aT (xs := _) ⟨_, rfl, rfl⟩ ?_
 rfl
 apply bG
 refine bf [3, 9] [7360, 7361] ?_
 (try dsimp)
 apply Eso
 apply WM
 obtain ⟨x13, Ed, h⟩ := aN h
 refine W1 (dL [(100900, 7361), (100901, 7360)] false hP (lS F x10.1 x13 Ed) rfl ⟨rfl, rfl, trivial⟩ rfl rfl rfl rfl rfl (fun h => by first | rfl | cases h) rfl) ?_
 (try dsimp)
 apply WM
 refine Wk [3, 9, 13] [7360, 7361] ?_
 (try dsimp)
 apply bP
 apply Eso
 apply WM
 refine WQ (bM rfl) ?_
 refine WQ (aB rfl rfl rfl) ?_
 refine Wk [3, 9, 13, 64] [7360, 7361] ?_
 (try dsimp)
 refine Ec h rfl (fun h aaM => ?_) (fun h aaM => ?_)
 apply Eso
 apply WM
 refine Wk [8] [] ?_
 (try dsimp)
 apply bI
 cases h
 (try simp only [qt, qb, qn])
 refine aT (xs := _) ⟨_, rfl, rfl⟩ ?_
 rfl
 apply bG
 refine bf [3, 9, 13] [7360, 7361] ?_
 (try dsimp)
 apply bP
 apply Eso
 apply WM
 obtain ⟨g15, h⟩ := aV h
 refine WQ (aX rfl rfl g15.1 g15.2) ?_
 refine WQ (aZ (k := 1) rfl (fun _ => rfl) g15 0 rfl rfl) ?_
 refine WQ (aB rfl rfl rfl) ?_
 refine Wk [3, 9, 13, 68] [7360, 7361] ?_
 (try dsimp)
 refine Ec h rfl (fun h hc16 => ?_) (fun h hc16 => ?_)
 apply Eso
 apply WM
 refine Wk [8] [] ?_
 (try dsimp)
 apply bI
 cases h
 (try simp only [qt, qb, qn])
 refine aT (xs := _) ⟨_, rfl, rfl⟩ ?_
 rfl
 apply bG
 refine bf [3, 9, 13] [7360, 7361] ?_
 (try dsimp)
 obtain ⟨k22, adK, h⟩ := fO h
 refine dV (α := Bool × Int × Int × (List Int) × (List bQ)) (fun (i : Bool × Int × Int × (List Int) × (List bQ)) => (⟨[(3, (zi_ a3)), (9, S.one (.ptr 7361 0)), (13, ss cO x13)], [(7360, (⟨true, flat bJ i.2.2.2.2⟩ : Reg)), (7361, (⟨false, [.own 7360 0 i.2.2.2.2.length (some (18, 86)), vb i.1, vi i.2.1, vi i.2.2.1, sl bT i.2.2.2.1]⟩ : Reg))]⟩ : St)) (fun i => k22 i.1 i.2.1 i.2.2.1 i.2.2.2.1 i.2.2.2.2 = some r) (fun i h => ?_) ?_
 obtain ⟨v17, v18, v19, v20, v21⟩ := i
 rw [adK] at h; dsimp only at h
 (try dsimp)
 apply Eso
 apply WM
 obtain ⟨x23, XH, h⟩ := aN h
 refine W1 (dL [(100900, 7361), (100901, 7360)] false hP (lS F (⟨v21, v17, v18, v19, v20⟩ : aO) x23 XH) rfl ⟨rfl, rfl, trivial⟩ rfl rfl rfl rfl rfl (fun h => by first | rfl | cases h) rfl) ?_
 (try dsimp)
 apply WM
 refine Wk [3, 13, 15] [] ?_
 (try dsimp)
 apply bP
 apply bP
 obtain ⟨g24, h⟩ := aV h
 obtain ⟨g25, h⟩ := aV h
 refine iY [0, 1, 2, 3, 4, 5, 6, 7, 8, 9, 10, 11, 12, 13, 14, 15, 16, 17, 18, 19, 20, 21] ?_
 refine XQ 0 rfl rfl rfl (aI rfl) ?_
 refine XQ 1 rfl rfl rfl (bM rfl) ?_
 refine XQ 2 rfl rfl rfl (aI rfl) ?_
 refine XQ 3 rfl rfl rfl (bM rfl) ?_
 refine XQ 4 rfl rfl rfl (aB rfl rfl rfl) ?_
 refine XQ 5 rfl rfl rfl (aI rfl) ?_
 apply dR 6
 rfl
 rfl
 rfl
 rfl
 intro hB; (try simp only [hB, bss, ctt]); exact aI rfl
 apply dR 7
 rfl
 rfl
 rfl
 rfl
 intro hB; (try simp only [hB, bss, ctt]); exact bM rfl
 apply dR 8
 rfl
 rfl
 rfl
 rfl
 intro hB; (try simp only [hB, bss, ctt]); exact aB rfl rfl rfl
 refine XQ 9 rfl rfl rfl (dS rfl rfl rfl) ?_
 refine XQ 10 rfl rfl rfl (aI rfl) ?_
 apply dR 11
 rfl
 rfl
 rfl
 rfl
 intro hB; (try simp only [hB, bss, ctt]); exact aI rfl
 apply dR 12
 rfl
 rfl
 rfl
 rfl
 intro hB; (try simp only [hB, bss, ctt]); exact aX rfl rfl (g24 hB).1 (g24 hB).2
 apply dR 13
 rfl
 rfl
 rfl
 rfl
 intro hB; (try simp only [hB, bss, ctt]); exact aZ (k := 1) rfl (fun _ => rfl) (g24 hB) 0 rfl rfl
 apply dR 14
 rfl
 rfl
 rfl
 rfl
 intro hB; (try simp only [hB, bss, ctt]); exact aI rfl
 apply dR 15
 rfl
 rfl
 rfl
 rfl
 intro hB; (try simp only [hB, bss, ctt]); exact aX rfl rfl (g25 hB).1 (g25 hB).2
 apply dR 16
 rfl
 rfl
 rfl
 rfl
 intro hB; (try simp only [hB, bss, ctt]); exact aZ (k := 1) rfl (fun _ => rfl) (g25 hB) 0 rfl rfl
 apply dR 17
 rfl
 rfl
 rfl
 rfl
 intro hB; (try simp only [hB, bss, ctt]); exact aI rfl
 apply dR 18
 rfl
 rfl
 rfl
 rfl
 intro hB; (try simp only [hB, bss, ctt]); exact dF rfl
 apply dR 19
 rfl
 rfl
 rfl
 rfl
 intro hB; (try simp only [hB, bss, ctt]); exact aB rfl rfl rfl
 apply dR 20
 rfl
 rfl
 rfl
 rfl
 intro hB; (try simp only [hB, bss, ctt]); exact aB rfl rfl rfl
 refine XQ 21 rfl rfl rfl (dS rfl rfl rfl) ?_
 refine ig rfl ?_
 refine bf [13, 15, 104] [] ?_
 (try dsimp)
 refine Ec h rfl (fun h XP => ?_) (fun h XP => ?_)
 apply Eso
 apply WM
 refine Wk [8] [] ?_
 (try dsimp)
 apply bI
 cases h
 (try simp only [qt, qb, qn])
 refine aT (xs := _) ⟨_, rfl, rfl⟩ ?_
 rfl
 apply bG
 refine bf [13, 15] [] ?_
 (try dsimp)
 obtain ⟨k27, aas, h⟩ := fO h
 refine dV (α := Unit) (fun (i : Unit) => (⟨[], []⟩ : St)) (fun i => k27 () = some r) (fun i h => ?_) ?_
 rw [aas] at h; dsimp only at h
 (try dsimp)
 apply Eso
 apply WM
 apply dn
 (try dsimp)
 apply bI
 cases h
 (try simp only [qt, qb, qn])
 refine aT (xs := _) ⟨_, rfl, rfl⟩ ?_
 rfl
 apply Eso
 apply WM
 apply dn
 (try dsimp)
 apply bW
 (try dsimp)
 refine fD (α := Int) (fun (i : Int) => (⟨[(13, ss cO x13), (15, ss cO x23), (16, (zi_ i))], []⟩ : St)) (fun n i => lU F x13 x23 k27 n i = some r) F (8 : Int) h ?_ (fun n i h => ?_)
 exact (Le.b (bK ⟨rfl, rfl, rfl, trivial⟩ trivial))
 generalize i = v41 at h ⊢
 obtain _ | n42 := n
 cases h
 unfold lU at h
 (try dsimp)
 apply bP
 apply Eso
 apply WM
 apply WM
 refine WQ (bM rfl) ?_
 obtain ⟨g43, h⟩ := aV h
 refine WQ (lK rfl rfl g43.1 g43.2) ?_
 refine WQ (aB rfl rfl rfl) ?_
 refine Wk [13, 15, 16, 109] [] ?_
 (try dsimp)
 refine Ec h rfl (fun h adL => ?_) (fun h adL => ?_)
 apply bG
 refine bf [13, 15, 16] [] ?_
 (try dsimp)
 apply bP
 apply bW
 apply bP
 obtain ⟨g45, h⟩ := aV h
 obtain ⟨g46, h⟩ := aV h
 refine iY [0, 1, 2, 3, 4, 5, 6, 7, 8] ?_
 refine XQ 0 rfl rfl rfl (aI rfl) ?_
 refine XQ 1 rfl rfl rfl (aI rfl) ?_
 refine XQ 2 rfl rfl rfl (aX rfl rfl g45.1 g45.2) ?_
 refine XQ 3 rfl rfl rfl (aZ (k := 1) rfl (fun _ => rfl) g45 0 rfl rfl) ?_
 refine XQ 4 rfl rfl rfl (aI rfl) ?_
 refine XQ 5 rfl rfl rfl (aI rfl) ?_
 refine XQ 6 rfl rfl rfl (aX rfl rfl g46.1 g46.2) ?_
 refine XQ 7 rfl rfl rfl (aZ (k := 1) rfl (fun _ => rfl) g46 0 rfl rfl) ?_
 refine XQ 8 rfl rfl rfl (aB rfl rfl rfl) ?_
 refine ig rfl ?_
 refine bf [13, 15, 16, 120] [] ?_
 (try dsimp)
 refine Ec h rfl (fun h hc47 => ?_) (fun h hc47 => ?_)
 apply Eso
 apply WM
 refine Wk [8] [] ?_
 (try dsimp)
 apply bI
 cases h
 (try simp only [qt, qb, qn])
 refine aT (xs := _) ⟨_, rfl, rfl⟩ ?_
 rfl
 apply bG
 refine bf [13, 15, 16] [] ?_
 (try dsimp)
 apply eP
 apply WM
 obtain ⟨g48, h⟩ := aV h
 refine WQ (cZ rfl rfl g48.1 g48.2) ?_
 apply WM
 apply dn
 refine ⟨n42, (v41 + (1 : Int)), Nat.lt_succ_self _, h, ?_⟩
 exact (Le.b (bK ⟨rfl, rfl, rfl, trivial⟩ trivial))
 apply gV
 refine ⟨(), h, ?_⟩
 exact (Le.b (bK trivial trivial))
 apply Eso
 apply WM
 apply dn
 (try dsimp)
 apply bW
 (try dsimp)
 refine fD (α := Int × Bool × Int × Int × (List Int) × (List bQ)) (fun (i : Int × Bool × Int × Int × (List Int) × (List bQ)) => (⟨[(3, (zi_ a3)), (9, S.one (.ptr 7361 0)), (13, ss cO x13), (14, (zi_ i.1))], [(7360, (⟨true, flat bJ i.2.2.2.2.2⟩ : Reg)), (7361, (⟨false, [.own 7360 0 i.2.2.2.2.2.length (some (18, 86)), vb i.2.1, vi i.2.2.1, vi i.2.2.2.1, sl bT i.2.2.2.2.1]⟩ : Reg))]⟩ : St)) (fun n i => kG F a3 k22 n i.1 i.2.1 i.2.2.1 i.2.2.2.1 i.2.2.2.2.1 i.2.2.2.2.2 = some r) F ((0 : Int), x10.1.gB, x10.1.dA, x10.1.dO, x10.1.dN, x10.1.xl) h ?_ (fun n i h => ?_)
 exact (Le.b (bK ⟨rfl, rfl, rfl, rfl, trivial⟩ ⟨rfl, rfl, trivial⟩))
 obtain ⟨v69, v70, v71, v72, v73, v74⟩ := i; dsimp only at h
 obtain _ | n75 := n
 cases h
 unfold kG at h
 (try dsimp)
 apply bP
 apply Eso
 apply WM
 apply WM
 refine WQ (aB rfl rfl rfl) ?_
 refine Wk [3, 9, 13, 14, 71] [7360, 7361] ?_
 (try dsimp)
 refine Ec h rfl (fun h adM => ?_) (fun h adM => ?_)
 apply bG
 refine bf [3, 9, 13, 14] [7360, 7361] ?_
 (try dsimp)
 apply bP
 apply bW
 apply Eso
 apply WM
 obtain ⟨x77, YW, h⟩ := aN h
 rcases wX h with ⟨aaR, h⟩ | ⟨o78, aaR, h⟩
 refine W1 (dL [(100900, 7361), (100901, 7360)] false hP (wY aaR (qc F (⟨v74, v70, v71, v72, v73⟩ : aO) x77 YW)) rfl ⟨rfl, rfl, trivial⟩ rfl rfl rfl rfl rfl (fun h => by first | rfl | cases h) rfl) ?_
 (try dsimp)
 apply WM
 refine WQ (bD rfl rfl) ?_
 refine WQ (bD rfl rfl) ?_
 apply WM
 refine Wk [3, 9, 12, 13, 14] [7360, 7361] ?_
 (try dsimp)
 apply Eso
 apply WM
 refine WQ (aB rfl rfl rfl) ?_
 refine Wk [3, 9, 13, 14, 80] [7360, 7361] ?_
 (try dsimp)
 refine Ec h rfl (fun h adN => ?_) (fun h adN => ?_)
 apply Eso
 apply WM
 refine Wk [8] [] ?_
 (try dsimp)
 apply bI
 cases h
 (try simp only [qt, qb, qn])
 refine aT (xs := _) ⟨_, rfl, rfl⟩ ?_
 rfl
 apply bG
 refine bf [3, 9, 13, 14] [7360, 7361] ?_
 (try dsimp)
 apply eP
 apply WM
 obtain ⟨g80, h⟩ := aV h
 refine WQ (cZ rfl rfl g80.1 g80.2) ?_
 apply WM
 apply dn
 refine ⟨n75, ((v69 + (1 : Int)), x77.1.gB, x77.1.dA, x77.1.dO, x77.1.dN, x77.1.xl), Nat.lt_succ_self _, h, ?_⟩
 exact (Le.b (bK ⟨rfl, rfl, rfl, rfl, trivial⟩ ⟨rfl, rfl, trivial⟩))
 refine W1 (dL [(100900, 7361), (100901, 7360), (7360, 7760), (7361, 7761), (7362, 7762)] false hP (wZ aaR (qc F (⟨v74, v70, v71, v72, v73⟩ : aO) x77 YW)) rfl ⟨rfl, rfl, trivial⟩ rfl rfl rfl rfl rfl (fun h => by first | rfl | cases h) rfl) ?_
 (try dsimp)
 apply WM
 refine WQ (bD rfl rfl) ?_
 refine WQ (bD rfl rfl) ?_
 apply WM
 refine Wk [3, 9, 12, 13, 14] [7360, 7361] ?_
 (try dsimp)
 apply Eso
 apply WM
 refine WQ (aB rfl rfl rfl) ?_
 refine Wk [3, 9, 13, 14, 80] [7360, 7361] ?_
 (try dsimp)
 refine Ec h rfl (fun h aay => ?_) (fun h aay => ?_)
 apply Eso
 apply WM
 refine Wk [8] [] ?_
 (try dsimp)
 apply bI
 cases h
 (try simp only [qt, qb, qn])
 refine aT (xs := _) ⟨_, rfl, rfl⟩ ?_
 rfl
 apply bG
 refine bf [3, 9, 13, 14] [7360, 7361] ?_
 (try dsimp)
 apply eP
 apply WM
 obtain ⟨g82, h⟩ := aV h
 refine WQ (cZ rfl rfl g82.1 g82.2) ?_
 apply WM
 apply dn
 refine ⟨n75, ((v69 + (1 : Int)), x77.1.gB, x77.1.dA, x77.1.dO, x77.1.dN, x77.1.xl), Nat.lt_succ_self _, h, ?_⟩
 exact (Le.b (bK ⟨rfl, rfl, rfl, rfl, trivial⟩ ⟨rfl, rfl, trivial⟩))
 apply gV
 refine ⟨(v70, v71, v72, v73, v74), h, ?_⟩
 exact (Le.b (bK ⟨rfl, rfl, rfl, trivial⟩ ⟨rfl, rfl, trivial⟩))
 refine W1 (dL [(100900, 7361), (100901, 7360), (7360, 7490), (7361, 7491), (7362, 7492)] false hP (wZ aaQ (qc F o7 x10 Fg)) rfl ⟨rfl, rfl, trivial⟩ rfl rfl rfl rfl rfl (fun h => by first | rfl | cases h) rfl) ?_
 (try dsimp)
 apply WM
 refine WQ (bD rfl rfl) ?_
 refine WQ (bD rfl rfl) ?_
 apply WM
 apply WM
 refine Wk [3, 9, 11, 12] [7360, 7361, 7490, 7491, 7492] ?_
 (try dsimp)
 apply bP
 apply Eso
 apply WM
 refine WQ (aB rfl rfl rfl) ?_
 apply WM
 apply aC
 rfl
 intro hB; (try simp only [hB, bss, ctt]); exact aI rfl
 apply aC
 rfl
 intro hB; (try simp only [hB, bss, ctt]); exact rG rfl rfl rfl
 refine WQ (dS rfl rfl rfl) ?_
 refine Wk [3, 9, 12, 57] [7360, 7361] ?_
 (try dsimp)
 refine Ec h rfl (fun h adO => ?_) (fun h adO => ?_)
 apply Eso
 apply WM
 refine WQ (aB rfl rfl rfl) ?_
 apply WM
 refine Wk [8] [] ?_
 (try dsimp)
 apply bI
 cases h
 (try simp only [qt, qb, qn])
 refine aT (xs := _) ⟨_, rfl, rfl⟩ ?_
 rfl
 apply bG
 refine bf [3, 9] [7360, 7361] ?_
 (try dsimp)
 apply Eso
 apply WM
 obtain ⟨x84, adP, h⟩ := aN h
 refine W1 (dL [(100900, 7361), (100901, 7360)] false hP (lS F x10.1 x84 adP) rfl ⟨rfl, rfl, trivial⟩ rfl rfl rfl rfl rfl (fun h => by first | rfl | cases h) rfl) ?_
 (try dsimp)
 apply WM
 refine Wk [3, 9, 13] [7360, 7361] ?_
 (try dsimp)
 apply bP
 apply Eso
 apply WM
 refine WQ (bM rfl) ?_
 refine WQ (aB rfl rfl rfl) ?_
 refine Wk [3, 9, 13, 64] [7360, 7361] ?_
 (try dsimp)
 refine Ec h rfl (fun h adQ => ?_) (fun h adQ => ?_)
 apply Eso
 apply WM
 refine Wk [8] [] ?_
 (try dsimp)
 apply bI
 cases h
 (try simp only [qt, qb, qn])
 refine aT (xs := _) ⟨_, rfl, rfl⟩ ?_
 rfl
 apply bG
 refine bf [3, 9, 13] [7360, 7361] ?_
 (try dsimp)
 apply bP
 apply Eso
 apply WM
 obtain ⟨g86, h⟩ := aV h
 refine WQ (aX rfl rfl g86.1 g86.2) ?_
 refine WQ (aZ (k := 1) rfl (fun _ => rfl) g86 0 rfl rfl) ?_
 refine WQ (aB rfl rfl rfl) ?_
 refine Wk [3, 9, 13, 68] [7360, 7361] ?_
 (try dsimp)
 refine Ec h rfl (fun h adR => ?_) (fun h adR => ?_)
 apply Eso
 apply WM
 refine Wk [8] [] ?_
 (try dsimp)
 apply bI
 cases h
 (try simp only [qt, qb, qn])
 refine aT (xs := _) ⟨_, rfl, rfl⟩ ?_
 rfl
 apply bG
 refine bf [3, 9, 13] [7360, 7361] ?_
 (try dsimp)
 obtain ⟨k93, aam, h⟩ := fO h
 refine dV (α := Bool × Int × Int × (List Int) × (List bQ)) (fun (i : Bool × Int × Int × (List Int) × (List bQ)) => (⟨[(3, (zi_ a3)), (9, S.one (.ptr 7361 0)), (13, ss cO x84)], [(7360, (⟨true, flat bJ i.2.2.2.2⟩ : Reg)), (7361, (⟨false, [.own 7360 0 i.2.2.2.2.length (some (18, 86)), vb i.1, vi i.2.1, vi i.2.2.1, sl bT i.2.2.2.1]⟩ : Reg))]⟩ : St)) (fun i => k93 i.1 i.2.1 i.2.2.1 i.2.2.2.1 i.2.2.2.2 = some r) (fun i h => ?_) ?_
 obtain ⟨v88, v89, v90, v91, v92⟩ := i
 rw [aam] at h; dsimp only at h
 (try dsimp)
 apply Eso
 apply WM
 obtain ⟨x94, aaH, h⟩ := aN h
 refine W1 (dL [(100900, 7361), (100901, 7360)] false hP (lS F (⟨v92, v88, v89, v90, v91⟩ : aO) x94 aaH) rfl ⟨rfl, rfl, trivial⟩ rfl rfl rfl rfl rfl (fun h => by first | rfl | cases h) rfl) ?_
 (try dsimp)
 apply WM
 refine Wk [3, 13, 15] [] ?_
 (try dsimp)
 apply bP
 apply bP
 obtain ⟨g95, h⟩ := aV h
 obtain ⟨g96, h⟩ := aV h
 refine iY [0, 1, 2, 3, 4, 5, 6, 7, 8, 9, 10, 11, 12, 13, 14, 15, 16, 17, 18, 19, 20, 21] ?_
 refine XQ 0 rfl rfl rfl (aI rfl) ?_
 refine XQ 1 rfl rfl rfl (bM rfl) ?_
 refine XQ 2 rfl rfl rfl (aI rfl) ?_
 refine XQ 3 rfl rfl rfl (bM rfl) ?_
 refine XQ 4 rfl rfl rfl (aB rfl rfl rfl) ?_
 refine XQ 5 rfl rfl rfl (aI rfl) ?_
 apply dR 6
 rfl
 rfl
 rfl
 rfl
 intro hB; (try simp only [hB, bss, ctt]); exact aI rfl
 apply dR 7
 rfl
 rfl
 rfl
 rfl
 intro hB; (try simp only [hB, bss, ctt]); exact bM rfl
 apply dR 8
 rfl
 rfl
 rfl
 rfl
 intro hB; (try simp only [hB, bss, ctt]); exact aB rfl rfl rfl
 refine XQ 9 rfl rfl rfl (dS rfl rfl rfl) ?_
 refine XQ 10 rfl rfl rfl (aI rfl) ?_
 apply dR 11
 rfl
 rfl
 rfl
 rfl
 intro hB; (try simp only [hB, bss, ctt]); exact aI rfl
 apply dR 12
 rfl
 rfl
 rfl
 rfl
 intro hB; (try simp only [hB, bss, ctt]); exact aX rfl rfl (g95 hB).1 (g95 hB).2
 apply dR 13
 rfl
 rfl
 rfl
 rfl
 intro hB; (try simp only [hB, bss, ctt]); exact aZ (k := 1) rfl (fun _ => rfl) (g95 hB) 0 rfl rfl
 apply dR 14
 rfl
 rfl
 rfl
 rfl
 intro hB; (try simp only [hB, bss, ctt]); exact aI rfl
 apply dR 15
 rfl
 rfl
 rfl
 rfl
 intro hB; (try simp only [hB, bss, ctt]); exact aX rfl rfl (g96 hB).1 (g96 hB).2
 apply dR 16
 rfl
 rfl
 rfl
 rfl
 intro hB; (try simp only [hB, bss, ctt]); exact aZ (k := 1) rfl (fun _ => rfl) (g96 hB) 0 rfl rfl
 apply dR 17
 rfl
 rfl
 rfl
 rfl
 intro hB; (try simp only [hB, bss, ctt]); exact aI rfl
 apply dR 18
 rfl
 rfl
 rfl
 rfl
 intro hB; (try simp only [hB, bss, ctt]); exact dF rfl
 apply dR 19
 rfl
 rfl
 rfl
 rfl
 intro hB; (try simp only [hB, bss, ctt]); exact aB rfl rfl rfl
 apply dR 20
 rfl
 rfl
 rfl
 rfl
 intro hB; (try simp only [hB, bss, ctt]); exact aB rfl rfl rfl
 refine XQ 21 rfl rfl rfl (dS rfl rfl rfl) ?_
 refine ig rfl ?_
 refine bf [13, 15, 104] [] ?_
 (try dsimp)
 refine Ec h rfl (fun h adS => ?_) (fun h adS => ?_)
 apply Eso
 apply WM
 refine Wk [8] [] ?_
 (try dsimp)
 apply bI
 cases h
 (try simp only [qt, qb, qn])
 refine aT (xs := _) ⟨_, rfl, rfl⟩ ?_
 rfl
 apply bG
 refine bf [13, 15] [] ?_
 (try dsimp)
 obtain ⟨k98, adT, h⟩ := fO h
 refine dV (α := Unit) (fun (i : Unit) => (⟨[], []⟩ : St)) (fun i => k98 () = some r) (fun i h => ?_) ?_
 rw [adT] at h; dsimp only at h
 (try dsimp)
 apply Eso
 apply WM
 apply dn
 (try dsimp)
 apply bI
 cases h
 (try simp only [qt, qb, qn])
 refine aT (xs := _) ⟨_, rfl, rfl⟩ ?_
 rfl
 apply Eso
 apply WM
 apply dn
 (try dsimp)
 apply bW
 (try dsimp)
 refine fD (α := Int) (fun (i : Int) => (⟨[(13, ss cO x84), (15, ss cO x94), (16, (zi_ i))], []⟩ : St)) (fun n i => gQ F x84 x94 k98 n i = some r) F (8 : Int) h ?_ (fun n i h => ?_)
 exact (Le.b (bK ⟨rfl, rfl, rfl, trivial⟩ trivial))
 generalize i = wR at h ⊢
 obtain _ | n113 := n
 cases h
 unfold gQ at h
 (try dsimp)
 apply bP
 apply Eso
 apply WM
 apply WM
 refine WQ (bM rfl) ?_
 obtain ⟨abO, h⟩ := aV h
 refine WQ (lK rfl rfl abO.1 abO.2) ?_
 refine WQ (aB rfl rfl rfl) ?_
 refine Wk [13, 15, 16, 109] [] ?_
 (try dsimp)
 refine Ec h rfl (fun h hc115 => ?_) (fun h hc115 => ?_)
 apply bG
 refine bf [13, 15, 16] [] ?_
 (try dsimp)
 apply bP
 apply bW
 apply bP
 obtain ⟨Vr, h⟩ := aV h
 obtain ⟨SQ, h⟩ := aV h
 refine iY [0, 1, 2, 3, 4, 5, 6, 7, 8] ?_
 refine XQ 0 rfl rfl rfl (aI rfl) ?_
 refine XQ 1 rfl rfl rfl (aI rfl) ?_
 refine XQ 2 rfl rfl rfl (aX rfl rfl Vr.1 Vr.2) ?_
 refine XQ 3 rfl rfl rfl (aZ (k := 1) rfl (fun _ => rfl) Vr 0 rfl rfl) ?_
 refine XQ 4 rfl rfl rfl (aI rfl) ?_
 refine XQ 5 rfl rfl rfl (aI rfl) ?_
 refine XQ 6 rfl rfl rfl (aX rfl rfl SQ.1 SQ.2) ?_
 refine XQ 7 rfl rfl rfl (aZ (k := 1) rfl (fun _ => rfl) SQ 0 rfl rfl) ?_
 refine XQ 8 rfl rfl rfl (aB rfl rfl rfl) ?_
 refine ig rfl ?_
 refine bf [13, 15, 16, 120] [] ?_
 (try dsimp)
 refine Ec h rfl (fun h XI => ?_) (fun h XI => ?_)
 apply Eso
 apply WM
 refine Wk [8] [] ?_
 (try dsimp)
 apply bI
 cases h
 (try simp only [qt, qb, qn])
 refine aT (xs := _) ⟨_, rfl, rfl⟩ ?_
 rfl
 apply bG
 refine bf [13, 15, 16] [] ?_
 (try dsimp)
 apply eP
 apply WM
 obtain ⟨Vs, h⟩ := aV h
 refine WQ (cZ rfl rfl Vs.1 Vs.2) ?_
 apply WM
 apply dn
 refine ⟨n113, (wR + (1 : Int)), Nat.lt_succ_self _, h, ?_⟩
 exact (Le.b (bK ⟨rfl, rfl, rfl, trivial⟩ trivial))
 apply gV
 refine ⟨(), h, ?_⟩
 exact (Le.b (bK trivial trivial))
 apply Eso
 apply WM
 apply dn
 (try dsimp)
 apply bW
 (try dsimp)
 refine fD (α := Int × Bool × Int × Int × (List Int) × (List bQ)) (fun (i : Int × Bool × Int × Int × (List Int) × (List bQ)) => (⟨[(3, (zi_ a3)), (9, S.one (.ptr 7361 0)), (13, ss cO x84), (14, (zi_ i.1))], [(7360, (⟨true, flat bJ i.2.2.2.2.2⟩ : Reg)), (7361, (⟨false, [.own 7360 0 i.2.2.2.2.2.length (some (18, 86)), vb i.2.1, vi i.2.2.1, vi i.2.2.2.1, sl bT i.2.2.2.2.1]⟩ : Reg))]⟩ : St)) (fun n i => gK F a3 k93 n i.1 i.2.1 i.2.2.1 i.2.2.2.1 i.2.2.2.2.1 i.2.2.2.2.2 = some r) F ((0 : Int), x10.1.gB, x10.1.dA, x10.1.dO, x10.1.dN, x10.1.xl) h ?_ (fun n i h => ?_)
 exact (Le.b (bK ⟨rfl, rfl, rfl, rfl, trivial⟩ ⟨rfl, rfl, trivial⟩))
 obtain ⟨v145, v146, Vm, v148, Vo, Vp⟩ := i; dsimp only at h
 obtain _ | n151 := n
 cases h
 unfold gK at h
 (try dsimp)
 apply bP
 apply Eso
 apply WM
 apply WM
 refine WQ (aB rfl rfl rfl) ?_
 refine Wk [3, 9, 13, 14, 71] [7360, 7361] ?_
 (try dsimp)
 refine Ec h rfl (fun h hc152 => ?_) (fun h hc152 => ?_)
 apply bG
 refine bf [3, 9, 13, 14] [7360, 7361] ?_
 (try dsimp)
 apply bP
 apply bW
 apply Eso
 apply WM
 obtain ⟨x153, Zn, h⟩ := aN h
 rcases wX h with ⟨X0, h⟩ | ⟨acM, X0, h⟩
 refine W1 (dL [(100900, 7361), (100901, 7360)] false hP (wY X0 (qc F (⟨Vp, v146, Vm, v148, Vo⟩ : aO) x153 Zn)) rfl ⟨rfl, rfl, trivial⟩ rfl rfl rfl rfl rfl (fun h => by first | rfl | cases h) rfl) ?_
 (try dsimp)
 apply WM
 refine WQ (bD rfl rfl) ?_
 refine WQ (bD rfl rfl) ?_
 apply WM
 refine Wk [3, 9, 12, 13, 14] [7360, 7361] ?_
 (try dsimp)
 apply Eso
 apply WM
 refine WQ (aB rfl rfl rfl) ?_
 refine Wk [3, 9, 13, 14, 80] [7360, 7361] ?_
 (try dsimp)
 refine Ec h rfl (fun h abP => ?_) (fun h abP => ?_)
 apply Eso
 apply WM
 refine Wk [8] [] ?_
 (try dsimp)
 apply bI
 cases h
 (try simp only [qt, qb, qn])
 refine aT (xs := _) ⟨_, rfl, rfl⟩ ?_
 rfl
 apply bG
 refine bf [3, 9, 13, 14] [7360, 7361] ?_
 (try dsimp)
 apply eP
 apply WM
 obtain ⟨abQ, h⟩ := aV h
 refine WQ (cZ rfl rfl abQ.1 abQ.2) ?_
 apply WM
 apply dn
 refine ⟨n151, ((v145 + (1 : Int)), x153.1.gB, x153.1.dA, x153.1.dO, x153.1.dN, x153.1.xl), Nat.lt_succ_self _, h, ?_⟩
 exact (Le.b (bK ⟨rfl, rfl, rfl, rfl, trivial⟩ ⟨rfl, rfl, trivial⟩))
 refine W1 (dL [(100900, 7361), (100901, 7360), (7360, 7760), (7361, 7761), (7362, 7762)] false hP (wZ X0 (qc F (⟨Vp, v146, Vm, v148, Vo⟩ : aO) x153 Zn)) rfl ⟨rfl, rfl, trivial⟩ rfl rfl rfl rfl rfl (fun h => by first | rfl | cases h) rfl) ?_
 (try dsimp)
 apply WM
 refine WQ (bD rfl rfl) ?_
 refine WQ (bD rfl rfl) ?_
 apply WM
 refine Wk [3, 9, 12, 13, 14] [7360, 7361] ?_
 (try dsimp)
 apply Eso
 apply WM
 refine WQ (aB rfl rfl rfl) ?_
 refine Wk [3, 9, 13, 14, 80] [7360, 7361] ?_
 (try dsimp)
 refine Ec h rfl (fun h hc157 => ?_) (fun h hc157 => ?_)
 apply Eso
 apply WM
 refine Wk [8] [] ?_
 (try dsimp)
 apply bI
 cases h
 (try simp only [qt, qb, qn])
 refine aT (xs := _) ⟨_, rfl, rfl⟩ ?_
 rfl
 apply bG
 refine bf [3, 9, 13, 14] [7360, 7361] ?_
 (try dsimp)
 apply eP
 apply WM
 obtain ⟨abR, h⟩ := aV h
 refine WQ (cZ rfl rfl abR.1 abR.2) ?_
 apply WM
 apply dn
 refine ⟨n151, ((v145 + (1 : Int)), x153.1.gB, x153.1.dA, x153.1.dO, x153.1.dN, x153.1.xl), Nat.lt_succ_self _, h, ?_⟩
 exact (Le.b (bK ⟨rfl, rfl, rfl, rfl, trivial⟩ ⟨rfl, rfl, trivial⟩))
 apply gV
 refine ⟨(v146, Vm, v148, Vo, Vp), h, ?_⟩
 exact (Le.b (bK ⟨rfl, rfl, rfl, trivial⟩ ⟨rfl, rfl, trivial⟩))
end Go.V.P
