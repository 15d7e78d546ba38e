/- Walks: each function does what its model says: reeve/boot.steps, (*reeve/nvm.Mem).may, slices.Index[[]int,int], slices.Contains[[]int,int], (*reeve/row.Row).Evict, (*reeve/row.Row).Fall, (*reeve/nvm.Mem).Crash, (*reeve/nvm.Mem).burn, reeve/row.in, (*reeve/row.Row).Store, (*reeve/nvm.Mem).Store, slices.Sort[[]int,int], slices.Compact[[]int,int], reeve/wset.Rows, (*reeve/row.Row).Flush, (*reeve/nvm.Mem).Flush, (*reeve/row.Row).Fence, (*reeve/nvm.Mem).Fence, reeve/boot.last, reeve/gear.New, reeve/boot.Boot, (*reeve/gear.Gear).may. Printed by mg.py. No premises. -/
import Derived.Test.YteocabneaenpeaaGreatP4
set_option linter.unusedVariables false
set_option linter.unusedSimpArgs false
set_option maxRecDepth 20000
set_option maxHeartbeats 4000000
namespace Go.V.P
open Go.V Go.Proofs
def FY : dJ := (.seq (.ops [(o (.box 97 (t 0)) 1), (o (.mv cn) 2)]) (.seq (.ops [(o (.add 0 (t 1)) 10), (o (.add 0 (t 10)) 11), (o (.load true 3 (t 11)) 12), (o (.jR [zi, zi, zi]) 3), (n_ (.store 3 (t 3) (t 12)))]) (.seq (.ops [(o (.mv cn) 4)]) (.seq (.ops [(o (.mv cn) 5)]) (.seq (.seq (.ops [(o (.add 5 (t 1)) 13), (o (.load false 1 (t 13)) 14), (o (.len false (t 14)) 15), (o (.mv (ci 0)) 16)]) (.block 0 (.loop (.seq (.ops [(o (.bin .lss 3 (t 16) (t 15)) 17)]) (.seq (.cond (t 17) .skip (.exit 0)) (.seq (.block 1 (.seq (.ops [(w 18 16), (o (.gJ 10 (t 14) (t 16)) 19), (o (.load true 10 (t 19)) 20), (o (.jR [zi, zu, zu, zu, zu, zu, zi, zu, zi, .nil]) 7), (w 6 18), (n_ (.store 10 (t 7) (t 20)))]) (.seq (.ops [(o (.load true 3 (t 3)) 22), (w 23 6), (o (.call 30 [(t 22), (t 23)]) 24), (w 21 24), (o (.ext 0 (t 21)) 25), (o (.ext 1 (t 21)) 26), (w 8 25), (w 9 26)]) (.seq (.seq (.ops [(o (.add 0 (t 7)) 27), (o (.load false 1 (t 27)) 28), (o (.bin .eql 3 (t 28) (ci 2)) 29)]) (.cond (t 29) (.ops [(w 30 4), (o (.add 9 (t 7)) 31), (o (.load false 1 (t 31)) 32), (o (.kK 1 55 1 [.nil] [(0, (1, (t 32)))]) 33), (o (.app 100 55 1 24 (t 30) (t 33)) 34), (w 4 34)]) .skip)) (.seq (.seq (.ops [(o (.add 0 (t 7)) 35), (o (.load false 1 (t 35)) 36), (o (.bin .eql 3 (t 36) (ci 1)) 37)]) (.cond (t 37) (.ops [(w 38 5), (w 39 8), (o (.bin .add 3 (t 39) (ci 5)) 40), (o (.build [zi, zu] [(0, (1, (t 40)))]) 41), (w 42 8), (o (.bin .add 3 (t 42) (ci 6)) 43), (o (.build [zi, zu] [(0, (1, (t 43)))]) 44), (o (.kK 2 154 2 [zi, zu, zi, zu] [(0, (2, (t 41))), (2, (2, (t 44)))]) 45), (o (.app 55 154 2 16 (t 38) (t 45)) 46), (w 5 46)]) .skip)) (.ops [(w 47 5), (w 48 8), (o (.load true 10 (t 7)) 49), (o (.call 40 [(t 49)]) 50), (o (.call 65 [(t 50)]) 51), (o (.build [zi, zu] [(0, (1, (t 48))), (1, (1, (t 51)))]) 52), (o (.kK 2 154 1 [zi, zu] [(0, (2, (t 52)))]) 53), (o (.app 55 154 2 16 (t 47) (t 53)) 54), (w 5 54)])))))) (.ops [(o (.bin .add 3 (t 16) (ci 1)) 55), (w 16 55)]))))))) (.seq (.ops [(w 56 4), (w 57 5), (o (.load true 3 (t 3)) 58), (o (.call 69 [(t 58)]) 59), (o (.build [zi, zu] [(0, (1, (t 59)))]) 60), (o (.kK 2 154 1 [zi, zu] [(0, (2, (t 60)))]) 61), (o (.kK 1 55 2 [.nil, .nil] [(0, (1, (t 57))), (1, (1, (t 61)))]) 62), (o (.app 100 55 1 24 (t 56) (t 62)) 63), (w 4 63)]) (.seq (.seq (.ops [(o (.add 7 (t 1)) 64), (o (.load false 1 (t 64)) 65)]) (.cond (t 65) (.seq (.draw [((w 66 4), []), ((o (.load true 8 (t 1)) 67), []), ((o (.load true 3 (t 3)) 68), []), ((o (.call 58 [(t 68)]) 69), [2]), ((o (.call 70 [(t 67), (t 69)]) 70), [1, 3, 3]), ((o (.load true 8 (t 1)) 71), []), ((o (.call 70 [(t 71), (ci 0)]) 72), [5, 4]), ((o (.kK 1 55 2 [.nil, .nil] [(0, (1, (t 70))), (1, (1, (t 72)))]) 73), [4, 6]), ((o (.app 100 55 1 24 (t 66) (t 73)) 74), [0, 7, 6]), ((w 2 74), [8, 8, 0, 1, 2, 3, 4, 5, 6, 7, 8])]) .ret) .skip)) (.seq (.draw [((w 75 4), []), ((o (.load true 8 (t 1)) 76), []), ((o (.call 70 [(t 76), (ci 0)]) 77), [1]), ((o (.load true 8 (t 1)) 78), []), ((o (.load true 3 (t 3)) 79), []), ((o (.call 58 [(t 79)]) 80), [4, 2]), ((o (.call 70 [(t 78), (t 80)]) 81), [3, 5, 5]), ((o (.kK 1 55 2 [.nil, .nil] [(0, (1, (t 77))), (1, (1, (t 81)))]) 82), [2, 6]), ((o (.app 100 55 1 24 (t 75) (t 82)) 83), [0, 7, 6]), ((w 2 83), [8, 8, 0, 1, 2, 3, 4, 5, 6, 7, 8])]) .ret))))))))
theorem Pj : Fits Tryz.prog 34 1 FY [(.tmp 2)] := cu Tryz.func34 (by kernel_rfl) (by kernel_rfl) (by kernel_rfl)
theorem Pm (F : Nat) (a0 : iJ) (r : (List (List aA))) (h : oK F a0 = some r) : PC Tryz.prog 34 [S.agg [vi a0.xs.bH.ak, vi a0.xs.bH.au, vi a0.xs.bH.ay, sl aQ a0.xs.au, sl aS a0.xs.ay, sl gI a0.mO, vu a0.lQ, vb a0.mZ]] (ss iM r) := by
 unfold oK at h
 refine fC Pj rfl rfl ?_
 intro C hP
 unfold FY; dsimp
 apply Eso
 refine W1 (eu rfl rfl rfl rfl) ?_
 apply WM
 refine Wk [1] [1] ?_
 (try dsimp)
 apply Eso
 refine WQ (ah rfl rfl) ?_
 refine WQ (ah rfl rfl) ?_
 refine WQ qlA ?_
 refine W1 (dw rfl rfl) ?_
 refine W1 dst ?_
 refine Wk [1, 3] [1, 3] ?_
 (try dsimp)
 apply Eso
 apply WM
 apply dn
 (try dsimp)
 apply Eso
 apply WM
 apply dn
 (try dsimp)
 obtain ⟨k3, k3d, h⟩ := fO h
 refine dV (α := (List aA) × (List (List aA))) (fun (i : (List aA) × (List (List aA))) => (⟨[(1, S.one (.ptr 1 0)), (3, S.one (.ptr 3 0)), (4, S.one (.own 1034 0 i.2.length (some (1, 55)))), (5, S.one (.own 1046 0 i.1.length (some (2, 154))))], [(1, (⟨true, [vi a0.xs.bH.ak, vi a0.xs.bH.au, vi a0.xs.bH.ay, sl aQ a0.xs.au, sl aS a0.xs.ay, sl gI a0.mO, vu a0.lQ, vb a0.mZ]⟩ : Reg)), (3, (⟨true, [vi a0.xs.bH.ak, vi a0.xs.bH.au, vi a0.xs.bH.ay]⟩ : Reg)), (1034, (⟨true, flat iM i.2⟩ : Reg)), (1046, (⟨true, flat bZ i.1⟩ : Reg))]⟩ : St)) (fun i => k3 i.1 i.2 = some r) (fun i h => ?_) ?_
 obtain ⟨v1, v2⟩ := i
 rw [k3d] at h; dsimp only at h
 (try dsimp)
 apply Eso
 apply WM
 apply WM
 refine WQ qlA ?_
 obtain ⟨x4, x4h, h⟩ := aN h
 refine W1 (aF hP (KR F a0.xs.bH x4 x4h) rfl rfl rfl) ?_
 refine WQ (bV rfl rfl) ?_
 refine W1 (dY rfl rfl rfl rfl) ?_
 refine W1 (dY rfl rfl rfl rfl) ?_
 obtain ⟨g5, h⟩ := aV h
 obtain ⟨g6, h⟩ := aV h
 obtain ⟨g7, h⟩ := aV h
 refine W1 (Does.ghost (l7 (r := 1046) rfl rfl).b (Does.ghost (mM (r := 61) (g' := (⟨true, flat bZ ([(⟨x4, (0 : Int)⟩ : aA)] : List aA)⟩ : Reg)) rfl rfl).b (Does.ghost (mV (i := 61) _ rfl g5).b (Does.ghost (mM (r := 62) rfl (congrArg (fun n_ => (⟨false, [sl bZ v1, .own 61 0 n_ (some (2, 154))]⟩ : Reg)) g6)).b (Does.ghost (l7 (r := 61) rfl rfl).b (jc (e := iM) rfl rfl (fun _ => rfl) (fun _ => rfl) rfl (Src.lit (e := iM) ([v1, ([(⟨x4, (0 : Int)⟩ : aA)] : List aA)] : List (List aA)) rfl (fun _ => rfl) rfl rfl) g7 rfl)))))) ?_
 apply WM
 refine Wk [1, 3, 4] [1, 3, 1034] ?_
 (try dsimp)
 apply bP
 apply Eso
 refine WQ (ah rfl rfl) ?_
 refine WQ (aj rfl rfl rfl) ?_
 refine Wk [1, 3, 4, 65] [1, 3, 1034] ?_
 (try dsimp)
 refine Ec h rfl (fun h hc8 => ?_) (fun h hc8 => ?_)
 apply bP
 obtain ⟨x9, x9h, h⟩ := aN h
 obtain ⟨x10, Fg, h⟩ := aN h
 obtain ⟨x11, XR, h⟩ := aN h
 obtain ⟨g12, h⟩ := aV h
 refine iY [0, 1, 2, 5] ?_
 refine XQ 0 rfl rfl rfl (aI rfl) ?_
 refine XQ 1 rfl rfl rfl qlA ?_
 refine XQ 2 rfl rfl rfl qlA ?_
 refine XQ 5 rfl rfl rfl qlA ?_
 refine X1 rfl (XK rfl (aF hP (xU F a0.xs.bH x9 x9h) rfl rfl rfl) ?_)
 refine X1 rfl (XK rfl (aF hP (xg F a0 x9 x10 Fg) rfl rfl rfl) ?_)
 refine X1 rfl (XK rfl (aF hP (xg F a0 (0 : Int) x11 XR) rfl rfl rfl) ?_)
 refine X1 rfl (XK rfl (dY rfl rfl rfl rfl) ?_)
 refine X1 rfl (XT rfl rfl (jc (e := iM) rfl rfl (fun _ => rfl) (fun _ => rfl) rfl (Src.lit (e := iM) ([x10, x11] : List (List aA)) rfl (fun _ => rfl) rfl rfl) g12 rfl) ?_)
 refine X1 rfl (XT rfl rfl ((aI rfl).does) ?_)
 refine ig rfl ?_
 refine bf [2] [1034] ?_
 (try dsimp)
 refine fA (l7 (r := 1034) rfl rfl).b ?_
 (try dsimp)
 apply bI
 cases h
 (try simp only [qt, qb, qn])
 refine aT (xs := _) ⟨_, rfl, rfl⟩ ?_
 rfl
 apply bG
 refine bf [1, 3, 4] [1, 3, 1034] ?_
 (try dsimp)
 apply bP
 obtain ⟨x13, Ed, h⟩ := aN h
 obtain ⟨x14, QH, h⟩ := aN h
 obtain ⟨x15, Vx, h⟩ := aN h
 obtain ⟨g16, h⟩ := aV h
 refine iY [0, 1, 3, 4] ?_
 refine XQ 0 rfl rfl rfl (aI rfl) ?_
 refine XQ 1 rfl rfl rfl qlA ?_
 refine XQ 3 rfl rfl rfl qlA ?_
 refine XQ 4 rfl rfl rfl qlA ?_
 refine X1 rfl (XK rfl (aF hP (xg F a0 (0 : Int) x13 Ed) rfl rfl rfl) ?_)
 refine X1 rfl (XK rfl (aF hP (xU F a0.xs.bH x14 QH) rfl rfl rfl) ?_)
 refine X1 rfl (XK rfl (aF hP (xg F a0 x14 x15 Vx) rfl rfl rfl) ?_)
 refine X1 rfl (XK rfl (dY rfl rfl rfl rfl) ?_)
 refine X1 rfl (XT rfl rfl (jc (e := iM) rfl rfl (fun _ => rfl) (fun _ => rfl) rfl (Src.lit (e := iM) ([x13, x15] : List (List aA)) rfl (fun _ => rfl) rfl rfl) g16 rfl) ?_)
 refine X1 rfl (XT rfl rfl ((aI rfl).does) ?_)
 refine ig rfl ?_
 refine bf [2] [1034] ?_
 (try dsimp)
 refine fA (l7 (r := 1034) rfl rfl).b ?_
 (try dsimp)
 apply bI
 cases h
 (try simp only [qt, qb, qn])
 refine aT (xs := _) ⟨_, rfl, rfl⟩ ?_
 rfl
 apply Eso
 refine WQ (ah rfl rfl) ?_
 refine WQ (aj rfl rfl rfl) ?_
 refine WQ (bM rfl) ?_
 apply WM
 refine Wk [1, 3, 4, 5, 14, 15, 16] [1, 3] ?_
 (try dsimp)
 apply bW
 (try dsimp)
 refine fD (α := Int × (List aA) × (List (List aA))) (fun (i : Int × (List aA) × (List (List aA))) => (⟨[(1, S.one (.ptr 1 0)), (3, S.one (.ptr 3 0)), (4, S.one (.own 1034 0 i.2.2.length (some (1, 55)))), (5, S.one (.own 1046 0 i.2.1.length (some (2, 154)))), (14, ss gI a0.mO), (15, (zi_ ((a0.mO.length : Nat) : Int))), (16, (zi_ i.1))], [(1, (⟨true, [vi a0.xs.bH.ak, vi a0.xs.bH.au, vi a0.xs.bH.ay, sl aQ a0.xs.au, sl aS a0.xs.ay, sl gI a0.mO, vu a0.lQ, vb a0.mZ]⟩ : Reg)), (3, (⟨true, [vi a0.xs.bH.ak, vi a0.xs.bH.au, vi a0.xs.bH.ay]⟩ : Reg)), (1034, (⟨true, flat iM i.2.2⟩ : Reg)), (1046, (⟨true, flat bZ i.2.1⟩ : Reg))]⟩ : St)) (fun n i => iE F a0 k3 n i.1 i.2.1 i.2.2 = some r) F ((0 : Int), ([] : List aA), ([] : List (List aA))) h ?_ (fun n i h => ?_)
 refine iZ (sV (i := 4) (r := 1034) 1 55 rfl rfl) ?_
 refine iZ (sV (i := 5) (r := 1046) 2 154 rfl rfl) ?_
 exact (Le.b (bK ⟨rfl, rfl, rfl, rfl, rfl, rfl, rfl, trivial⟩ ⟨rfl, rfl, rfl, rfl, trivial⟩))
 obtain ⟨v54, v55, v56⟩ := i; dsimp only at h
 obtain _ | n57 := n
 cases h
 unfold iE at h
 (try dsimp)
 apply Eso
 refine WQ (aB rfl rfl rfl) ?_
 apply dn
 (try dsimp)
 apply bP
 refine Ec h rfl (fun h adx => ?_) (fun h adx => ?_)
 apply bG
 refine bf [1, 3, 4, 5, 14, 15, 16] [1, 3, 1034, 1046] ?_
 (try dsimp)
 apply bP
 apply bW
 apply Eso
 apply WM
 obtain ⟨g59, h⟩ := aV h
 refine WQ (aX rfl rfl g59.1 g59.2) ?_
 refine WQ (dX (k := 10) rfl (fun _ => rfl) g59 0 rfl rfl rfl) ?_
 refine W1 (dw rfl rfl) ?_
 apply WM
 refine W1 dst ?_
 refine Wk [1, 3, 4, 5, 6, 7, 14, 15, 16] [1, 3, 7, 1034, 1046] ?_
 (try dsimp)
 apply Eso
 refine WQ qlA ?_
 apply WM
 obtain ⟨x60, ady, h⟩ := aN h
 refine W1 (aF hP (sW F a0.xs.bH v54 x60 ady) rfl rfl rfl) ?_
 apply WM
 refine WQ (bD rfl rfl) ?_
 refine WQ (bD rfl rfl) ?_
 apply WM
 apply WM
 refine Wk [1, 3, 4, 5, 7, 8, 14, 15, 16] [1, 3, 7, 1034, 1046] ?_
 (try dsimp)
 obtain ⟨k62, adz, h⟩ := fO h
 refine dV (α := (List (List aA))) (fun (i : (List (List aA))) => (⟨[(1, S.one (.ptr 1 0)), (3, S.one (.ptr 3 0)), (4, S.one (.own 1034 0 i.length (some (1, 55)))), (5, S.one (.own 1046 0 v55.length (some (2, 154)))), (7, S.one (.ptr 7 0)), (8, (zi_ x60.1)), (14, ss gI a0.mO), (15, (zi_ ((a0.mO.length : Nat) : Int))), (16, (zi_ v54))], [(1, (⟨true, [vi a0.xs.bH.ak, vi a0.xs.bH.au, vi a0.xs.bH.ay, sl aQ a0.xs.au, sl aS a0.xs.ay, sl gI a0.mO, vu a0.lQ, vb a0.mZ]⟩ : Reg)), (3, (⟨true, [vi a0.xs.bH.ak, vi a0.xs.bH.au, vi a0.xs.bH.ay]⟩ : Reg)), (7, (⟨true, [vi (nth a0.mO v54).bY, vu (nth a0.mO v54).lF, vu (nth a0.mO v54).xL.c0, vu (nth a0.mO v54).xL.c1, vu (nth a0.mO v54).xL.c2, vu (nth a0.mO v54).xL.c3, vi (nth a0.mO v54).dh.lW, vu (nth a0.mO v54).dh.xW, vi (nth a0.mO v54).dh.xN, .sl (flat bZ (nth a0.mO v54).xW) (nth a0.mO v54).xW.length]⟩ : Reg)), (1034, (⟨true, flat iM i⟩ : Reg)), (1046, (⟨true, flat bZ v55⟩ : Reg))]⟩ : St)) (fun i => k62 i = some r) (fun i h => ?_) ?_
 let iv := i; change k62 i = some r at h; generalize i = v61 at h ⊢
 rw [adz] at h; dsimp only at h
 (try dsimp)
 obtain ⟨k64, adA, h⟩ := fO h
 refine dV (α := (List aA)) (fun (i : (List aA)) => (⟨[(1, S.one (.ptr 1 0)), (3, S.one (.ptr 3 0)), (4, S.one (.own 1034 0 v61.length (some (1, 55)))), (5, S.one (.own 1046 0 i.length (some (2, 154)))), (7, S.one (.ptr 7 0)), (8, (zi_ x60.1)), (14, ss gI a0.mO), (15, (zi_ ((a0.mO.length : Nat) : Int))), (16, (zi_ v54))], [(1, (⟨true, [vi a0.xs.bH.ak, vi a0.xs.bH.au, vi a0.xs.bH.ay, sl aQ a0.xs.au, sl aS a0.xs.ay, sl gI a0.mO, vu a0.lQ, vb a0.mZ]⟩ : Reg)), (3, (⟨true, [vi a0.xs.bH.ak, vi a0.xs.bH.au, vi a0.xs.bH.ay]⟩ : Reg)), (7, (⟨true, [vi (nth a0.mO v54).bY, vu (nth a0.mO v54).lF, vu (nth a0.mO v54).xL.c0, vu (nth a0.mO v54).xL.c1, vu (nth a0.mO v54).xL.c2, vu (nth a0.mO v54).xL.c3, vi (nth a0.mO v54).dh.lW, vu (nth a0.mO v54).dh.xW, vi (nth a0.mO v54).dh.xN, .sl (flat bZ (nth a0.mO v54).xW) (nth a0.mO v54).xW.length]⟩ : Reg)), (1034, (⟨true, flat iM v61⟩ : Reg)), (1046, (⟨true, flat bZ i⟩ : Reg))]⟩ : St)) (fun i => k64 i = some r) (fun i h => ?_) ?_
 let iv := i; change k64 i = some r at h; generalize i = v63 at h ⊢
 rw [adA] at h; dsimp only at h
 (try dsimp)
 apply eP
 apply WM
 apply WM
 refine WQ qlA ?_
 obtain ⟨x65, adB, h⟩ := aN h
 refine W1 (aF hP (QV F (nth a0.mO v54) x65 adB) rfl rfl rfl) ?_
 obtain ⟨x66, aaC, h⟩ := aN h
 refine W1 (aF hP (Iy F x65 x66 aaC) rfl rfl rfl) ?_
 refine WQ (bV rfl rfl) ?_
 refine W1 (dY rfl rfl rfl rfl) ?_
 obtain ⟨g67, h⟩ := aV h
 refine W1 (jc (e := bZ) rfl rfl (fun _ => rfl) (fun _ => rfl) rfl (Src.lit (e := bZ) ([(⟨x60.1, x66⟩ : aA)] : List aA) rfl (fun _ => rfl) rfl rfl) g67 rfl) ?_
 apply WM
 refine Wk [1, 3, 4, 5, 14, 15, 16] [1, 3, 1034, 1046] ?_
 (try dsimp)
 apply eP
 obtain ⟨g68, h⟩ := aV h
 refine WQ (cZ rfl rfl g68.1 g68.2) ?_
 apply WM
 apply dn
 refine ⟨n57, ((v54 + (1 : Int)), (v63 ++ ([(⟨x60.1, x66⟩ : aA)] : List aA)), v61), Nat.lt_succ_self _, h, ?_⟩
 exact (Le.b (bK ⟨rfl, rfl, rfl, rfl, rfl, rfl, rfl, trivial⟩ ⟨rfl, rfl, rfl, rfl, trivial⟩))
 apply Eso
 refine WQ (ah rfl rfl) ?_
 refine WQ (aj rfl rfl rfl) ?_
 refine WQ (aB rfl rfl rfl) ?_
 refine Wk [1, 3, 4, 5, 7, 8, 14, 15, 16, 37] [1, 3, 7, 1034, 1046] ?_
 (try dsimp)
 refine Ec h rfl (fun h aaJ => ?_) (fun h aaJ => ?_)
 apply eP
 apply WM
 apply WM
 obtain ⟨g70, h⟩ := aV h
 refine WQ (cZ rfl rfl g70.1 g70.2) ?_
 refine WQ (bV rfl rfl) ?_
 apply WM
 obtain ⟨g71, h⟩ := aV h
 refine WQ (cZ rfl rfl g71.1 g71.2) ?_
 refine WQ (bV rfl rfl) ?_
 refine W1 (dY rfl rfl rfl rfl) ?_
 obtain ⟨g72, h⟩ := aV h
 refine W1 (jc (e := bZ) rfl rfl (fun _ => rfl) (fun _ => rfl) rfl (Src.lit (e := bZ) ([(⟨(x60.1 + (5 : Int)), (0 : Int)⟩ : aA), (⟨(x60.1 + (6 : Int)), (0 : Int)⟩ : aA)] : List aA) rfl (fun _ => rfl) rfl rfl) g72 rfl) ?_
 apply WM
 apply dn
 refine ⟨(v55 ++ ([(⟨(x60.1 + (5 : Int)), (0 : Int)⟩ : aA), (⟨(x60.1 + (6 : Int)), (0 : Int)⟩ : aA)] : List aA)), h, ?_⟩
 exact (Le.b (bK ⟨rfl, rfl, rfl, rfl, rfl, rfl, rfl, rfl, rfl, trivial⟩ ⟨rfl, rfl, rfl, rfl, rfl, trivial⟩))
 apply bG
 refine ⟨v55, h, ?_⟩
 exact (Le.b (bK ⟨rfl, rfl, rfl, rfl, rfl, rfl, rfl, rfl, rfl, trivial⟩ ⟨rfl, rfl, rfl, rfl, rfl, trivial⟩))
 apply Eso
 refine WQ (ah rfl rfl) ?_
 refine WQ (aj rfl rfl rfl) ?_
 refine WQ (aB rfl rfl rfl) ?_
 refine Wk [1, 3, 4, 5, 7, 8, 14, 15, 16, 29] [1, 3, 7, 1034, 1046] ?_
 (try dsimp)
 refine Ec h rfl (fun h aav => ?_) (fun h aav => ?_)
 apply eP
 apply WM
 refine WQ (ah rfl rfl) ?_
 refine WQ (aj rfl rfl rfl) ?_
 refine W1 (dY rfl rfl rfl rfl) ?_
 obtain ⟨g74, h⟩ := aV h
 refine W1 (jc (e := iM) rfl rfl (fun _ => rfl) (fun _ => rfl) rfl (Src.lit (e := iM) ([(nth a0.mO v54).xW] : List (List aA)) rfl (fun _ => rfl) rfl rfl) g74 rfl) ?_
 apply WM
 apply dn
 refine ⟨(v56 ++ ([(nth a0.mO v54).xW] : List (List aA))), h, ?_⟩
 exact (Le.b (bK ⟨rfl, rfl, rfl, rfl, rfl, rfl, rfl, rfl, rfl, trivial⟩ ⟨rfl, rfl, rfl, rfl, rfl, trivial⟩))
 apply bG
 refine ⟨v56, h, ?_⟩
 exact (Le.b (bK ⟨rfl, rfl, rfl, rfl, rfl, rfl, rfl, rfl, rfl, trivial⟩ ⟨rfl, rfl, rfl, rfl, rfl, trivial⟩))
 apply gV
 refine ⟨(v55, v56), h, ?_⟩
 exact (Le.b (bK ⟨rfl, rfl, rfl, rfl, trivial⟩ ⟨rfl, rfl, rfl, rfl, trivial⟩))
def DU : dJ := (.seq (.ops [(o (.mv (ci 0)) 6)]) (.seq (.block 0 (.seq (.ops [(w 8 0), (o (.iK (t 8)) 9), (o (.add 1 (t 9)) 10), (o (.load false 1 (t 10)) 11), (w 7 11)]) (.cond (t 7) (.seq (.ops [(o (.mv (ci 12)) 6)]) .ret) (.seq (.ops [(w 13 1), (o (.bin .lss 3 (t 13) (ci 0)) 14), (w 15 14), (g_ (.mv (t 1)) 16 15 false), (g_ (.mv (t 2)) 17 15 false), (g_ (.bin .geq 3 (t 16) (t 17)) 18 15 false), (o (.pick (t 15) (cb true) (t 18)) 19), (w 12 19)]) (.cond (t 12) (.seq (.ops [(o (.mv (ci 1)) 6)]) .ret) .skip))))) (.seq (.ops [(o (.mv (ci 0)) 6)]) .ret)))
theorem MV : Fits Tryz.prog 107 3 DU [(.tmp 6)] := cu Tryz.func107 (by kernel_rfl) (by kernel_rfl) (by kernel_rfl)
theorem yY (F : Nat) (a0 : aO) (a1 : Int) (a2 : Int) (r : Int) (h : oU F a0 a1 a2 = some r) : AC Tryz.prog 107 [S.one (.ptr 100900 0), (zi_ a1), (zi_ a2)] [(100900, (⟨false, [.own 100901 0 a0.xl.length (some (18, 86)), vb a0.gB, vi a0.dA, vi a0.dO, sl bT a0.dN]⟩ : Reg)), (100901, (⟨true, flat bJ a0.xl⟩ : Reg))] (fun x s' => x = (zi_ r) ∧ qx s' [(100900, (⟨false, [.own 100901 0 a0.xl.length (some (18, 86)), vb a0.gB, vi a0.dA, vi a0.dO, sl bT a0.dN]⟩ : Reg)), (100901, (⟨true, flat bJ a0.xl⟩ : Reg))]) := by
 unfold oU at h
 refine qW MV rfl ?_
 intro C hP
 unfold DU; dsimp
 apply Eso
 apply WM
 refine Wk [0, 1, 2] [100900, 100901] ?_
 (try dsimp)
 apply bP
 apply bW
 apply Eso
 apply WM
 refine WQ (bU rfl rfl) ?_
 refine WQ (ah rfl rfl) ?_
 refine WQ (aj rfl rfl rfl) ?_
 apply WM
 refine Wk [1, 2, 7] [100900, 100901] ?_
 (try dsimp)
 refine Ec h rfl (fun h hc1 => ?_) (fun h hc1 => ?_)
 apply Eso
 apply WM
 refine Wk [6] [100900, 100901] ?_
 (try dsimp)
 apply bI
 cases h
 (try simp only [qt, qb, qn])
 refine aT (xs := _) ⟨_, rfl, rfl⟩ ?_
 show _ ∧ _
 exact ⟨rfl, ⟨(by first | rfl | simp [aG, aP, aH]), ⟨(by first | rfl | simp [aG, aP, aH]), trivial⟩⟩⟩
 apply Eso
 apply WM
 refine WQ (aB rfl rfl rfl) ?_
 apply WM
 apply aC
 rfl
 intro hB; (try simp only [hB, bss, ctt]); exact aI rfl
 apply aC
 rfl
 intro hB; (try simp only [hB, bss, ctt]); exact aI rfl
 apply aC
 rfl
 intro hB; (try simp only [hB, bss, ctt]); exact aB rfl rfl rfl
 refine WQ (dS rfl rfl rfl) ?_
 apply WM
 refine Wk [12] [100900, 100901] ?_
 (try dsimp)
 refine Ec h rfl (fun h hc2 => ?_) (fun h hc2 => ?_)
 apply Eso
 apply WM
 refine Wk [6] [100900, 100901] ?_
 (try dsimp)
 apply bI
 cases h
 (try simp only [qt, qb, qn])
 refine aT (xs := _) ⟨_, rfl, rfl⟩ ?_
 show _ ∧ _
 exact ⟨rfl, ⟨(by first | rfl | simp [aG, aP, aH]), ⟨(by first | rfl | simp [aG, aP, aH]), trivial⟩⟩⟩
 apply bG
 refine bf [] [100900, 100901] ?_
 (try dsimp)
 apply Eso
 apply WM
 apply dn
 (try dsimp)
 apply bI
 cases h
 (try simp only [qt, qb, qn])
 refine aT (xs := _) ⟨_, rfl, rfl⟩ ?_
 show _ ∧ _
 exact ⟨rfl, ⟨(by first | rfl | simp [aG, aP, aH]), ⟨(by first | rfl | simp [aG, aP, aH]), trivial⟩⟩⟩
def xY : dJ := (.seq (.ops [(o (.mv (ci 0)) 4)]) (.seq (.seq (.ops [(w 6 0), (o (.len false (t 6)) 7), (o (.mv (ci 0)) 8)]) (.block 0 (.loop (.seq (.ops [(o (.bin .lss 3 (t 8) (t 7)) 9)]) (.seq (.cond (t 9) .skip (.exit 0)) (.seq (.block 1 (.seq (.ops [(w 10 8), (w 5 10)]) (.seq (.ops [(w 11 1), (w 12 0), (w 13 5), (o (.gJ 1 (t 12) (t 13)) 14), (o (.load false 1 (t 14)) 15), (o (.bin .eql 3 (t 11) (t 15)) 16)]) (.cond (t 16) (.seq (.ops [(w 17 5), (w 4 17)]) .ret) .skip)))) (.ops [(o (.bin .add 3 (t 8) (ci 1)) 18), (w 8 18)]))))))) (.seq (.ops [(o (.mv (.const (.int .i64 (-1)))) 4)]) .ret)))
theorem Es : Fits Tryz.prog 188 2 xY [(.tmp 4)] := cu Tryz.func188 (by kernel_rfl) (by kernel_rfl) (by kernel_rfl)
theorem Et (F : Nat) (a0 : (List Int)) (a1 : Int) (r : Int) (h : sU F a0 a1 = some r) : PC Tryz.prog 188 [ss bT a0, (zi_ a1)] (zi_ r) := by
 unfold sU at h
 refine fC Es rfl rfl ?_
 intro C hP
 unfold xY; dsimp
 apply Eso
 apply WM
 refine Wk [0, 1] [] ?_
 (try dsimp)
 obtain ⟨k1, k1d, h⟩ := fO h
 refine dV (α := Unit) (fun (i : Unit) => (⟨[], []⟩ : St)) (fun i => k1 () = some r) (fun i h => ?_) ?_
 rw [k1d] at h; dsimp only at h
 (try dsimp)
 apply Eso
 apply WM
 apply dn
 (try dsimp)
 apply bI
 cases h
 (try simp only [qt, qb, qn])
 refine aT (xs := _) ⟨_, rfl, rfl⟩ ?_
 rfl
 apply Eso
 apply WM
 refine WQ (bM rfl) ?_
 apply WM
 refine Wk [0, 1, 7, 8] [] ?_
 (try dsimp)
 apply bW
 (try dsimp)
 refine fD (α := Int) (fun (i : Int) => (⟨[(0, ss bT a0), (1, (zi_ a1)), (7, (zi_ ((a0.length : Nat) : Int))), (8, (zi_ i))], []⟩ : St)) (fun n i => oD F a0 a1 k1 n i = some r) F (0 : Int) h ?_ (fun n i h => ?_)
 exact (Le.b (bK ⟨rfl, rfl, rfl, rfl, trivial⟩ trivial))
 generalize i = v11 at h ⊢
 obtain _ | n12 := n
 cases h
 unfold oD at h
 (try dsimp)
 apply Eso
 refine WQ (aB rfl rfl rfl) ?_
 apply dn
 (try dsimp)
 apply bP
 refine Ec h rfl (fun h hc13 => ?_) (fun h hc13 => ?_)
 apply bG
 refine bf [0, 1, 7, 8] [] ?_
 (try dsimp)
 apply bP
 apply bW
 apply Eso
 apply WM
 apply WM
 refine Wk [0, 1, 5, 7, 8] [] ?_
 (try dsimp)
 apply Eso
 apply WM
 apply WM
 apply WM
 obtain ⟨g14, h⟩ := aV h
 refine WQ (aX rfl rfl g14.1 g14.2) ?_
 refine WQ (aZ (k := 1) rfl (fun _ => rfl) g14 0 rfl rfl) ?_
 refine WQ (aB rfl rfl rfl) ?_
 refine Wk [0, 1, 5, 7, 8, 16] [] ?_
 (try dsimp)
 refine Ec h rfl (fun h XL => ?_) (fun h XL => ?_)
 apply Eso
 apply WM
 apply WM
 refine Wk [4] [] ?_
 (try dsimp)
 apply bI
 cases h
 (try simp only [qt, qb, qn])
 refine aT (xs := _) ⟨_, rfl, rfl⟩ ?_
 rfl
 apply bG
 refine bf [0, 1, 7, 8] [] ?_
 (try dsimp)
 apply eP
 obtain ⟨g16, h⟩ := aV h
 refine WQ (cZ rfl rfl g16.1 g16.2) ?_
 apply WM
 apply dn
 refine ⟨n12, (v11 + (1 : Int)), Nat.lt_succ_self _, h, ?_⟩
 exact (Le.b (bK ⟨rfl, rfl, rfl, rfl, trivial⟩ trivial))
 apply gV
 refine ⟨(), h, ?_⟩
 exact (Le.b (bK trivial trivial))
def uO : dJ := (.seq (.ops [(o (.mv (cb false)) 4)]) (.seq (.ops [(w 5 0), (w 6 1), (o (.call 188 [(t 5), (t 6)]) 7), (o (.bin .geq 3 (t 7) (ci 0)) 8), (w 4 8)]) .ret))
theorem AY : Fits Tryz.prog 166 2 uO [(.tmp 4)] := cu Tryz.func166 (by kernel_rfl) (by kernel_rfl) (by kernel_rfl)
theorem AZ (F : Nat) (a0 : (List Int)) (a1 : Int) (r : Bool) (h : qN F a0 a1 = some r) : PC Tryz.prog 166 [ss bT a0, (zi_ a1)] (zb_ r) := by
 unfold qN at h
 refine fC AY rfl rfl ?_
 intro C hP
 unfold uO; dsimp
 apply Eso
 apply WM
 refine Wk [0, 1] [] ?_
 (try dsimp)
 apply Eso
 apply WM
 apply WM
 obtain ⟨x1, x1h, h⟩ := aN h
 refine W1 (aF hP (Et F a0 a1 x1 x1h) rfl rfl rfl) ?_
 refine WQ (aB rfl rfl rfl) ?_
 apply WM
 refine Wk [4] [] ?_
 (try dsimp)
 apply bI
 cases h
 (try simp only [qt, qb, qn])
 refine aT (xs := _) ⟨_, rfl, rfl⟩ ?_
 rfl
def Ag : dJ := (.seq (.ops [(o (.mv (cb false)) 2)]) (.seq (.seq (.ops [(w 3 0), (o (.iK (t 3)) 4), (o (.add 16 (t 4)) 5), (o (.load false 1 (t 5)) 6), (o (.un .not (t 6)) 7)]) (.cond (t 7) (.seq (.ops [(o (.mv (cb false)) 2)]) .ret) .skip)) (.seq (.ops [(w 8 0), (w 9 0), (o (.iK (t 9)) 10), (o (.add 8 (t 10)) 11), (o (.load true 8 (t 11)) 12), (o (.iK (t 8)) 13), (o (.add 0 (t 13)) 14), (n_ (.store 8 (t 14) (t 12)))]) (.seq (.ops [(w 15 0), (w 16 0), (o (.iK (t 15)) 17), (o (.add 16 (t 17)) 18), (n_ (.store 1 (t 18) (cb false))), (o (.iK (t 16)) 19), (o (.add 17 (t 19)) 20), (n_ (.store 1 (t 20) (cb false)))]) (.seq (.ops [(o (.mv (cb true)) 2)]) .ret)))))
theorem IX : Fits Tryz.prog 145 1 Ag [(.tmp 2)] := cu Tryz.func145 (by kernel_rfl) (by kernel_rfl) (by kernel_rfl)
theorem Ah (F : Nat) (a0 : aO) (a0i : Int) (a0o : Nat) (a0h : a0o = a0i.toNat * 18) (r : aO × Bool) (h : qI F a0 a0i = some r) : AC Tryz.prog 145 [S.one (.ptr 100901 a0o)] [(100900, (⟨false, [.own 100901 0 a0.xl.length (some (18, 86)), vb a0.gB, vi a0.dA, vi a0.dO, sl bT a0.dN]⟩ : Reg)), (100901, (⟨true, flat bJ a0.xl⟩ : Reg))] (fun x s' => x = (zb_ r.2) ∧ qx s' [(100900, (⟨false, [.own 100901 0 r.1.xl.length (some (18, 86)), vb r.1.gB, vi r.1.dA, vi r.1.dO, sl bT r.1.dN]⟩ : Reg)), (100901, (⟨true, flat bJ r.1.xl⟩ : Reg))]) := by
 unfold qI at h
 refine qW IX rfl ?_
 intro C hP
 unfold Ag; dsimp
 obtain ⟨ga0, h⟩ := aV h
 apply Eso
 apply WM
 refine Wk [0] [100900, 100901] ?_
 (try dsimp)
 apply bP
 apply Eso
 apply WM
 refine WQ (bU rfl rfl) ?_
 refine WQ (ah rfl rfl) ?_
 refine WQ (og (k := 18) rfl rfl (fun _ => rfl) ga0 16 (by omega) rfl) ?_
 refine WQ (dM rfl) ?_
 refine Wk [0, 7] [100900, 100901] ?_
 (try dsimp)
 refine Ec h rfl (fun h hc1 => ?_) (fun h hc1 => ?_)
 apply Eso
 apply WM
 refine Wk [2] [100900, 100901] ?_
 (try dsimp)
 apply bI
 cases h
 (try simp only [qt, qb, qn])
 refine aT (xs := _) ⟨_, rfl, rfl⟩ ?_
 show _ ∧ _
 exact ⟨rfl, ⟨(by first | rfl | simp [aG, aP, aH]), ⟨(by first | rfl | simp [aG, aP, aH]), trivial⟩⟩⟩
 apply bG
 refine bf [0] [100900, 100901] ?_
 (try dsimp)
 apply Eso
 apply WM
 apply WM
 refine WQ (bU rfl rfl) ?_
 refine WQ (ah rfl rfl) ?_
 refine WQ (xX (k := 18) rfl rfl (fun _ => rfl) ga0 8 (by omega) rfl rfl (by decide)) ?_
 refine WQ (bU rfl rfl) ?_
 refine WQ (ah rfl rfl) ?_
 refine W1 (eU (e := bJ) (n := 8) (k := 18) rfl rfl (fun _ => rfl) ga0 0 (by omega) rfl rfl rfl (by decide) (⟨(nth a0.xl a0i).xNew, (nth a0.xl a0i).xNew, (nth a0.xl a0i).yA, (nth a0.xl a0i).rH⟩ : bQ) rfl (by decide) rfl) ?_
 refine Wk [0] [100900, 100901] ?_
 (try dsimp)
 apply Eso
 apply WM
 apply WM
 refine WQ (bU rfl rfl) ?_
 refine WQ (ah rfl rfl) ?_
 refine W1 (oq (e := bJ) (n := 1) (k := 18) rfl rfl (fun _ => rfl) (by first | exact ga0 | exact kX.1 ga0 | simpa only [kX] using ga0) 16 (by omega) rfl rfl rfl (by decide) (⟨(nth a0.xl a0i).xNew, (nth a0.xl a0i).xNew, false, (nth a0.xl a0i).rH⟩ : bQ) rfl (by decide) rfl) ?_
 refine WQ (bU rfl rfl) ?_
 refine WQ (ah rfl rfl) ?_
 refine W1 (oq (e := bJ) (n := 1) (k := 18) rfl rfl (fun _ => rfl) (by first | exact ga0 | exact kX.1 ga0 | simpa only [kX] using ga0) 17 (by omega) rfl rfl rfl (by decide) (⟨(nth a0.xl a0i).xNew, (nth a0.xl a0i).xNew, false, false⟩ : bQ) rfl (by decide) rfl) ?_
 refine Wk [] [100900, 100901] ?_
 (try dsimp)
 apply Eso
 apply WM
 apply dn
 (try dsimp)
 refine fA (mM (r := 100900) rfl (by simp [aG, aP, aH] : (⟨false, [.own 100901 0 a0.xl.length (some (18, 86)), vb a0.gB, vi a0.dA, vi a0.dO, sl bT a0.dN]⟩ : Reg) = (⟨false, [.own 100901 0 (jl a0.xl a0i (⟨(nth a0.xl a0i).xNew, (nth a0.xl a0i).xNew, false, false⟩ : bQ)).length (some (18, 86)), vb a0.gB, vi a0.dA, vi a0.dO, sl bT a0.dN]⟩ : Reg))).b ?_
 (try dsimp)
 apply bI
 cases h
 (try simp only [qt, qb, qn])
 refine aT (xs := _) ⟨_, rfl, rfl⟩ ?_
 show _ ∧ _
 exact ⟨rfl, ⟨(by first | rfl | simp [aG, aP, aH]), ⟨(by first | rfl | simp [aG, aP, aH]), trivial⟩⟩⟩
def BL : dJ := (.seq (.ops [(o (.mv (cb false)) 4)]) (.seq (.seq (.ops [(w 5 1), (w 6 5), (g_ (.mv (t 0)) 7 6 false), (g_ (.iK (t 7)) 8 6 false), (g_ (.add 16 (t 8)) 9 6 false), (g_ (.load false 1 (t 9)) 10 6 false), (g_ (.un .not (t 10)) 11 6 false), (o (.pick (t 6) (cb true) (t 11)) 12)]) (.cond (t 12) (.seq (.ops [(w 13 0), (o (.call 145 [(t 13)]) 14), (w 4 14)]) .ret) .skip)) (.seq (.ops [(w 15 0), (w 16 0), (o (.iK (t 16)) 17), (o (.add 0 (t 17)) 18), (o (.load true 8 (t 18)) 19), (o (.iK (t 15)) 20), (o (.add 8 (t 20)) 21), (n_ (.store 8 (t 21) (t 19)))]) (.seq (.ops [(w 22 0), (w 23 0), (o (.iK (t 22)) 24), (o (.add 16 (t 24)) 25), (n_ (.store 1 (t 25) (cb false))), (o (.iK (t 23)) 26), (o (.add 17 (t 26)) 27), (n_ (.store 1 (t 27) (cb false)))]) (.seq (.ops [(o (.mv (cb true)) 4)]) .ret)))))
theorem KT : Fits Tryz.prog 165 2 BL [(.tmp 4)] := cu Tryz.func165 (by kernel_rfl) (by kernel_rfl) (by kernel_rfl)
theorem KU (F : Nat) (a0 : aO) (a0i : Int) (a0o : Nat) (a0h : a0o = a0i.toNat * 18) (a1 : Bool) (r : aO × Bool) (h : xK F a0 a0i a1 = some r) : AC Tryz.prog 165 [S.one (.ptr 100901 a0o), (zb_ a1)] [(100900, (⟨false, [.own 100901 0 a0.xl.length (some (18, 86)), vb a0.gB, vi a0.dA, vi a0.dO, sl bT a0.dN]⟩ : Reg)), (100901, (⟨true, flat bJ a0.xl⟩ : Reg))] (fun x s' => x = (zb_ r.2) ∧ qx s' [(100900, (⟨false, [.own 100901 0 r.1.xl.length (some (18, 86)), vb r.1.gB, vi r.1.dA, vi r.1.dO, sl bT r.1.dN]⟩ : Reg)), (100901, (⟨true, flat bJ r.1.xl⟩ : Reg))]) := by
 unfold xK at h
 refine qW KT rfl ?_
 intro C hP
 unfold BL; dsimp
 obtain ⟨ga0, h⟩ := aV h
 apply Eso
 apply WM
 refine Wk [0, 1] [100900, 100901] ?_
 (try dsimp)
 apply bP
 apply Eso
 apply WM
 apply WM
 apply aC
 rfl
 intro hB; (try simp only [hB, bss, ctt]); exact aI rfl
 apply aC
 rfl
 intro hB; (try simp only [hB, bss, ctt]); exact bU rfl rfl
 apply aC
 rfl
 intro hB; (try simp only [hB, bss, ctt]); exact ah rfl rfl
 apply aC
 rfl
 intro hB; (try simp only [hB, bss, ctt]); exact og (k := 18) rfl rfl (fun _ => rfl) ga0 16 (by omega) rfl
 apply aC
 rfl
 intro hB; (try simp only [hB, bss, ctt]); exact dM rfl
 refine WQ (dS rfl rfl rfl) ?_
 refine Wk [0, 12] [100900, 100901] ?_
 (try dsimp)
 refine Ec h rfl (fun h hc1 => ?_) (fun h hc1 => ?_)
 apply Eso
 apply WM
 obtain ⟨x2, x2h, h⟩ := aN h
 refine W1 (dL [] false hP (Ah F a0 a0i _ (by omega) x2 x2h) rfl ⟨rfl, rfl, trivial⟩ rfl rfl rfl rfl rfl (fun h => by first | rfl | cases h) rfl) ?_
 (try dsimp)
 apply WM
 refine Wk [4] [100900, 100901] ?_
 (try dsimp)
 apply bI
 cases h
 (try simp only [qt, qb, qn])
 refine aT (xs := _) ⟨_, rfl, rfl⟩ ?_
 show _ ∧ _
 exact ⟨rfl, ⟨(by first | rfl | simp [aG, aP, aH]), ⟨(by first | rfl | simp [aG, aP, aH]), trivial⟩⟩⟩
 apply bG
 refine bf [0] [100900, 100901] ?_
 (try dsimp)
 apply Eso
 apply WM
 apply WM
 refine WQ (bU rfl rfl) ?_
 refine WQ (ah rfl rfl) ?_
 refine WQ (xX (k := 18) rfl rfl (fun _ => rfl) ga0 0 (by omega) rfl rfl (by decide)) ?_
 refine WQ (bU rfl rfl) ?_
 refine WQ (ah rfl rfl) ?_
 refine W1 (eU (e := bJ) (n := 8) (k := 18) rfl rfl (fun _ => rfl) ga0 8 (by omega) rfl rfl rfl (by decide) (⟨(nth a0.xl a0i).jQ, (nth a0.xl a0i).jQ, (nth a0.xl a0i).yA, (nth a0.xl a0i).rH⟩ : bQ) rfl (by decide) rfl) ?_
 refine Wk [0] [100900, 100901] ?_
 (try dsimp)
 apply Eso
 apply WM
 apply WM
 refine WQ (bU rfl rfl) ?_
 refine WQ (ah rfl rfl) ?_
 refine W1 (oq (e := bJ) (n := 1) (k := 18) rfl rfl (fun _ => rfl) (by first | exact ga0 | exact kX.1 ga0 | simpa only [kX] using ga0) 16 (by omega) rfl rfl rfl (by decide) (⟨(nth a0.xl a0i).jQ, (nth a0.xl a0i).jQ, false, (nth a0.xl a0i).rH⟩ : bQ) rfl (by decide) rfl) ?_
 refine WQ (bU rfl rfl) ?_
 refine WQ (ah rfl rfl) ?_
 refine W1 (oq (e := bJ) (n := 1) (k := 18) rfl rfl (fun _ => rfl) (by first | exact ga0 | exact kX.1 ga0 | simpa only [kX] using ga0) 17 (by omega) rfl rfl rfl (by decide) (⟨(nth a0.xl a0i).jQ, (nth a0.xl a0i).jQ, false, false⟩ : bQ) rfl (by decide) rfl) ?_
 refine Wk [] [100900, 100901] ?_
 (try dsimp)
 apply Eso
 apply WM
 apply dn
 (try dsimp)
 refine fA (mM (r := 100900) rfl (by simp [aG, aP, aH] : (⟨false, [.own 100901 0 a0.xl.length (some (18, 86)), vb a0.gB, vi a0.dA, vi a0.dO, sl bT a0.dN]⟩ : Reg) = (⟨false, [.own 100901 0 (jl a0.xl a0i (⟨(nth a0.xl a0i).jQ, (nth a0.xl a0i).jQ, false, false⟩ : bQ)).length (some (18, 86)), vb a0.gB, vi a0.dA, vi a0.dO, sl bT a0.dN]⟩ : Reg))).b ?_
 (try dsimp)
 apply bI
 cases h
 (try simp only [qt, qb, qn])
 refine aT (xs := _) ⟨_, rfl, rfl⟩ ?_
 show _ ∧ _
 exact ⟨rfl, ⟨(by first | rfl | simp [aG, aP, aH]), ⟨(by first | rfl | simp [aG, aP, aH]), trivial⟩⟩⟩
def Ai : dJ := (.seq (.seq (.ops [(w 5 0), (o (.iK (t 5)) 6), (o (.add 1 (t 6)) 7), (o (.load false 1 (t 7)) 8)]) (.cond (t 8) .ret .skip)) (.seq (.seq (.ops [(w 9 0), (o (.iK (t 9)) 10), (o (.add 0 (t 10)) 11), (o (.load false 1 (t 11)) 12), (o (.len false (t 12)) 13), (o (.mv (ci 0)) 14)]) (.block 0 (.loop (.seq (.ops [(o (.bin .lss 3 (t 14) (t 13)) 15)]) (.seq (.cond (t 15) .skip (.exit 0)) (.seq (.block 1 (.seq (.ops [(w 16 14), (w 4 16)]) (.draw [((w 17 0), []), ((o (.iK (t 17)) 18), [0]), ((o (.add 0 (t 18)) 19), [1]), ((o (.load false 1 (t 19)) 20), [2]), ((w 21 4), []), ((o (.gJ 18 (t 20) (t 21)) 22), [3, 4]), ((w 23 1), []), ((w 24 4), []), ((o (.call 166 [(t 23), (t 24)]) 25), [6, 7]), ((o (.call 165 [(t 22), (t 25)]) 26), [5, 8, 8])]))) (.ops [(o (.bin .add 3 (t 14) (ci 1)) 27), (w 14 27)]))))))) (.seq (.ops [(w 28 0), (o (.iK (t 28)) 29), (o (.add 1 (t 29)) 30), (n_ (.store 1 (t 30) (cb true)))]) (.ops [(w 31 0), (o (.iK (t 31)) 32), (o (.add 3 (t 32)) 33), (n_ (.store 1 (t 33) (ci 0)))]))))
theorem IY : Fits Tryz.prog 141 2 Ai [] := cu Tryz.func141 (by kernel_rfl) (by kernel_rfl) (by kernel_rfl)
theorem IZ (F : Nat) (a0 : aO) (a1 : (List Int)) (r : aO) (h : wz F a0 a1 = some r) : AC Tryz.prog 141 [S.one (.ptr 100900 0), ss bT a1] [(100900, (⟨false, [.own 100901 0 a0.xl.length (some (18, 86)), vb a0.gB, vi a0.dA, vi a0.dO, sl bT a0.dN]⟩ : Reg)), (100901, (⟨true, flat bJ a0.xl⟩ : Reg))] (fun x s' => x = S.tup [] ∧ qx s' [(100900, (⟨false, [.own 100901 0 r.xl.length (some (18, 86)), vb r.gB, vi r.dA, vi r.dO, sl bT r.dN]⟩ : Reg)), (100901, (⟨true, flat bJ r.xl⟩ : Reg))]) := by
 unfold wz at h
 refine qW IY rfl ?_
 intro C hP
 unfold Ai; dsimp
 apply bP
 apply Eso
 apply WM
 refine WQ (bU rfl rfl) ?_
 refine WQ (ah rfl rfl) ?_
 refine WQ (aj rfl rfl rfl) ?_
 refine Wk [0, 1, 8] [100900, 100901] ?_
 (try dsimp)
 refine Ec h rfl (fun h hc1 => ?_) (fun h hc1 => ?_)
 apply bI
 cases h
 (try simp only [qt, qb, qn])
 refine aT (xs := _) rfl ?_
 show _ ∧ _
 exact ⟨rfl, ⟨(by first | rfl | simp [aG, aP, aH]), ⟨(by first | rfl | simp [aG, aP, aH]), trivial⟩⟩⟩
 apply bG
 refine bf [0, 1] [100900, 100901] ?_
 (try dsimp)
 obtain ⟨k7, k7d, h⟩ := fO h
 refine dV (α := (List bQ) × Bool × Int × Int × (List Int)) (fun (i : (List bQ) × Bool × Int × Int × (List Int)) => (⟨[(0, S.one (.ptr 100900 0))], [(100900, (⟨false, [.own 100901 0 i.1.length (some (18, 86)), vb i.2.1, vi i.2.2.1, vi i.2.2.2.1, sl bT i.2.2.2.2]⟩ : Reg)), (100901, (⟨true, flat bJ i.1⟩ : Reg))]⟩ : St)) (fun i => k7 i.1 i.2.1 i.2.2.1 i.2.2.2.1 i.2.2.2.2 = some r) (fun i h => ?_) ?_
 obtain ⟨v2, v3, v4, v5, v6⟩ := i
 rw [k7d] at h; dsimp only at h
 (try dsimp)
 apply Eso
 apply WM
 refine WQ (bU rfl rfl) ?_
 refine WQ (ah rfl rfl) ?_
 refine W1 dst ?_
 refine Wk [0] [100900, 100901] ?_
 (try dsimp)
 apply eP
 apply WM
 refine WQ (bU rfl rfl) ?_
 refine WQ (ah rfl rfl) ?_
 refine W1 dst ?_
 apply dn
 cases h
 (try simp only [qt, qb, qn])
 refine Uy (xs := _) rfl ?_
 show _ ∧ _
 exact ⟨rfl, ⟨(by first | rfl | simp [aG, aP, aH]), ⟨(by first | rfl | simp [aG, aP, aH]), trivial⟩⟩⟩
 apply Eso
 apply WM
 refine WQ (bU rfl rfl) ?_
 refine WQ (ah rfl rfl) ?_
 refine WQ (aj rfl rfl rfl) ?_
 refine WQ (kE rfl rfl) ?_
 apply WM
 refine Wk [0, 1, 13, 14] [100900, 100901] ?_
 (try dsimp)
 apply bW
 (try dsimp)
 refine fD (α := Int × (List bQ) × Bool × Int × Int × (List Int)) (fun (i : Int × (List bQ) × Bool × Int × Int × (List Int)) => (⟨[(0, S.one (.ptr 100900 0)), (1, ss bT a1), (13, (zi_ ((a0.xl.length : Nat) : Int))), (14, (zi_ i.1))], [(100900, (⟨false, [.own 100901 0 i.2.1.length (some (18, 86)), vb i.2.2.1, vi i.2.2.2.1, vi i.2.2.2.2.1, sl bT i.2.2.2.2.2]⟩ : Reg)), (100901, (⟨true, flat bJ i.2.1⟩ : Reg))]⟩ : St)) (fun n i => qo F a0 a1 k7 n i.1 i.2.1 i.2.2.1 i.2.2.2.1 i.2.2.2.2.1 i.2.2.2.2.2 = some r) F ((0 : Int), a0.xl, a0.gB, a0.dA, a0.dO, a0.dN) h ?_ (fun n i h => ?_)
 exact (Le.b (bK ⟨rfl, rfl, rfl, rfl, trivial⟩ ⟨rfl, rfl, trivial⟩))
 obtain ⟨v24, v25, v26, v27, v28, v29⟩ := i; dsimp only at h
 obtain _ | n30 := n
 cases h
 unfold qo at h
 (try dsimp)
 apply Eso
 refine WQ (aB rfl rfl rfl) ?_
 apply dn
 (try dsimp)
 apply bP
 refine Ec h rfl (fun h hc31 => ?_) (fun h hc31 => ?_)
 apply bG
 refine bf [0, 1, 13, 14] [100900, 100901] ?_
 (try dsimp)
 apply bP
 apply bW
 apply Eso
 apply WM
 apply WM
 refine Wk [0, 1, 4, 13, 14] [100900, 100901] ?_
 (try dsimp)
 obtain ⟨g32, h⟩ := aV h
 obtain ⟨x33, aao, h⟩ := aN h
 obtain ⟨x34, OJ, h⟩ := aN h
 refine iY [0, 1, 2, 3, 4, 5, 6, 7] ?_
 refine XQ 0 rfl rfl rfl (aI rfl) ?_
 refine XQ 1 rfl rfl rfl (bU rfl rfl) ?_
 refine XQ 2 rfl rfl rfl (ah rfl rfl) ?_
 refine XQ 3 rfl rfl rfl (aj rfl rfl rfl) ?_
 refine XQ 4 rfl rfl rfl (aI rfl) ?_
 refine XQ 5 rfl rfl rfl (fZ rfl rfl rfl g32.1 g32.2) ?_
 refine XQ 6 rfl rfl rfl (aI rfl) ?_
 refine XQ 7 rfl rfl rfl (aI rfl) ?_
 (try dsimp)
 refine X1 rfl (XK rfl (aF hP (AZ F a1 v24 x33 aao) rfl rfl rfl) ?_)
 refine X1 rfl (XT rfl rfl (dL [] false hP (KU F (⟨v25, v26, v27, v28, v29⟩ : aO) v24 _ (by omega) x33 x34 OJ) rfl ⟨rfl, rfl, trivial⟩ rfl rfl rfl rfl rfl (fun h => by first | rfl | cases h) rfl) ?_)
 refine ig rfl ?_
 refine bf [0, 1, 13, 14] [100900, 100901] ?_
 (try dsimp)
 apply eP
 obtain ⟨g35, h⟩ := aV h
 refine WQ (cZ rfl rfl g35.1 g35.2) ?_
 apply WM
 apply dn
 refine ⟨n30, ((v24 + (1 : Int)), x34.1.xl, x34.1.gB, x34.1.dA, x34.1.dO, x34.1.dN), Nat.lt_succ_self _, h, ?_⟩
 exact (Le.b (bK ⟨rfl, rfl, rfl, rfl, trivial⟩ ⟨rfl, rfl, trivial⟩))
 apply gV
 refine ⟨(v25, v26, v27, v28, v29), h, ?_⟩
 exact (Le.b (bK ⟨rfl, trivial⟩ ⟨rfl, rfl, trivial⟩))
def BM : dJ := (.seq (.ops [(o (.mv (cb false)) 2)]) (.seq (.seq (.ops [(w 3 0), (o (.iK (t 3)) 4), (o (.add 3 (t 4)) 5), (o (.load false 1 (t 5)) 6), (o (.bin .gtr 3 (t 6) (ci 0)) 7)]) (.cond (t 7) (.seq (.ops [(w 8 0), (o (.iK (t 8)) 9), (o (.add 3 (t 9)) 10), (o (.load false 1 (t 10)) 11), (o (.bin .sub 3 (t 11) (ci 1)) 12), (o (.iK (t 8)) 13), (o (.add 3 (t 13)) 14), (n_ (.store 1 (t 14) (t 12)))]) (.seq (.ops [(w 15 0), (o (.iK (t 15)) 16), (o (.add 3 (t 16)) 17), (o (.load false 1 (t 17)) 18), (o (.bin .eql 3 (t 18) (ci 0)) 19)]) (.cond (t 19) (.seq (.ops [(w 20 0), (w 21 0), (o (.iK (t 21)) 22), (o (.add 4 (t 22)) 23), (o (.load false 1 (t 23)) 24), (o (.call 141 [(t 20), (t 24)]) 25)]) (.seq (.ops [(o (.mv (cb false)) 2)]) .ret)) .skip))) .skip)) (.seq (.ops [(w 26 0), (o (.iK (t 26)) 27), (o (.add 2 (t 27)) 28), (o (.load false 1 (t 28)) 29), (o (.bin .add 2 (t 29) (ci 1)) 30), (o (.iK (t 26)) 31), (o (.add 2 (t 31)) 32), (n_ (.store 1 (t 32) (t 30)))]) (.seq (.ops [(o (.mv (cb true)) 2)]) .ret))))
theorem KW : Fits Tryz.prog 108 1 BM [(.tmp 2)] := cu Tryz.func108 (by kernel_rfl) (by kernel_rfl) (by kernel_rfl)
theorem xZ (F : Nat) (a0 : aO) (r : aO × Bool) (h : nU F a0 = some r) : AC Tryz.prog 108 [S.one (.ptr 100900 0)] [(100900, (⟨false, [.own 100901 0 a0.xl.length (some (18, 86)), vb a0.gB, vi a0.dA, vi a0.dO, sl bT a0.dN]⟩ : Reg)), (100901, (⟨true, flat bJ a0.xl⟩ : Reg))] (fun x s' => x = (zb_ r.2) ∧ qx s' [(100900, (⟨false, [.own 100901 0 r.1.xl.length (some (18, 86)), vb r.1.gB, vi r.1.dA, vi r.1.dO, sl bT r.1.dN]⟩ : Reg)), (100901, (⟨true, flat bJ r.1.xl⟩ : Reg))]) := by
 unfold nU at h
 refine qW KW rfl ?_
 intro C hP
 unfold BM; dsimp
 apply Eso
 apply WM
 refine Wk [0] [100900, 100901] ?_
 (try dsimp)
 obtain ⟨k2, k2d, h⟩ := fO h
 refine dV (α := Int) (fun (i : Int) => (⟨[(0, S.one (.ptr 100900 0))], [(100900, (⟨false, [.own 100901 0 a0.xl.length (some (18, 86)), vb a0.gB, vi a0.dA, vi i, sl bT a0.dN]⟩ : Reg)), (100901, (⟨true, flat bJ a0.xl⟩ : Reg))]⟩ : St)) (fun i => k2 i = some r) (fun i h => ?_) ?_
 let iv := i; change k2 i = some r at h; generalize i = v1 at h ⊢
 rw [k2d] at h; dsimp only at h
 (try dsimp)
 apply Eso
 apply WM
 refine WQ (bU rfl rfl) ?_
 refine WQ (ah rfl rfl) ?_
 refine WQ (aj rfl rfl rfl) ?_
 obtain ⟨g3, h⟩ := aV h
 refine WQ (cZ rfl rfl g3.1 g3.2) ?_
 refine WQ (bU rfl rfl) ?_
 refine WQ (ah rfl rfl) ?_
 refine W1 dst ?_
 refine Wk [] [100900, 100901] ?_
 (try dsimp)
 apply Eso
 apply WM
 apply dn
 (try dsimp)
 apply bI
 cases h
 (try simp only [qt, qb, qn])
 refine aT (xs := _) ⟨_, rfl, rfl⟩ ?_
 show _ ∧ _
 exact ⟨rfl, ⟨(by first | rfl | simp [aG, aP, aH]), ⟨(by first | rfl | simp [aG, aP, aH]), trivial⟩⟩⟩
 apply Eso
 apply WM
 refine WQ (bU rfl rfl) ?_
 refine WQ (ah rfl rfl) ?_
 refine WQ (aj rfl rfl rfl) ?_
 refine WQ (aB rfl rfl rfl) ?_
 refine Wk [0, 7] [100900, 100901] ?_
 (try dsimp)
 refine Ec h rfl (fun h hc4 => ?_) (fun h hc4 => ?_)
 apply Eso
 apply WM
 refine WQ (bU rfl rfl) ?_
 refine WQ (ah rfl rfl) ?_
 refine WQ (aj rfl rfl rfl) ?_
 obtain ⟨g5, h⟩ := aV h
 refine WQ (lK rfl rfl g5.1 g5.2) ?_
 refine WQ (bU rfl rfl) ?_
 refine WQ (ah rfl rfl) ?_
 refine W1 dst ?_
 refine Wk [0] [100900, 100901] ?_
 (try dsimp)
 apply Eso
 apply WM
 refine WQ (bU rfl rfl) ?_
 refine WQ (ah rfl rfl) ?_
 refine WQ (aj rfl rfl rfl) ?_
 refine WQ (aB rfl rfl rfl) ?_
 refine Wk [0, 19] [100900, 100901] ?_
 (try dsimp)
 refine Ec h rfl (fun h hc6 => ?_) (fun h hc6 => ?_)
 apply Eso
 apply WM
 apply WM
 refine WQ (bU rfl rfl) ?_
 refine WQ (ah rfl rfl) ?_
 refine WQ (aj rfl rfl rfl) ?_
 obtain ⟨x7, x7h, h⟩ := aN h
 refine W1 (dL [] false hP (IZ F (⟨a0.xl, a0.gB, a0.dA, (a0.dO - (1 : Int)), a0.dN⟩ : aO) a0.dN x7 x7h) rfl ⟨rfl, rfl, trivial⟩ rfl rfl rfl rfl rfl (fun h => by first | rfl | cases h) rfl) ?_
 (try dsimp)
 refine Wk [] [100900, 100901] ?_
 (try dsimp)
 apply Eso
 apply WM
 apply dn
 (try dsimp)
 apply bI
 cases h
 (try simp only [qt, qb, qn])
 refine aT (xs := _) ⟨_, rfl, rfl⟩ ?_
 show _ ∧ _
 exact ⟨rfl, ⟨(by first | rfl | simp [aG, aP, aH]), ⟨(by first | rfl | simp [aG, aP, aH]), trivial⟩⟩⟩
 apply bG
 refine ⟨(a0.dO - (1 : Int)), h, ?_⟩
 exact (Le.b (bK ⟨rfl, trivial⟩ ⟨rfl, rfl, trivial⟩))
 apply bG
 refine ⟨a0.dO, h, ?_⟩
 exact (Le.b (bK ⟨rfl, trivial⟩ ⟨rfl, rfl, trivial⟩))
def QX : dJ := (.seq (.ops [(o (.mv (cb false)) 2)]) (.seq (.ops [(w 3 0), (o (.bin .geq 3 (t 3) (ci 0)) 4), (w 5 4), (g_ (.mv (t 0)) 6 5 true), (g_ (.bin .lss 3 (t 6) (ci 8)) 7 5 true), (o (.pick (t 5) (t 7) (cb false)) 8), (w 2 8)]) .ret))
theorem XV : Fits Tryz.prog 142 1 QX [(.tmp 2)] := cu Tryz.func142 (by kernel_rfl) (by kernel_rfl) (by kernel_rfl)
theorem XY (F : Nat) (a0 : Int) (r : Bool) (h : EX F a0 = some r) : PC Tryz.prog 142 [(zi_ a0)] (zb_ r) := by
 unfold EX at h
 refine fC XV rfl rfl ?_
 intro C hP
 unfold QX; dsimp
 apply Eso
 apply WM
 refine Wk [0] [] ?_
 (try dsimp)
 apply Eso
 apply WM
 refine WQ (aB rfl rfl rfl) ?_
 apply WM
 apply aC
 rfl
 intro hB; (try simp only [hB, bss, ctt]); exact aI rfl
 apply aC
 rfl
 intro hB; (try simp only [hB, bss, ctt]); exact aB rfl rfl rfl
 refine WQ (dK rfl rfl rfl) ?_
 apply WM
 refine Wk [2] [] ?_
 (try dsimp)
 apply bI
 cases h
 (try simp only [qt, qb, qn])
 refine aT (xs := _) ⟨_, rfl, rfl⟩ ?_
 rfl
def Aj : dJ := (.seq (.ops [(o (.mv (cb false)) 6)]) (.seq (.seq (.ops [(w 7 1), (o (.call 142 [(t 7)]) 8), (o (.un .not (t 8)) 9)]) (.cond (t 9) (.seq (.ops [(o (.mv (cb false)) 6)]) .ret) .skip)) (.seq (.ops [(w 10 0), (w 11 1), (w 12 2), (o (.iK (t 10)) 13), (o (.add 8 (t 13)) 14), (o (.Vz 1 8 (t 14) (t 11)) 15), (n_ (.store 1 (t 15) (t 12)))]) (.seq (.ops [(w 16 0), (w 17 0), (o (.iK (t 16)) 18), (o (.add 16 (t 18)) 19), (n_ (.store 1 (t 19) (cb true))), (o (.iK (t 17)) 20), (o (.add 17 (t 20)) 21), (n_ (.store 1 (t 21) (cb false)))]) (.seq (.ops [(o (.mv (cb true)) 6)]) .ret)))))
theorem I4 : Fits Tryz.prog 109 3 Aj [(.tmp 6)] := cu Tryz.func109 (by kernel_rfl) (by kernel_rfl) (by kernel_rfl)
theorem I5 (F : Nat) (a0 : aO) (a0i : Int) (a0o : Nat) (a0h : a0o = a0i.toNat * 18) (a1 : Int) (a2 : Int) (r : aO × Bool) (h : sG F a0 a0i a1 a2 = some r) : AC Tryz.prog 109 [S.one (.ptr 100901 a0o), (zi_ a1), (zu_ a2)] [(100900, (⟨false, [.own 100901 0 a0.xl.length (some (18, 86)), vb a0.gB, vi a0.dA, vi a0.dO, sl bT a0.dN]⟩ : Reg)), (100901, (⟨true, flat bJ a0.xl⟩ : Reg))] (fun x s' => x = (zb_ r.2) ∧ qx s' [(100900, (⟨false, [.own 100901 0 r.1.xl.length (some (18, 86)), vb r.1.gB, vi r.1.dA, vi r.1.dO, sl bT r.1.dN]⟩ : Reg)), (100901, (⟨true, flat bJ r.1.xl⟩ : Reg))]) := by
 unfold sG at h
 refine qW I4 rfl ?_
 intro C hP
 unfold Aj; dsimp
 obtain ⟨ga0, h⟩ := aV h
 apply Eso
 apply WM
 refine Wk [0, 1, 2] [100900, 100901] ?_
 (try dsimp)
 apply bP
 apply Eso
 apply WM
 obtain ⟨x1, x1h, h⟩ := aN h
 refine W1 (aF hP (XY F a1 x1 x1h) rfl rfl rfl) ?_
 refine WQ (dM rfl) ?_
 refine Wk [0, 1, 2, 9] [100900, 100901] ?_
 (try dsimp)
 refine Ec h rfl (fun h hc2 => ?_) (fun h hc2 => ?_)
 apply Eso
 apply WM
 refine Wk [6] [100900, 100901] ?_
 (try dsimp)
 apply bI
 cases h
 (try simp only [qt, qb, qn])
 refine aT (xs := _) ⟨_, rfl, rfl⟩ ?_
 show _ ∧ _
 exact ⟨rfl, ⟨(by first | rfl | simp [aG, aP, aH]), ⟨(by first | rfl | simp [aG, aP, aH]), trivial⟩⟩⟩
 apply bG
 refine bf [0, 1, 2] [100900, 100901] ?_
 (try dsimp)
 apply Eso
 apply WM
 apply WM
 apply WM
 refine WQ (bU rfl rfl) ?_
 refine WQ (ah rfl rfl) ?_
 obtain ⟨g3, h⟩ := aV h
 refine WQ (yU rfl rfl rfl g3.1 g3.2) ?_
 refine W1 (eU (e := bJ) (n := 1) (k := 18) rfl rfl (fun _ => rfl) ga0 (8 + a1.toNat) (by omega) rfl rfl rfl (by decide) (⟨(nth a0.xl a0i).jQ, (((nth a0.xl a0i).xNew).put a1.toNat a2), (nth a0.xl a0i).yA, (nth a0.xl a0i).rH⟩ : bQ) (aaD (n := 8) (fun j => bJ (⟨(nth a0.xl a0i).jQ, (((nth a0.xl a0i).xNew).put j a2), (nth a0.xl a0i).yA, (nth a0.xl a0i).rH⟩ : bQ) = splice (bJ (nth a0.xl a0i)) (8 + j) [vu a2]) g3 (by intro j hj; rcases j with _|_|_|_|_|_|_|_|j <;> first | rfl | omega)) (by omega) rfl) ?_
 refine Wk [0] [100900, 100901] ?_
 (try dsimp)
 apply Eso
 apply WM
 apply WM
 refine WQ (bU rfl rfl) ?_
 refine WQ (ah rfl rfl) ?_
 refine W1 (oq (e := bJ) (n := 1) (k := 18) rfl rfl (fun _ => rfl) (by first | exact ga0 | exact kX.1 ga0 | simpa only [kX] using ga0) 16 (by omega) rfl rfl rfl (by decide) (⟨(nth a0.xl a0i).jQ, (((nth a0.xl a0i).xNew).put a1.toNat a2), true, (nth a0.xl a0i).rH⟩ : bQ) rfl (by decide) rfl) ?_
 refine WQ (bU rfl rfl) ?_
 refine WQ (ah rfl rfl) ?_
 refine W1 (oq (e := bJ) (n := 1) (k := 18) rfl rfl (fun _ => rfl) (by first | exact ga0 | exact kX.1 ga0 | simpa only [kX] using ga0) 17 (by omega) rfl rfl rfl (by decide) (⟨(nth a0.xl a0i).jQ, (((nth a0.xl a0i).xNew).put a1.toNat a2), true, false⟩ : bQ) rfl (by decide) rfl) ?_
 refine Wk [] [100900, 100901] ?_
 (try dsimp)
 apply Eso
 apply WM
 apply dn
 (try dsimp)
 refine fA (mM (r := 100900) rfl (by simp [aG, aP, aH] : (⟨false, [.own 100901 0 a0.xl.length (some (18, 86)), vb a0.gB, vi a0.dA, vi a0.dO, sl bT a0.dN]⟩ : Reg) = (⟨false, [.own 100901 0 (jl a0.xl a0i (⟨(nth a0.xl a0i).jQ, (((nth a0.xl a0i).xNew).put a1.toNat a2), true, false⟩ : bQ)).length (some (18, 86)), vb a0.gB, vi a0.dA, vi a0.dO, sl bT a0.dN]⟩ : Reg))).b ?_
 (try dsimp)
 apply bI
 cases h
 (try simp only [qt, qb, qn])
 refine aT (xs := _) ⟨_, rfl, rfl⟩ ?_
 show _ ∧ _
 exact ⟨rfl, ⟨(by first | rfl | simp [aG, aP, aH]), ⟨(by first | rfl | simp [aG, aP, aH]), trivial⟩⟩⟩
def Ak : dJ := (.seq (.ops [(o (.mv (ci 0)) 6)]) (.seq (.seq (.ops [(w 8 0), (w 9 1), (w 10 0), (o (.iK (t 10)) 11), (o (.add 0 (t 11)) 12), (o (.load false 1 (t 12)) 13), (o (.len false (t 13)) 14), (o (.bin .mul 3 (t 14) (ci 8)) 15), (o (.call 107 [(t 8), (t 9), (t 15)]) 16), (w 7 16)]) (.seq (.ops [(w 17 7), (o (.bin .neq 33 (t 17) (ci 0)) 18)]) (.cond (t 18) (.seq (.ops [(w 19 7), (w 6 19)]) .ret) .skip))) (.seq (.seq (.ops [(w 20 0), (o (.call 108 [(t 20)]) 21), (o (.un .not (t 21)) 22)]) (.cond (t 22) (.seq (.ops [(o (.mv (ci 12)) 6)]) .ret) .skip)) (.seq (.ops [(w 23 0), (o (.iK (t 23)) 24), (o (.add 0 (t 24)) 25), (o (.load false 1 (t 25)) 26), (w 27 1), (o (.bin .quo 3 (t 27) (ci 8)) 28), (o (.gJ 18 (t 26) (t 28)) 29), (w 30 1), (o (.bin .rem 3 (t 30) (ci 8)) 31), (w 32 2), (o (.call 109 [(t 29), (t 31), (t 32)]) 33)]) (.seq (.ops [(o (.mv (ci 0)) 6)]) .ret)))))
theorem I7 : Fits Tryz.prog 71 3 Ak [(.tmp 6)] := cu Tryz.func71 (by kernel_rfl) (by kernel_rfl) (by kernel_rfl)
theorem I8 (F : Nat) (a0 : aO) (a1 : Int) (a2 : Int) (r : aO × Int) (h : qF F a0 a1 a2 = some r) : AC Tryz.prog 71 [S.one (.ptr 100900 0), (zi_ a1), (zu_ a2)] [(100900, (⟨false, [.own 100901 0 a0.xl.length (some (18, 86)), vb a0.gB, vi a0.dA, vi a0.dO, sl bT a0.dN]⟩ : Reg)), (100901, (⟨true, flat bJ a0.xl⟩ : Reg))] (fun x s' => x = (zi_ r.2) ∧ qx s' [(100900, (⟨false, [.own 100901 0 r.1.xl.length (some (18, 86)), vb r.1.gB, vi r.1.dA, vi r.1.dO, sl bT r.1.dN]⟩ : Reg)), (100901, (⟨true, flat bJ r.1.xl⟩ : Reg))]) := by
 unfold qF at h
 refine qW I7 rfl ?_
 intro C hP
 unfold Ak; dsimp
 apply Eso
 apply WM
 refine Wk [0, 1, 2] [100900, 100901] ?_
 (try dsimp)
 apply bP
 apply Eso
 apply WM
 apply WM
 apply WM
 refine WQ (bU rfl rfl) ?_
 refine WQ (ah rfl rfl) ?_
 refine WQ (aj rfl rfl rfl) ?_
 refine WQ (kE rfl rfl) ?_
 obtain ⟨g1, h⟩ := aV h
 refine WQ (nC rfl rfl g1.1 g1.2) ?_
 obtain ⟨x2, x2h, h⟩ := aN h
 refine W1 (dL [] false hP (yY F a0 a1 (((a0.xl.length : Nat) : Int) * (8 : Int)) x2 x2h) rfl ⟨rfl, rfl, trivial⟩ rfl rfl rfl rfl rfl (fun h => by first | rfl | cases h) rfl) ?_
 (try dsimp)
 apply WM
 refine Wk [0, 1, 2, 7] [100900, 100901] ?_
 (try dsimp)
 apply Eso
 apply WM
 refine WQ (aB rfl rfl rfl) ?_
 refine Wk [0, 1, 2, 7, 18] [100900, 100901] ?_
 (try dsimp)
 refine Ec h rfl (fun h hc3 => ?_) (fun h hc3 => ?_)
 apply Eso
 apply WM
 apply WM
 refine Wk [6] [100900, 100901] ?_
 (try dsimp)
 apply bI
 cases h
 (try simp only [qt, qb, qn])
 refine aT (xs := _) ⟨_, rfl, rfl⟩ ?_
 show _ ∧ _
 exact ⟨rfl, ⟨(by first | rfl | simp [aG, aP, aH]), ⟨(by first | rfl | simp [aG, aP, aH]), trivial⟩⟩⟩
 apply bG
 refine bf [0, 1, 2] [100900, 100901] ?_
 (try dsimp)
 apply bP
 apply Eso
 apply WM
 obtain ⟨x4, x4h, h⟩ := aN h
 refine W1 (dL [] false hP (xZ F a0 x4 x4h) rfl ⟨rfl, rfl, trivial⟩ rfl rfl rfl rfl rfl (fun h => by first | rfl | cases h) rfl) ?_
 (try dsimp)
 refine WQ (dM rfl) ?_
 refine Wk [0, 1, 2, 22] [100900, 100901] ?_
 (try dsimp)
 refine Ec h rfl (fun h hc5 => ?_) (fun h hc5 => ?_)
 apply Eso
 apply WM
 refine Wk [6] [100900, 100901] ?_
 (try dsimp)
 apply bI
 cases h
 (try simp only [qt, qb, qn])
 refine aT (xs := _) ⟨_, rfl, rfl⟩ ?_
 show _ ∧ _
 exact ⟨rfl, ⟨(by first | rfl | simp [aG, aP, aH]), ⟨(by first | rfl | simp [aG, aP, aH]), trivial⟩⟩⟩
 apply bG
 refine bf [0, 1, 2] [100900, 100901] ?_
 (try dsimp)
 apply Eso
 apply WM
 refine WQ (bU rfl rfl) ?_
 refine WQ (ah rfl rfl) ?_
 refine WQ (aj rfl rfl rfl) ?_
 apply WM
 refine WQ (aB rfl rfl rfl) ?_
 obtain ⟨g6, h⟩ := aV h
 refine WQ (fZ rfl rfl rfl g6.1 g6.2) ?_
 apply WM
 refine WQ (aB rfl rfl rfl) ?_
 apply WM
 obtain ⟨x7, x7h, h⟩ := aN h
 refine W1 (dL [] false hP (I5 F x4.1 (IntKind.i64.wrap (Int.tdiv a1 8)) _ (by omega) (Int.tmod a1 8) a2 x7 x7h) rfl ⟨rfl, rfl, trivial⟩ rfl rfl rfl rfl rfl (fun h => by first | rfl | cases h) rfl) ?_
 (try dsimp)
 refine Wk [] [100900, 100901] ?_
 (try dsimp)
 apply Eso
 apply WM
 apply dn
 (try dsimp)
 apply bI
 cases h
 (try simp only [qt, qb, qn])
 refine aT (xs := _) ⟨_, rfl, rfl⟩ ?_
 show _ ∧ _
 exact ⟨rfl, ⟨(by first | rfl | simp [aG, aP, aH]), ⟨(by first | rfl | simp [aG, aP, aH]), trivial⟩⟩⟩
theorem FZ (l : List Int) (g : l.length < 4611686018427387904) : AC Tryz.prog 110 [S.one (.own 100800 0 l.length (some (1, 3)))] [(100800, ⟨true, flat bT l⟩)] (fun x s => x = S.tup [] ∧ qx s [(100800, ⟨true, flat bT (EY l)⟩)]) := YX Tryz.slices_Sort_int Tryz.slices_Sort_int_none l g
theorem BN (l : List Int) (g : l.length < 4611686018427387904) : AC Tryz.prog 111 [S.one (.own 100800 0 l.length (some (1, 3)))] [(100800, ⟨true, flat bT l⟩)] (fun x s => x = S.one (.own 100800 0 (Hl l).length (some (1, 3))) ∧ qx s [(100800, ⟨true, flat bT (Hl l)⟩)]) := TN Tryz.slices_Compact_int Tryz.slices_Compact_int_empty l g
def Iz : dJ := (.seq (.ops [(o (.mv cn) 2)]) (.seq (.ops [(o (.mv cn) 3)]) (.seq (.seq (.ops [(w 6 0), (o (.len false (t 6)) 7), (o (.mv (ci 0)) 8)]) (.block 0 (.loop (.seq (.ops [(o (.bin .lss 3 (t 8) (t 7)) 9)]) (.seq (.cond (t 9) .skip (.exit 0)) (.seq (.block 1 (.seq (.ops [(o (.gJ 2 (t 6) (t 8)) 10), (o (.load true 2 (t 10)) 11), (o (.jR [zi, zu]) 5), (n_ (.store 2 (t 5) (t 11)))]) (.seq (.ops [(o (.add 0 (t 5)) 12), (o (.load false 1 (t 12)) 13), (o (.bin .geq 3 (t 13) (ci 0)) 14)]) (.cond (t 14) (.ops [(w 15 3), (o (.add 0 (t 5)) 16), (o (.load false 1 (t 16)) 17), (o (.bin .quo 3 (t 17) (ci 8)) 18), (o (.kK 1 3 1 [zi] [(0, (1, (t 18)))]) 19), (o (.app 47 3 1 8 (t 15) (t 19)) 20), (w 3 20)]) .skip)))) (.ops [(o (.bin .add 3 (t 8) (ci 1)) 21), (w 8 21)]))))))) (.seq (.ops [(w 22 3), (o (.call 110 [(t 22)]) 23)]) (.seq (.ops [(w 24 3), (o (.call 111 [(t 24)]) 25), (w 2 25)]) .ret)))))
theorem QY : Fits Tryz.prog 72 1 Iz [(.tmp 2)] := cu Tryz.func72 (by kernel_rfl) (by kernel_rfl) (by kernel_rfl)
theorem QZ (F : Nat) (a0 : (List aA)) (r : (List Int)) (h : tJ F a0 = some r) : PC Tryz.prog 72 [ss bZ a0] (ss bT r) := by
 unfold tJ at h
 refine fC QY rfl rfl ?_
 intro C hP
 unfold Iz; dsimp
 apply Eso
 apply WM
 refine Wk [0] [] ?_
 (try dsimp)
 apply Eso
 apply WM
 apply dn
 (try dsimp)
 obtain ⟨k2, k2d, h⟩ := fO h
 refine dV (α := (List Int)) (fun (i : (List Int)) => (⟨[(3, S.one (.own 1020 0 i.length (some (1, 3))))], [(1020, (⟨true, flat bT i⟩ : Reg))]⟩ : St)) (fun i => k2 i = some r) (fun i h => ?_) ?_
 let iv := i; change k2 i = some r at h; generalize i = v1 at h ⊢
 rw [k2d] at h; dsimp only at h
 (try dsimp)
 apply Eso
 apply WM
 obtain ⟨g3, h⟩ := aV h
 refine W1 (dL [(100800, 1020)] false hP (FZ v1 g3) rfl ⟨rfl, trivial⟩ rfl rfl rfl rfl rfl (fun h => by cases h) rfl) ?_
 (try dsimp)
 refine Wk [3] [1020] ?_
 (try dsimp)
 apply Eso
 apply WM
 obtain ⟨g4, h⟩ := aV h
 refine W1 (Does.ghost (mV (i := 24) _ rfl (by simp [aG, aP, aH] : v1.length = (EY v1).length)).b (dL [(100800, 1020)] false hP (BN (EY v1) g4) rfl ⟨rfl, trivial⟩ rfl rfl rfl rfl rfl (fun h => by cases h) rfl)) ?_
 (try dsimp)
 apply WM
 refine Wk [2] [1020] ?_
 (try dsimp)
 refine fA (l7 (r := 1020) rfl rfl).b ?_
 (try dsimp)
 apply bI
 cases h
 (try simp only [qt, qb, qn])
 refine aT (xs := _) ⟨_, rfl, rfl⟩ ?_
 rfl
 apply Eso
 apply WM
 refine WQ (bM rfl) ?_
 apply WM
 refine Wk [3, 6, 7, 8] [] ?_
 (try dsimp)
 apply bW
 (try dsimp)
 refine fD (α := Int × (List Int)) (fun (i : Int × (List Int)) => (⟨[(3, S.one (.own 1020 0 i.2.length (some (1, 3)))), (6, ss bZ a0), (7, (zi_ ((a0.length : Nat) : Int))), (8, (zi_ i.1))], [(1020, (⟨true, flat bT i.2⟩ : Reg))]⟩ : St)) (fun n i => nV F a0 k2 n i.1 i.2 = some r) F ((0 : Int), ([] : List Int)) h ?_ (fun n i h => ?_)
 refine iZ (sV (i := 3) (r := 1020) 1 3 rfl rfl) ?_
 exact (Le.b (bK ⟨rfl, rfl, rfl, rfl, trivial⟩ ⟨rfl, trivial⟩))
 obtain ⟨v21, v22⟩ := i; dsimp only at h
 obtain _ | n23 := n
 cases h
 unfold nV at h
 (try dsimp)
 apply Eso
 refine WQ (aB rfl rfl rfl) ?_
 apply dn
 (try dsimp)
 apply bP
 refine Ec h rfl (fun h hc24 => ?_) (fun h hc24 => ?_)
 apply bG
 refine bf [3, 6, 7, 8] [1020] ?_
 (try dsimp)
 obtain ⟨k26, aak, h⟩ := fO h
 refine dV (α := (List Int)) (fun (i : (List Int)) => (⟨[(3, S.one (.own 1020 0 i.length (some (1, 3)))), (6, ss bZ a0), (7, (zi_ ((a0.length : Nat) : Int))), (8, (zi_ v21))], [(1020, (⟨true, flat bT i⟩ : Reg))]⟩ : St)) (fun i => k26 i = some r) (fun i h => ?_) ?_
 let iv := i; change k26 i = some r at h; generalize i = v25 at h ⊢
 rw [aak] at h; dsimp only at h
 (try dsimp)
 apply eP
 obtain ⟨g27, h⟩ := aV h
 refine WQ (cZ rfl rfl g27.1 g27.2) ?_
 apply WM
 apply dn
 refine ⟨n23, ((v21 + (1 : Int)), v25), Nat.lt_succ_self _, h, ?_⟩
 exact (Le.b (bK ⟨rfl, rfl, rfl, rfl, trivial⟩ ⟨rfl, trivial⟩))
 apply bW
 apply Eso
 obtain ⟨g28, h⟩ := aV h
 refine WQ (aX rfl rfl g28.1 g28.2) ?_
 refine WQ (dX (k := 2) rfl (fun _ => rfl) g28 0 rfl rfl rfl) ?_
 refine W1 (dw rfl rfl) ?_
 refine W1 dst ?_
 refine Wk [3, 5, 6, 7, 8] [5, 1020] ?_
 (try dsimp)
 apply Eso
 refine WQ (ah rfl rfl) ?_
 refine WQ (aj rfl rfl rfl) ?_
 refine WQ (aB rfl rfl rfl) ?_
 refine Wk [3, 5, 6, 7, 8, 14] [5, 1020] ?_
 (try dsimp)
 refine Ec h rfl (fun h hc29 => ?_) (fun h hc29 => ?_)
 apply eP
 apply WM
 refine WQ (ah rfl rfl) ?_
 refine WQ (aj rfl rfl rfl) ?_
 refine WQ (aB rfl rfl rfl) ?_
 refine W1 (dY rfl rfl rfl rfl) ?_
 obtain ⟨g30, h⟩ := aV h
 refine W1 (jc (e := bT) rfl rfl (fun _ => rfl) (fun _ => rfl) rfl (Src.lit (e := bT) ([(IntKind.i64.wrap (Int.tdiv ((nth a0 v21).xAt) 8))] : List Int) rfl (fun _ => rfl) rfl rfl) g30 rfl) ?_
 apply WM
 apply dn
 refine ⟨(v22 ++ ([(IntKind.i64.wrap (Int.tdiv ((nth a0 v21).xAt) 8))] : List Int)), h, ?_⟩
 exact (Le.b (bK ⟨rfl, rfl, rfl, rfl, trivial⟩ ⟨rfl, trivial⟩))
 apply bG
 refine ⟨v22, h, ?_⟩
 exact (Le.b (bK ⟨rfl, rfl, rfl, rfl, trivial⟩ ⟨rfl, trivial⟩))
 apply gV
 refine ⟨v22, h, ?_⟩
 exact (Le.b (bK ⟨rfl, trivial⟩ ⟨rfl, trivial⟩))
def Am : dJ := (.ops [(w 2 0), (w 3 0), (o (.iK (t 3)) 4), (o (.add 17 (t 4)) 5), (o (.load false 1 (t 5)) 6), (w 7 6), (g_ (.mv (t 0)) 8 7 false), (g_ (.iK (t 8)) 9 7 false), (g_ (.add 16 (t 9)) 10 7 false), (g_ (.load false 1 (t 10)) 11 7 false), (o (.pick (t 7) (cb true) (t 11)) 12), (o (.iK (t 2)) 13), (o (.add 17 (t 13)) 14), (n_ (.store 1 (t 14) (t 12)))])
theorem I9 : Fits Tryz.prog 112 1 Am [] := cu Tryz.func112 (by kernel_rfl) (by kernel_rfl) (by kernel_rfl)
theorem Ja (F : Nat) (a0 : aO) (a0i : Int) (a0o : Nat) (a0h : a0o = a0i.toNat * 18) (r : aO) (h : sH F a0 a0i = some r) : AC Tryz.prog 112 [S.one (.ptr 100901 a0o)] [(100900, (⟨false, [.own 100901 0 a0.xl.length (some (18, 86)), vb a0.gB, vi a0.dA, vi a0.dO, sl bT a0.dN]⟩ : Reg)), (100901, (⟨true, flat bJ a0.xl⟩ : Reg))] (fun x s' => x = S.tup [] ∧ qx s' [(100900, (⟨false, [.own 100901 0 r.xl.length (some (18, 86)), vb r.gB, vi r.dA, vi r.dO, sl bT r.dN]⟩ : Reg)), (100901, (⟨true, flat bJ r.xl⟩ : Reg))]) := by
 unfold sH at h
 refine qW I9 rfl ?_
 intro C hP
 unfold Am; dsimp
 obtain ⟨ga0, h⟩ := aV h
 apply eP
 apply WM
 apply WM
 refine WQ (bU rfl rfl) ?_
 refine WQ (ah rfl rfl) ?_
 refine WQ (og (k := 18) rfl rfl (fun _ => rfl) ga0 17 (by omega) rfl) ?_
 apply WM
 apply aC
 rfl
 intro hB; (try simp only [hB, bss, ctt]); exact aI rfl
 apply aC
 rfl
 intro hB; (try simp only [hB, bss, ctt]); exact bU rfl rfl
 apply aC
 rfl
 intro hB; (try simp only [hB, bss, ctt]); exact ah rfl rfl
 apply aC
 rfl
 intro hB; (try simp only [hB, bss, ctt]); exact og (k := 18) rfl rfl (fun _ => rfl) ga0 16 (by omega) rfl
 refine WQ (dS rfl rfl rfl) ?_
 refine WQ (bU rfl rfl) ?_
 refine WQ (ah rfl rfl) ?_
 refine W1 (eU (e := bJ) (n := 1) (k := 18) rfl rfl (fun _ => rfl) ga0 17 (by omega) rfl rfl rfl (by decide) (⟨(nth a0.xl a0i).jQ, (nth a0.xl a0i).xNew, (nth a0.xl a0i).yA, ((nth a0.xl a0i).rH || (nth a0.xl a0i).yA)⟩ : bQ) rfl (by decide) rfl) ?_
 apply dn
 cases h
 (try simp only [qt, qb, qn])
 refine Uy (xs := _) rfl ?_
 show _ ∧ _
 exact ⟨rfl, ⟨(by first | rfl | simp [aG, aP, aH]), ⟨(by first | rfl | simp [aG, aP, aH]), trivial⟩⟩⟩
def Ap : dJ := (.seq (.ops [(o (.mv (ci 0)) 4)]) (.seq (.seq (.ops [(w 6 0), (w 7 1), (w 8 0), (o (.iK (t 8)) 9), (o (.add 0 (t 9)) 10), (o (.load false 1 (t 10)) 11), (o (.len false (t 11)) 12), (o (.call 107 [(t 6), (t 7), (t 12)]) 13), (w 5 13)]) (.seq (.ops [(w 14 5), (o (.bin .neq 33 (t 14) (ci 0)) 15)]) (.cond (t 15) (.seq (.ops [(w 16 5), (w 4 16)]) .ret) .skip))) (.seq (.seq (.ops [(w 17 0), (o (.call 108 [(t 17)]) 18), (o (.un .not (t 18)) 19)]) (.cond (t 19) (.seq (.ops [(o (.mv (ci 12)) 4)]) .ret) .skip)) (.seq (.ops [(w 20 0), (o (.iK (t 20)) 21), (o (.add 0 (t 21)) 22), (o (.load false 1 (t 22)) 23), (w 24 1), (o (.gJ 18 (t 23) (t 24)) 25), (o (.call 112 [(t 25)]) 26)]) (.seq (.ops [(o (.mv (ci 0)) 4)]) .ret)))))
theorem Jb : Fits Tryz.prog 73 2 Ap [(.tmp 4)] := cu Tryz.func73 (by kernel_rfl) (by kernel_rfl) (by kernel_rfl)
theorem Jc (F : Nat) (a0 : aO) (a1 : Int) (r : aO × Int) (h : qG F a0 a1 = some r) : AC Tryz.prog 73 [S.one (.ptr 100900 0), (zi_ a1)] [(100900, (⟨false, [.own 100901 0 a0.xl.length (some (18, 86)), vb a0.gB, vi a0.dA, vi a0.dO, sl bT a0.dN]⟩ : Reg)), (100901, (⟨true, flat bJ a0.xl⟩ : Reg))] (fun x s' => x = (zi_ r.2) ∧ qx s' [(100900, (⟨false, [.own 100901 0 r.1.xl.length (some (18, 86)), vb r.1.gB, vi r.1.dA, vi r.1.dO, sl bT r.1.dN]⟩ : Reg)), (100901, (⟨true, flat bJ r.1.xl⟩ : Reg))]) := by
 unfold qG at h
 refine qW Jb rfl ?_
 intro C hP
 unfold Ap; dsimp
 apply Eso
 apply WM
 refine Wk [0, 1] [100900, 100901] ?_
 (try dsimp)
 apply bP
 apply Eso
 apply WM
 apply WM
 apply WM
 refine WQ (bU rfl rfl) ?_
 refine WQ (ah rfl rfl) ?_
 refine WQ (aj rfl rfl rfl) ?_
 refine WQ (kE rfl rfl) ?_
 obtain ⟨x1, x1h, h⟩ := aN h
 refine W1 (dL [] false hP (yY F a0 a1 ((a0.xl.length : Nat) : Int) x1 x1h) rfl ⟨rfl, rfl, trivial⟩ rfl rfl rfl rfl rfl (fun h => by first | rfl | cases h) rfl) ?_
 (try dsimp)
 apply WM
 refine Wk [0, 1, 5] [100900, 100901] ?_
 (try dsimp)
 apply Eso
 apply WM
 refine WQ (aB rfl rfl rfl) ?_
 refine Wk [0, 1, 5, 15] [100900, 100901] ?_
 (try dsimp)
 refine Ec h rfl (fun h hc2 => ?_) (fun h hc2 => ?_)
 apply Eso
 apply WM
 apply WM
 refine Wk [4] [100900, 100901] ?_
 (try dsimp)
 apply bI
 cases h
 (try simp only [qt, qb, qn])
 refine aT (xs := _) ⟨_, rfl, rfl⟩ ?_
 show _ ∧ _
 exact ⟨rfl, ⟨(by first | rfl | simp [aG, aP, aH]), ⟨(by first | rfl | simp [aG, aP, aH]), trivial⟩⟩⟩
 apply bG
 refine bf [0, 1] [100900, 100901] ?_
 (try dsimp)
 apply bP
 apply Eso
 apply WM
 obtain ⟨x3, x3h, h⟩ := aN h
 refine W1 (dL [] false hP (xZ F a0 x3 x3h) rfl ⟨rfl, rfl, trivial⟩ rfl rfl rfl rfl rfl (fun h => by first | rfl | cases h) rfl) ?_
 (try dsimp)
 refine WQ (dM rfl) ?_
 refine Wk [0, 1, 19] [100900, 100901] ?_
 (try dsimp)
 refine Ec h rfl (fun h hc4 => ?_) (fun h hc4 => ?_)
 apply Eso
 apply WM
 refine Wk [4] [100900, 100901] ?_
 (try dsimp)
 apply bI
 cases h
 (try simp only [qt, qb, qn])
 refine aT (xs := _) ⟨_, rfl, rfl⟩ ?_
 show _ ∧ _
 exact ⟨rfl, ⟨(by first | rfl | simp [aG, aP, aH]), ⟨(by first | rfl | simp [aG, aP, aH]), trivial⟩⟩⟩
 apply bG
 refine bf [0, 1] [100900, 100901] ?_
 (try dsimp)
 apply Eso
 apply WM
 refine WQ (bU rfl rfl) ?_
 refine WQ (ah rfl rfl) ?_
 refine WQ (aj rfl rfl rfl) ?_
 apply WM
 obtain ⟨g5, h⟩ := aV h
 refine WQ (fZ rfl rfl rfl g5.1 g5.2) ?_
 obtain ⟨x6, x6h, h⟩ := aN h
 refine W1 (dL [] false hP (Ja F x3.1 a1 _ (by omega) x6 x6h) rfl ⟨rfl, rfl, trivial⟩ rfl rfl rfl rfl rfl (fun h => by first | rfl | cases h) rfl) ?_
 (try dsimp)
 refine Wk [] [100900, 100901] ?_
 (try dsimp)
 apply Eso
 apply WM
 apply dn
 (try dsimp)
 apply bI
 cases h
 (try simp only [qt, qb, qn])
 refine aT (xs := _) ⟨_, rfl, rfl⟩ ?_
 show _ ∧ _
 exact ⟨rfl, ⟨(by first | rfl | simp [aG, aP, aH]), ⟨(by first | rfl | simp [aG, aP, aH]), trivial⟩⟩⟩
def Aq : dJ := (.seq (.ops [(o (.mv (cb false)) 2)]) (.seq (.ops [(w 3 0), (o (.iK (t 3)) 4), (o (.add 17 (t 4)) 5), (o (.load false 1 (t 5)) 6), (w 7 6), (g_ (.mv (t 0)) 8 7 true), (g_ (.call 145 [(t 8)]) 9 7 true), (o (.pick (t 7) (t 9) (cb false)) 10), (w 2 10)]) .ret))
theorem Jd : Fits Tryz.prog 113 1 Aq [(.tmp 2)] := cu Tryz.func113 (by kernel_rfl) (by kernel_rfl) (by kernel_rfl)
theorem Je (F : Nat) (a0 : aO) (a0i : Int) (a0o : Nat) (a0h : a0o = a0i.toNat * 18) (r : aO × Bool) (h : qH F a0 a0i = some r) : AC Tryz.prog 113 [S.one (.ptr 100901 a0o)] [(100900, (⟨false, [.own 100901 0 a0.xl.length (some (18, 86)), vb a0.gB, vi a0.dA, vi a0.dO, sl bT a0.dN]⟩ : Reg)), (100901, (⟨true, flat bJ a0.xl⟩ : Reg))] (fun x s' => x = (zb_ r.2) ∧ qx s' [(100900, (⟨false, [.own 100901 0 r.1.xl.length (some (18, 86)), vb r.1.gB, vi r.1.dA, vi r.1.dO, sl bT r.1.dN]⟩ : Reg)), (100901, (⟨true, flat bJ r.1.xl⟩ : Reg))]) := by
 unfold qH at h
 refine qW Jd rfl ?_
 intro C hP
 unfold Aq; dsimp
 obtain ⟨ga0, h⟩ := aV h
 apply Eso
 apply WM
 refine Wk [0] [100900, 100901] ?_
 (try dsimp)
 apply Eso
 apply WM
 refine WQ (bU rfl rfl) ?_
 refine WQ (ah rfl rfl) ?_
 refine WQ (og (k := 18) rfl rfl (fun _ => rfl) ga0 17 (by omega) rfl) ?_
 apply WM
 rcases tf ((nth a0.xl a0i).rH) with hs1 | hs1
 replace h := Zl h hs1
 refine abB rfl hs1 ((aI rfl).does) ?_
 obtain ⟨x2, x2h, h⟩ := aN h
 refine abB rfl hs1 (dL [] false hP (Ah F a0 a0i _ (by omega) x2 x2h) rfl ⟨rfl, rfl, trivial⟩ rfl rfl rfl rfl rfl (fun h => by first | rfl | cases h) rfl) ?_
 (try dsimp)
 refine WQ (TP hs1 rfl rfl) ?_
 apply WM
 refine Wk [2] [100900, 100901] ?_
 (try dsimp)
 apply bI
 cases h
 (try simp only [qt, qb, qn])
 refine aT (xs := _) ⟨_, rfl, rfl⟩ ?_
 show _ ∧ _
 exact ⟨rfl, ⟨(by first | rfl | simp [aG, aP, aH]), ⟨(by first | rfl | simp [aG, aP, aH]), trivial⟩⟩⟩
 replace h := Zm h hs1
 refine abC rfl hs1 ?_
 refine abC rfl hs1 ?_
 refine WQ (TQ hs1 rfl rfl) ?_
 apply WM
 refine Wk [2] [100900, 100901] ?_
 (try dsimp)
 apply bI
 cases h
 (try simp only [qt, qb, qn])
 refine aT (xs := _) ⟨_, rfl, rfl⟩ ?_
 show _ ∧ _
 exact ⟨rfl, ⟨(by first | rfl | simp [aG, aP, aH]), ⟨(by first | rfl | simp [aG, aP, aH]), trivial⟩⟩⟩
def Ar : dJ := (.seq (.ops [(o (.mv (ci 0)) 2)]) (.seq (.seq (.ops [(w 5 0), (o (.call 107 [(t 5), (ci 0), (ci 1)]) 6), (w 3 6)]) (.seq (.ops [(w 7 3), (o (.bin .neq 33 (t 7) (ci 0)) 8)]) (.cond (t 8) (.seq (.ops [(w 9 3), (w 2 9)]) .ret) .skip))) (.seq (.seq (.ops [(w 10 0), (o (.call 108 [(t 10)]) 11), (o (.un .not (t 11)) 12)]) (.cond (t 12) (.seq (.ops [(o (.mv (ci 12)) 2)]) .ret) .skip)) (.seq (.seq (.ops [(w 13 0), (o (.iK (t 13)) 14), (o (.add 0 (t 14)) 15), (o (.load false 1 (t 15)) 16), (o (.len false (t 16)) 17), (o (.mv (ci 0)) 18)]) (.block 0 (.loop (.seq (.ops [(o (.bin .lss 3 (t 18) (t 17)) 19)]) (.seq (.cond (t 19) .skip (.exit 0)) (.seq (.block 1 (.seq (.ops [(w 20 18), (w 4 20)]) (.ops [(w 21 0), (o (.iK (t 21)) 22), (o (.add 0 (t 22)) 23), (o (.load false 1 (t 23)) 24), (w 25 4), (o (.gJ 18 (t 24) (t 25)) 26), (o (.call 113 [(t 26)]) 27)]))) (.ops [(o (.bin .add 3 (t 18) (ci 1)) 28), (w 18 28)]))))))) (.seq (.ops [(o (.mv (ci 0)) 2)]) .ret)))))
theorem Jf : Fits Tryz.prog 74 1 Ar [(.tmp 2)] := cu Tryz.func74 (by kernel_rfl) (by kernel_rfl) (by kernel_rfl)
theorem Jg (F : Nat) (a0 : aO) (r : aO × Int) (h : qJ F a0 = some r) : AC Tryz.prog 74 [S.one (.ptr 100900 0)] [(100900, (⟨false, [.own 100901 0 a0.xl.length (some (18, 86)), vb a0.gB, vi a0.dA, vi a0.dO, sl bT a0.dN]⟩ : Reg)), (100901, (⟨true, flat bJ a0.xl⟩ : Reg))] (fun x s' => x = (zi_ r.2) ∧ qx s' [(100900, (⟨false, [.own 100901 0 r.1.xl.length (some (18, 86)), vb r.1.gB, vi r.1.dA, vi r.1.dO, sl bT r.1.dN]⟩ : Reg)), (100901, (⟨true, flat bJ r.1.xl⟩ : Reg))]) := by
 unfold qJ at h
 refine qW Jf rfl ?_
 intro C hP
 unfold Ar; dsimp
 apply Eso
 apply WM
 refine Wk [0] [100900, 100901] ?_
 (try dsimp)
 apply bP
 apply Eso
 apply WM
 obtain ⟨x1, x1h, h⟩ := aN h
 refine W1 (dL [] false hP (yY F a0 (0 : Int) (1 : Int) x1 x1h) rfl ⟨rfl, rfl, trivial⟩ rfl rfl rfl rfl rfl (fun h => by first | rfl | cases h) rfl) ?_
 (try dsimp)
 apply WM
 refine Wk [0, 3] [100900, 100901] ?_
 (try dsimp)
 apply Eso
 apply WM
 refine WQ (aB rfl rfl rfl) ?_
 refine Wk [0, 3, 8] [100900, 100901] ?_
 (try dsimp)
 refine Ec h rfl (fun h hc2 => ?_) (fun h hc2 => ?_)
 apply Eso
 apply WM
 apply WM
 refine Wk [2] [100900, 100901] ?_
 (try dsimp)
 apply bI
 cases h
 (try simp only [qt, qb, qn])
 refine aT (xs := _) ⟨_, rfl, rfl⟩ ?_
 show _ ∧ _
 exact ⟨rfl, ⟨(by first | rfl | simp [aG, aP, aH]), ⟨(by first | rfl | simp [aG, aP, aH]), trivial⟩⟩⟩
 apply bG
 refine bf [0] [100900, 100901] ?_
 (try dsimp)
 apply bP
 apply Eso
 apply WM
 obtain ⟨x3, x3h, h⟩ := aN h
 refine W1 (dL [] false hP (xZ F a0 x3 x3h) rfl ⟨rfl, rfl, trivial⟩ rfl rfl rfl rfl rfl (fun h => by first | rfl | cases h) rfl) ?_
 (try dsimp)
 refine WQ (dM rfl) ?_
 refine Wk [0, 12] [100900, 100901] ?_
 (try dsimp)
 refine Ec h rfl (fun h hc4 => ?_) (fun h hc4 => ?_)
 apply Eso
 apply WM
 refine Wk [2] [100900, 100901] ?_
 (try dsimp)
 apply bI
 cases h
 (try simp only [qt, qb, qn])
 refine aT (xs := _) ⟨_, rfl, rfl⟩ ?_
 show _ ∧ _
 exact ⟨rfl, ⟨(by first | rfl | simp [aG, aP, aH]), ⟨(by first | rfl | simp [aG, aP, aH]), trivial⟩⟩⟩
 apply bG
 refine bf [0] [100900, 100901] ?_
 (try dsimp)
 obtain ⟨k10, aac, h⟩ := fO h
 refine dV (α := (List bQ) × Bool × Int × Int × (List Int)) (fun (i : (List bQ) × Bool × Int × Int × (List Int)) => (⟨[], [(100900, (⟨false, [.own 100901 0 i.1.length (some (18, 86)), vb i.2.1, vi i.2.2.1, vi i.2.2.2.1, sl bT i.2.2.2.2]⟩ : Reg)), (100901, (⟨true, flat bJ i.1⟩ : Reg))]⟩ : St)) (fun i => k10 i.1 i.2.1 i.2.2.1 i.2.2.2.1 i.2.2.2.2 = some r) (fun i h => ?_) ?_
 obtain ⟨v5, v6, v7, v8, v9⟩ := i
 rw [aac] at h; dsimp only at h
 (try dsimp)
 apply Eso
 apply WM
 apply dn
 (try dsimp)
 apply bI
 cases h
 (try simp only [qt, qb, qn])
 refine aT (xs := _) ⟨_, rfl, rfl⟩ ?_
 show _ ∧ _
 exact ⟨rfl, ⟨(by first | rfl | simp [aG, aP, aH]), ⟨(by first | rfl | simp [aG, aP, aH]), trivial⟩⟩⟩
 apply Eso
 apply WM
 refine WQ (bU rfl rfl) ?_
 refine WQ (ah rfl rfl) ?_
 refine WQ (aj rfl rfl rfl) ?_
 refine WQ (kE rfl rfl) ?_
 apply WM
 refine Wk [0, 17, 18] [100900, 100901] ?_
 (try dsimp)
 apply bW
 (try dsimp)
 refine fD (α := Int × (List bQ) × Bool × Int × Int × (List Int)) (fun (i : Int × (List bQ) × Bool × Int × Int × (List Int)) => (⟨[(0, S.one (.ptr 100900 0)), (17, (zi_ ((x3.1.xl.length : Nat) : Int))), (18, (zi_ i.1))], [(100900, (⟨false, [.own 100901 0 i.2.1.length (some (18, 86)), vb i.2.2.1, vi i.2.2.2.1, vi i.2.2.2.2.1, sl bT i.2.2.2.2.2]⟩ : Reg)), (100901, (⟨true, flat bJ i.2.1⟩ : Reg))]⟩ : St)) (fun n i => lX F x3 k10 n i.1 i.2.1 i.2.2.1 i.2.2.2.1 i.2.2.2.2.1 i.2.2.2.2.2 = some r) F ((0 : Int), x3.1.xl, x3.1.gB, x3.1.dA, x3.1.dO, x3.1.dN) h ?_ (fun n i h => ?_)
 exact (Le.b (bK ⟨rfl, rfl, rfl, trivial⟩ ⟨rfl, rfl, trivial⟩))
 obtain ⟨v25, v26, v27, v28, v29, v30⟩ := i; dsimp only at h
 obtain _ | n31 := n
 cases h
 unfold lX at h
 (try dsimp)
 apply Eso
 refine WQ (aB rfl rfl rfl) ?_
 apply dn
 (try dsimp)
 apply bP
 refine Ec h rfl (fun h hc32 => ?_) (fun h hc32 => ?_)
 apply bG
 refine bf [0, 17, 18] [100900, 100901] ?_
 (try dsimp)
 apply bP
 apply bW
 apply Eso
 apply WM
 apply WM
 refine Wk [0, 4, 17, 18] [100900, 100901] ?_
 (try dsimp)
 apply eP
 apply WM
 refine WQ (bU rfl rfl) ?_
 refine WQ (ah rfl rfl) ?_
 refine WQ (aj rfl rfl rfl) ?_
 apply WM
 obtain ⟨g33, h⟩ := aV h
 refine WQ (fZ rfl rfl rfl g33.1 g33.2) ?_
 obtain ⟨x34, OJ, h⟩ := aN h
 refine W1 (dL [] false hP (Je F (⟨v26, v27, v28, v29, v30⟩ : aO) v25 _ (by omega) x34 OJ) rfl ⟨rfl, rfl, trivial⟩ rfl rfl rfl rfl rfl (fun h => by first | rfl | cases h) rfl) ?_
 (try dsimp)
 refine Wk [0, 17, 18] [100900, 100901] ?_
 (try dsimp)
 apply eP
 obtain ⟨g35, h⟩ := aV h
 refine WQ (cZ rfl rfl g35.1 g35.2) ?_
 apply WM
 apply dn
 refine ⟨n31, ((v25 + (1 : Int)), x34.1.xl, x34.1.gB, x34.1.dA, x34.1.dO, x34.1.dN), Nat.lt_succ_self _, h, ?_⟩
 exact (Le.b (bK ⟨rfl, rfl, rfl, trivial⟩ ⟨rfl, rfl, trivial⟩))
 apply gV
 refine ⟨(v26, v27, v28, v29, v30), h, ?_⟩
 exact (Le.b (bK trivial ⟨rfl, rfl, trivial⟩))
def IB : dJ := (.seq (.ops [(o (.mv (ci 0)) 4)]) (.seq (.seq (.ops [(w 11 1), (o (.len false (t 11)) 12), (o (.mv (ci 0)) 13)]) (.block 0 (.loop (.seq (.ops [(o (.bin .lss 3 (t 13) (t 12)) 14)]) (.seq (.cond (t 14) .skip (.exit 0)) (.seq (.block 1 (.seq (.ops [(o (.gJ 2 (t 11) (t 13)) 15), (o (.load true 2 (t 15)) 16), (o (.jR [zi, zu]) 6), (n_ (.store 2 (t 6) (t 16)))]) (.seq (.ops [(w 17 0), (o (.add 0 (t 6)) 18), (o (.load false 1 (t 18)) 19), (o (.add 1 (t 6)) 20), (o (.load false 1 (t 20)) 21), (o (.call 71 [(t 17), (t 19), (t 21)]) 22), (w 7 22)]) (.seq (.ops [(w 23 7), (o (.bin .neq 33 (t 23) (ci 0)) 24)]) (.cond (t 24) (.seq (.ops [(w 25 7), (w 4 25)]) .ret) .skip))))) (.ops [(o (.bin .add 3 (t 13) (ci 1)) 26), (w 13 26)]))))))) (.seq (.seq (.ops [(w 27 1), (o (.call 72 [(t 27)]) 28), (o (.len false (t 28)) 29), (o (.mv (ci 0)) 30)]) (.block 2 (.loop (.seq (.ops [(o (.bin .lss 3 (t 30) (t 29)) 31)]) (.seq (.cond (t 31) .skip (.exit 2)) (.seq (.block 3 (.seq (.ops [(o (.gJ 1 (t 28) (t 30)) 32), (o (.load false 1 (t 32)) 33), (w 9 33)]) (.seq (.ops [(w 34 0), (w 35 9), (o (.call 73 [(t 34), (t 35)]) 36), (w 10 36)]) (.seq (.ops [(w 37 10), (o (.bin .neq 33 (t 37) (ci 0)) 38)]) (.cond (t 38) (.seq (.ops [(w 39 10), (w 4 39)]) .ret) .skip))))) (.ops [(o (.bin .add 3 (t 30) (ci 1)) 40), (w 30 40)]))))))) (.seq (.ops [(w 41 0), (o (.call 74 [(t 41)]) 42), (w 4 42)]) .ret))))
theorem Q5 : Fits Tryz.prog 35 2 IB [(.tmp 4)] := cu Tryz.func35 (by kernel_rfl) (by kernel_rfl) (by kernel_rfl)
theorem Q7 (F : Nat) (a0 : aO) (a1 : (List aA)) (r : aO × Int) (h : vI F a0 a1 = some r) : AC Tryz.prog 35 [S.one (.ptr 100900 0), ss bZ a1] [(100900, (⟨false, [.own 100901 0 a0.xl.length (some (18, 86)), vb a0.gB, vi a0.dA, vi a0.dO, sl bT a0.dN]⟩ : Reg)), (100901, (⟨true, flat bJ a0.xl⟩ : Reg))] (fun x s' => x = (zi_ r.2) ∧ qx s' [(100900, (⟨false, [.own 100901 0 r.1.xl.length (some (18, 86)), vb r.1.gB, vi r.1.dA, vi r.1.dO, sl bT r.1.dN]⟩ : Reg)), (100901, (⟨true, flat bJ r.1.xl⟩ : Reg))]) := by
 unfold vI at h
 refine qW Q5 rfl ?_
 intro C hP
 unfold IB; dsimp
 apply Eso
 apply WM
 refine Wk [0, 1] [100900, 100901] ?_
 (try dsimp)
 obtain ⟨k6, k6d, h⟩ := fO h
 refine dV (α := (List bQ) × Bool × Int × Int × (List Int)) (fun (i : (List bQ) × Bool × Int × Int × (List Int)) => (⟨[(0, S.one (.ptr 100900 0)), (1, ss bZ a1)], [(100900, (⟨false, [.own 100901 0 i.1.length (some (18, 86)), vb i.2.1, vi i.2.2.1, vi i.2.2.2.1, sl bT i.2.2.2.2]⟩ : Reg)), (100901, (⟨true, flat bJ i.1⟩ : Reg))]⟩ : St)) (fun i => k6 i.1 i.2.1 i.2.2.1 i.2.2.2.1 i.2.2.2.2 = some r) (fun i h => ?_) ?_
 obtain ⟨v1, v2, v3, v4, v5⟩ := i
 rw [k6d] at h; dsimp only at h
 (try dsimp)
 obtain ⟨k12, O9, h⟩ := fO h
 refine dV (α := (List bQ) × Bool × Int × Int × (List Int)) (fun (i : (List bQ) × Bool × Int × Int × (List Int)) => (⟨[(0, S.one (.ptr 100900 0))], [(100900, (⟨false, [.own 100901 0 i.1.length (some (18, 86)), vb i.2.1, vi i.2.2.1, vi i.2.2.2.1, sl bT i.2.2.2.2]⟩ : Reg)), (100901, (⟨true, flat bJ i.1⟩ : Reg))]⟩ : St)) (fun i => k12 i.1 i.2.1 i.2.2.1 i.2.2.2.1 i.2.2.2.2 = some r) (fun i h => ?_) ?_
 obtain ⟨v7, v8, v9, v10, v11⟩ := i
 rw [O9] at h; dsimp only at h
 (try dsimp)
 apply Eso
 apply WM
 obtain ⟨x13, Ed, h⟩ := aN h
 refine W1 (dL [] false hP (Jg F (⟨v7, v8, v9, v10, v11⟩ : aO) x13 Ed) rfl ⟨rfl, rfl, trivial⟩ rfl rfl rfl rfl rfl (fun h => by first | rfl | cases h) rfl) ?_
 (try dsimp)
 apply WM
 refine Wk [4] [100900, 100901] ?_
 (try dsimp)
 apply bI
 cases h
 (try simp only [qt, qb, qn])
 refine aT (xs := _) ⟨_, rfl, rfl⟩ ?_
 show _ ∧ _
 exact ⟨rfl, ⟨(by first | rfl | simp [aG, aP, aH]), ⟨(by first | rfl | simp [aG, aP, aH]), trivial⟩⟩⟩
 apply Eso
 apply WM
 obtain ⟨x14, QH, h⟩ := aN h
 refine W1 (aF hP (QZ F a1 x14 QH) rfl rfl rfl) ?_
 refine WQ (bM rfl) ?_
 apply WM
 refine Wk [0, 28, 29, 30] [100900, 100901] ?_
 (try dsimp)
 apply bW
 (try dsimp)
 refine fD (α := Int × (List bQ) × Bool × Int × Int × (List Int)) (fun (i : Int × (List bQ) × Bool × Int × Int × (List Int)) => (⟨[(0, S.one (.ptr 100900 0)), (28, ss bT x14), (29, (zi_ ((x14.length : Nat) : Int))), (30, (zi_ i.1))], [(100900, (⟨false, [.own 100901 0 i.2.1.length (some (18, 86)), vb i.2.2.1, vi i.2.2.2.1, vi i.2.2.2.2.1, sl bT i.2.2.2.2.2]⟩ : Reg)), (100901, (⟨true, flat bJ i.2.1⟩ : Reg))]⟩ : St)) (fun n i => pJ F k12 x14 n i.1 i.2.1 i.2.2.1 i.2.2.2.1 i.2.2.2.2.1 i.2.2.2.2.2 = some r) F ((0 : Int), v1, v2, v3, v4, v5) h ?_ (fun n i h => ?_)
 exact (Le.b (bK ⟨rfl, rfl, rfl, rfl, trivial⟩ ⟨rfl, rfl, trivial⟩))
 obtain ⟨v31, v32, v33, v34, v35, v36⟩ := i; dsimp only at h
 obtain _ | n37 := n
 cases h
 unfold pJ at h
 (try dsimp)
 apply Eso
 refine WQ (aB rfl rfl rfl) ?_
 apply dn
 (try dsimp)
 apply bP
 refine Ec h rfl (fun h hc38 => ?_) (fun h hc38 => ?_)
 apply bG
 refine bf [0, 28, 29, 30] [100900, 100901] ?_
 (try dsimp)
 apply bP
 apply bW
 apply Eso
 obtain ⟨g39, h⟩ := aV h
 refine WQ (aX rfl rfl g39.1 g39.2) ?_
 refine WQ (aZ (k := 1) rfl (fun _ => rfl) g39 0 rfl rfl) ?_
 apply WM
 refine Wk [0, 9, 28, 29, 30] [100900, 100901] ?_
 (try dsimp)
 apply Eso
 apply WM
 apply WM
 obtain ⟨x40, aaz, h⟩ := aN h
 refine W1 (dL [] false hP (Jc F (⟨v32, v33, v34, v35, v36⟩ : aO) (nth x14 v31) x40 aaz) rfl ⟨rfl, rfl, trivial⟩ rfl rfl rfl rfl rfl (fun h => by first | rfl | cases h) rfl) ?_
 (try dsimp)
 apply WM
 refine Wk [0, 10, 28, 29, 30] [100900, 100901] ?_
 (try dsimp)
 apply Eso
 apply WM
 refine WQ (aB rfl rfl rfl) ?_
 refine Wk [0, 10, 28, 29, 30, 38] [100900, 100901] ?_
 (try dsimp)
 refine Ec h rfl (fun h aag => ?_) (fun h aag => ?_)
 apply Eso
 apply WM
 apply WM
 refine Wk [4] [100900, 100901] ?_
 (try dsimp)
 apply bI
 cases h
 (try simp only [qt, qb, qn])
 refine aT (xs := _) ⟨_, rfl, rfl⟩ ?_
 show _ ∧ _
 exact ⟨rfl, ⟨(by first | rfl | simp [aG, aP, aH]), ⟨(by first | rfl | simp [aG, aP, aH]), trivial⟩⟩⟩
 apply bG
 refine bf [0, 28, 29, 30] [100900, 100901] ?_
 (try dsimp)
 apply eP
 obtain ⟨g42, h⟩ := aV h
 refine WQ (cZ rfl rfl g42.1 g42.2) ?_
 apply WM
 apply dn
 refine ⟨n37, ((v31 + (1 : Int)), x40.1.xl, x40.1.gB, x40.1.dA, x40.1.dO, x40.1.dN), Nat.lt_succ_self _, h, ?_⟩
 exact (Le.b (bK ⟨rfl, rfl, rfl, rfl, trivial⟩ ⟨rfl, rfl, trivial⟩))
 apply gV
 refine ⟨(v32, v33, v34, v35, v36), h, ?_⟩
 exact (Le.b (bK ⟨rfl, trivial⟩ ⟨rfl, rfl, trivial⟩))
 apply Eso
 apply WM
 refine WQ (bM rfl) ?_
 apply WM
 apply dn
 (try dsimp)
 apply bW
 (try dsimp)
 refine fD (α := Int × (List bQ) × Bool × Int × Int × (List Int)) (fun (i : Int × (List bQ) × Bool × Int × Int × (List Int)) => (⟨[(0, S.one (.ptr 100900 0)), (1, ss bZ a1), (11, ss bZ a1), (12, (zi_ ((a1.length : Nat) : Int))), (13, (zi_ i.1))], [(100900, (⟨false, [.own 100901 0 i.2.1.length (some (18, 86)), vb i.2.2.1, vi i.2.2.2.1, vi i.2.2.2.2.1, sl bT i.2.2.2.2.2]⟩ : Reg)), (100901, (⟨true, flat bJ i.2.1⟩ : Reg))]⟩ : St)) (fun n i => pI F a1 k6 n i.1 i.2.1 i.2.2.1 i.2.2.2.1 i.2.2.2.2.1 i.2.2.2.2.2 = some r) F ((0 : Int), a0.xl, a0.gB, a0.dA, a0.dO, a0.dN) h ?_ (fun n i h => ?_)
 exact (Le.b (bK ⟨rfl, rfl, rfl, rfl, rfl, trivial⟩ ⟨rfl, rfl, trivial⟩))
 obtain ⟨v59, v60, v61, v62, v63, v64⟩ := i; dsimp only at h
 obtain _ | n65 := n
 cases h
 unfold pI at h
 (try dsimp)
 apply Eso
 refine WQ (aB rfl rfl rfl) ?_
 apply dn
 (try dsimp)
 apply bP
 refine Ec h rfl (fun h aaK => ?_) (fun h aaK => ?_)
 apply bG
 refine bf [0, 1, 11, 12, 13] [100900, 100901] ?_
 (try dsimp)
 apply bP
 apply bW
 apply Eso
 obtain ⟨g67, h⟩ := aV h
 refine WQ (aX rfl rfl g67.1 g67.2) ?_
 refine WQ (dX (k := 2) rfl (fun _ => rfl) g67 0 rfl rfl rfl) ?_
 refine W1 (dw rfl rfl) ?_
 refine W1 dst ?_
 refine Wk [0, 1, 6, 11, 12, 13] [6, 100900, 100901] ?_
 (try dsimp)
 apply Eso
 apply WM
 refine WQ (ah rfl rfl) ?_
 refine WQ (aj rfl rfl rfl) ?_
 refine WQ (ah rfl rfl) ?_
 refine WQ (aj rfl rfl rfl) ?_
 obtain ⟨x68, adC, h⟩ := aN h
 refine W1 (dL [] false hP (I8 F (⟨v60, v61, v62, v63, v64⟩ : aO) ((nth a1 v59).xAt) ((nth a1 v59).xV) x68 adC) rfl ⟨rfl, rfl, trivial⟩ rfl rfl rfl rfl rfl (fun h => by first | rfl | cases h) rfl) ?_
 (try dsimp)
 apply WM
 refine Wk [0, 1, 7, 11, 12, 13] [100900, 100901] ?_
 (try dsimp)
 apply Eso
 apply WM
 refine WQ (aB rfl rfl rfl) ?_
 refine Wk [0, 1, 7, 11, 12, 13, 24] [100900, 100901] ?_
 (try dsimp)
 refine Ec h rfl (fun h aaJ => ?_) (fun h aaJ => ?_)
 apply Eso
 apply WM
 apply WM
 refine Wk [4] [100900, 100901] ?_
 (try dsimp)
 apply bI
 cases h
 (try simp only [qt, qb, qn])
 refine aT (xs := _) ⟨_, rfl, rfl⟩ ?_
 show _ ∧ _
 exact ⟨rfl, ⟨(by first | rfl | simp [aG, aP, aH]), ⟨(by first | rfl | simp [aG, aP, aH]), trivial⟩⟩⟩
 apply bG
 refine bf [0, 1, 11, 12, 13] [100900, 100901] ?_
 (try dsimp)
 apply eP
 obtain ⟨g70, h⟩ := aV h
 refine WQ (cZ rfl rfl g70.1 g70.2) ?_
 apply WM
 apply dn
 refine ⟨n65, ((v59 + (1 : Int)), x68.1.xl, x68.1.gB, x68.1.dA, x68.1.dO, x68.1.dN), Nat.lt_succ_self _, h, ?_⟩
 exact (Le.b (bK ⟨rfl, rfl, rfl, rfl, rfl, trivial⟩ ⟨rfl, rfl, trivial⟩))
 apply gV
 refine ⟨(v60, v61, v62, v63, v64), h, ?_⟩
 exact (Le.b (bK ⟨rfl, rfl, trivial⟩ ⟨rfl, rfl, trivial⟩))
def KX : dJ := (.seq (.ops [(o (.mv cp) 2), (o (.mv (ci 0)) 3)]) (.seq (.seq (.ops [(w 12 0), (o (.eqP false (t 12) cp) 13)]) (.cond (t 13) (.seq (.ops [(o (.mv cp) 2), (o (.mv (ci 1)) 3)]) .ret) .skip)) (.seq (.seq (.ops [(w 14 0), (o (.call 32 [(t 14)]) 15)]) (.cond (t 15) (.seq (.ops [(o (.mv cp) 2), (o (.mv (ci 12)) 3)]) .ret) .skip)) (.seq (.ops [(w 16 0), (o (.call 11 [(t 16)]) 17), (w 4 17)]) (.seq (.ops [(w 19 4), (o (.call 54 [(t 19)]) 20), (w 18 20), (o (.ext 0 (t 18)) 21), (o (.ext 1 (t 18)) 22), (o (.jR [zi, zi, zi, .nil, .nil]) 5), (n_ (.store 5 (t 5) (t 21))), (w 6 22)]) (.seq (.seq (.ops [(w 23 6), (o (.bin .neq 33 (t 23) (ci 0)) 24), (w 25 24), (g_ (.mv (t 4)) 26 25 false), (g_ (.add 0 (t 5)) 27 25 false), (g_ (.load true 3 (t 27)) 28 25 false), (g_ (.call 69 [(t 28)]) 29 25 false), (g_ (.gJ 1 (t 26) (t 29)) 30 25 false), (g_ (.load false 1 (t 30)) 31 25 false), (g_ (.bin .neq 42 (t 31) (.const (.int .u64 0))) 32 25 false), (o (.pick (t 25) (cb true) (t 32)) 33)]) (.cond (t 33) (.seq (.ops [(o (.mv cp) 2), (o (.mv (ci 2)) 3)]) .ret) .skip)) (.seq (.seq (.ops [(o (.add 0 (t 5)) 34), (o (.add 0 (t 34)) 35), (o (.load false 1 (t 35)) 36), (o (.mv (ci 0)) 37)]) (.block 0 (.loop (.seq (.ops [(o (.bin .lss 3 (t 37) (t 36)) 38)]) (.seq (.cond (t 38) .skip (.exit 0)) (.seq (.block 1 (.seq (.ops [(w 39 37), (w 7 39)]) (.seq (.ops [(o (.add 0 (t 5)) 41), (o (.load true 3 (t 41)) 42), (w 43 7), (o (.call 30 [(t 42), (t 43)]) 44), (w 40 44), (o (.ext 0 (t 40)) 45), (o (.ext 1 (t 40)) 46), (w 8 45), (w 9 46)]) (.seq (.draw [((o (.add 0 (t 5)) 48), []), ((o (.load true 3 (t 48)) 49), [0]), ((w 50 4), []), ((w 51 8), []), ((w 52 8), []), ((w 53 9), []), ((o (.bin .add 3 (t 52) (t 53)) 54), [4, 5]), ((o (.slc 1 (t 50) (.some (t 51)) (.some (t 54)) .none) 55), [2, 3, 6]), ((o (.call 68 [(t 49), (t 55)]) 56), [1, 7]), ((w 47 56), [8]), ((o (.ext 0 (t 47)) 57), [9]), ((o (.ext 1 (t 47)) 58), [9]), ((o (.jR [zi, zu, zu, zu, zu, zu, zi, zu, zi, .nil]) 10), []), ((n_ (.store 10 (t 10) (t 57))), [12, 10, 8, 0, 1, 2, 3, 4, 5, 6, 7, 8, 9, 10, 12]), ((w 11 58), [11, 13, 0, 1, 2, 3, 4, 5, 6, 7, 8, 9, 10, 11, 12, 13])]) (.seq (.ops [(w 59 11), (o (.un .not (t 59)) 60), (w 61 60), (g_ (.add 0 (t 10)) 62 61 false), (g_ (.load false 1 (t 62)) 63 61 false), (g_ (.bin .eql 3 (t 63) (ci 1)) 64 61 false), (o (.pick (t 61) (cb true) (t 64)) 65), (w 66 65), (g_ (.add 0 (t 10)) 67 66 false), (g_ (.load false 1 (t 67)) 68 66 false), (g_ (.bin .eql 3 (t 68) (ci 2)) 69 66 false), (o (.pick (t 66) (cb true) (t 69)) 70)]) (.cond (t 70) (.seq (.ops [(o (.mv cp) 2), (o (.mv (ci 2)) 3)]) .ret) .skip)))))) (.ops [(o (.bin .add 3 (t 37) (ci 1)) 71), (w 37 71)]))))))) (.seq (.draw [((w 72 0), []), ((o (.add 0 (t 5)) 73), []), ((o (.load true 3 (t 73)) 74), [1]), ((o (.add 0 (t 5)) 75), []), ((o (.add 0 (t 75)) 76), [3]), ((o (.load false 1 (t 76)) 77), [4]), ((o (.mk 136 291 12 128 [zi, zi, zu, zu, zu, zu, zu, zi, zu, zi, .nil, .nil] (t 77) (t 77)) 78), [5, 5]), ((o (.build [(.v (.pointer .none)), zi, zi, zi, .nil, .nil, zb] [(0, (1, (t 72))), (1, (3, (t 74))), (4, (1, (t 78)))]) 79), [0, 2, 6]), ((o (.box 138 (t 79)) 80), [7]), ((w 2 80), [8, 0, 1, 2, 3, 4, 5, 6, 7, 8]), ((o (.mv (ci 0)) 3), [9, 0, 1, 2, 3, 4, 5, 6, 7, 8, 9])]) .ret))))))))
theorem TR : Fits Tryz.prog 36 1 KX [(.tmp 2), (.tmp 3)] := cu Tryz.func36 (by kernel_rfl) (by kernel_rfl) (by kernel_rfl)
theorem KY (F : Nat) (a0 : aO) (r : Option eF × Int) (h : oV F a0 = some r) : AC Tryz.prog 36 [S.one (.ptr 100900 0)] [(100900, (⟨false, [.own 100901 0 a0.xl.length (some (18, 86)), vb a0.gB, vi a0.dA, vi a0.dO, sl bT a0.dN]⟩ : Reg)), (100901, (⟨true, flat bJ a0.xl⟩ : Reg))] (fun x s' => TA (r.1) (x = S.tup [S.one (.v (.pointer none)), (zi_ r.2)] ∧ qx s' [(100900, (⟨false, [.own 100901 0 a0.xl.length (some (18, 86)), vb a0.gB, vi a0.dA, vi a0.dO, sl bT a0.dN]⟩ : Reg)), (100901, (⟨true, flat bJ a0.xl⟩ : Reg))]) (fun G => x = S.tup [S.one (.ptr 80 0), (zi_ r.2)] ∧ qx s' [(78, (⟨true, flat jZ G.xw⟩ : Reg)), (80, (⟨false, [.ptr 100900 0, vi G.lT.ak, vi G.lT.au, vi G.lT.ay, .own 78 0 G.xw.length (some (12, 291)), .own 6805 0 G.jB.length (some (1, 3)), vb G.nP]⟩ : Reg)), (6805, (⟨true, flat bT G.jB⟩ : Reg)), (100900, (⟨false, [.own 100901 0 a0.xl.length (some (18, 86)), vb a0.gB, vi a0.dA, vi a0.dO, sl bT a0.dN]⟩ : Reg)), (100901, (⟨true, flat bJ a0.xl⟩ : Reg))])) := by
 unfold oV at h
 refine qW TR rfl ?_
 intro C hP
 unfold KX; dsimp
 apply Eso
 apply WM
 apply WM
 refine Wk [0] [100900, 100901] ?_
 (try dsimp)
 apply bP
 apply Eso
 apply WM
 refine WQ (rG rfl rfl rfl) ?_
 refine Wk [0, 13] [100900, 100901] ?_
 (try dsimp)
 refine Kv rfl (fun hc1 => ?_) (fun hc1 => ?_)
 cases hc1
 apply bG
 refine bf [0] [100900, 100901] ?_
 (try dsimp)
 apply bP
 apply Eso
 apply WM
 obtain ⟨x2, x2h, h⟩ := aN h
 refine W1 (dL [] false hP (yV F a0 x2 x2h) rfl ⟨rfl, rfl, trivial⟩ rfl rfl rfl rfl rfl (fun h => by first | rfl | cases h) rfl) ?_
 (try dsimp)
 refine Wk [0, 15] [100900, 100901] ?_
 (try dsimp)
 refine Ec h rfl (fun h hc3 => ?_) (fun h hc3 => ?_)
 apply Eso
 apply WM
 apply WM
 refine Wk [2, 3] [100900, 100901] ?_
 (try dsimp)
 apply bI
 cases h
 (try simp only [qt, qb, qn])
 refine aT (xs := _) ⟨_, rfl, ⟨_, rfl, rfl⟩⟩ ?_
 show _ ∧ _
 exact ⟨rfl, ⟨(by first | rfl | simp [aG, aP, aH]), ⟨(by first | rfl | simp [aG, aP, aH]), trivial⟩⟩⟩
 apply bG
 refine bf [0] [100900, 100901] ?_
 (try dsimp)
 apply Eso
 apply WM
 obtain ⟨x4, x4h, h⟩ := aN h
 refine W1 (dL [] false hP (lS F a0 x4 x4h) rfl ⟨rfl, rfl, trivial⟩ rfl rfl rfl rfl rfl (fun h => by first | rfl | cases h) rfl) ?_
 (try dsimp)
 apply WM
 refine Wk [0, 4] [100900, 100901] ?_
 (try dsimp)
 apply Eso
 apply WM
 obtain ⟨x5, x5h, h⟩ := aN h
 refine W1 (aF hP (BK F x4 x5 x5h) rfl rfl rfl) ?_
 apply WM
 refine WQ (bD rfl rfl) ?_
 refine WQ (bD rfl rfl) ?_
 refine W1 (dw rfl rfl) ?_
 refine W1 dst ?_
 apply WM
 refine Wk [0, 4, 5, 6] [5, 100900, 100901] ?_
 (try dsimp)
 apply bP
 apply Eso
 apply WM
 refine WQ (aB rfl rfl rfl) ?_
 apply WM
 apply aC
 rfl
 intro hB; (try simp only [hB, bss, ctt]); exact aI rfl
 apply aC
 rfl
 intro hB; (try simp only [hB, bss, ctt]); exact ah rfl rfl
 apply aC
 rfl
 intro hB; (try simp only [hB, bss, ctt]); exact qlA
 obtain ⟨x6, x6h, h⟩ := aN h
 apply jk
 rfl
 intro hB; (try simp only [hB, bss, ctt]); exact aF hP (KR F x5.1.bH x6 (jW x6h (bt hB))) rfl rfl rfl
 obtain ⟨g7, h⟩ := aV h
 apply aC
 rfl
 intro hB; (try simp only [hB, bss, ctt]); exact aX rfl rfl (g7 hB).1 (g7 hB).2
 apply aC
 rfl
 intro hB; (try simp only [hB, bss, ctt]); exact aZ (k := 1) rfl (fun _ => rfl) (g7 hB) 0 rfl rfl
 apply aC
 rfl
 intro hB; (try simp only [hB, bss, ctt]); exact aB rfl rfl rfl
 refine WQ (dS rfl rfl rfl) ?_
 refine Wk [0, 4, 5, 33] [5, 100900, 100901] ?_
 (try dsimp)
 refine Ec h rfl (fun h hc8 => ?_) (fun h hc8 => ?_)
 apply Eso
 apply WM
 apply WM
 refine Wk [2, 3] [100900, 100901] ?_
 (try dsimp)
 apply bI
 cases h
 (try simp only [qt, qb, qn])
 refine aT (xs := _) ⟨_, rfl, ⟨_, rfl, rfl⟩⟩ ?_
 show _ ∧ _
 exact ⟨rfl, ⟨(by first | rfl | simp [aG, aP, aH]), ⟨(by first | rfl | simp [aG, aP, aH]), trivial⟩⟩⟩
 apply bG
 refine bf [0, 4, 5] [5, 100900, 100901] ?_
 (try dsimp)
 obtain ⟨k9, k9d, h⟩ := fO h
 refine dV (α := Unit) (fun (i : Unit) => (⟨[(0, S.one (.ptr 100900 0)), (5, S.one (.ptr 5 0))], [(5, (⟨true, [vi x5.1.bH.ak, vi x5.1.bH.au, vi x5.1.bH.ay, sl aQ x5.1.au, sl aS x5.1.ay]⟩ : Reg)), (100900, (⟨false, [.own 100901 0 a0.xl.length (some (18, 86)), vb a0.gB, vi a0.dA, vi a0.dO, sl bT a0.dN]⟩ : Reg)), (100901, (⟨true, flat bJ a0.xl⟩ : Reg))]⟩ : St)) (fun i => k9 () = some r) (fun i h => ?_) ?_
 rw [k9d] at h; dsimp only at h
 (try dsimp)
 apply bP
 obtain ⟨g10, h⟩ := aV h
 refine iY [0, 1, 2, 3, 4, 5, 7, 9, 10] ?_
 refine XQ 0 rfl rfl rfl (aI rfl) ?_
 refine XQ 1 rfl rfl rfl (ah rfl rfl) ?_
 refine XQ 2 rfl rfl rfl qlA ?_
 refine XQ 3 rfl rfl rfl (ah rfl rfl) ?_
 refine XQ 4 rfl rfl rfl (ah rfl rfl) ?_
 refine XQ 5 rfl rfl rfl (aj rfl rfl rfl) ?_
 refine X1 rfl (XK rfl (XZ (e := jZ) (⟨(0 : Int), (⟨(0 : Int), (0 : Int), (⟨(0 : Int), (0 : Int), (0 : Int), (0 : Int)⟩ : V4 Int), (⟨(0 : Int), (0 : Int), (0 : Int)⟩ : jf), ([] : (List aA))⟩ : bC), ([] : (List CX))⟩ : vJ) rfl rfl rfl rfl (fun _ => rfl) g10.1 g10.2.1 g10.2.2.1 g10.2.2.2 rfl) ?_)
 refine XQ 7 rfl rfl rfl (bV rfl rfl) ?_
 refine X1 rfl (XK rfl (eu rfl rfl rfl rfl) ?_)
 refine XQ 9 rfl rfl rfl (aI rfl) ?_
 refine XQ 10 rfl rfl rfl (aI rfl) ?_
 refine ig rfl ?_
 refine bf [2, 3] [78, 80, 100900, 100901] ?_
 (try dsimp)
 refine fA (tN (q := 80) (j := 5) (r := 6805) 1 3 rfl rfl rfl rfl) ?_
 (try dsimp)
 apply bI
 cases h
 (try simp only [qt, qb, qn])
 refine aT (xs := _) ⟨_, rfl, ⟨_, rfl, rfl⟩⟩ ?_
 show _ ∧ _
 exact ⟨rfl, ⟨(by first | rfl | simp [aG, aP, aH]), ⟨(by first | rfl | simp [aG, aP, aH]), ⟨(by first | rfl | simp [aG, aP, aH]), ⟨(by first | rfl | simp [aG, aP, aH]), ⟨(by first | rfl | simp [aG, aP, aH]), trivial⟩⟩⟩⟩⟩⟩
 apply Eso
 refine WQ (ah rfl rfl) ?_
 refine WQ (ah rfl rfl) ?_
 refine WQ (aj rfl rfl rfl) ?_
 apply WM
 refine Wk [0, 4, 5, 36, 37] [5, 100900, 100901] ?_
 (try dsimp)
 apply bW
 (try dsimp)
 refine fD (α := Int) (fun (i : Int) => (⟨[(0, S.one (.ptr 100900 0)), (4, ss cO x4), (5, S.one (.ptr 5 0)), (36, (zi_ x5.1.bH.ak)), (37, (zi_ i))], [(5, (⟨true, [vi x5.1.bH.ak, vi x5.1.bH.au, vi x5.1.bH.ay, sl aQ x5.1.au, sl aS x5.1.ay]⟩ : Reg)), (100900, (⟨false, [.own 100901 0 a0.xl.length (some (18, 86)), vb a0.gB, vi a0.dA, vi a0.dO, sl bT a0.dN]⟩ : Reg)), (100901, (⟨true, flat bJ a0.xl⟩ : Reg))]⟩ : St)) (fun n i => jY F x4 x5 k9 n i = some r) F (0 : Int) h ?_ (fun n i h => ?_)
 exact (Le.b (bK ⟨rfl, rfl, rfl, rfl, rfl, trivial⟩ ⟨rfl, rfl, rfl, trivial⟩))
 generalize i = v50 at h ⊢
 obtain _ | n51 := n
 cases h
 unfold jY at h
 (try dsimp)
 apply Eso
 refine WQ (aB rfl rfl rfl) ?_
 apply dn
 (try dsimp)
 apply bP
 refine Ec h rfl (fun h aaF => ?_) (fun h aaF => ?_)
 apply bG
 refine bf [0, 4, 5, 36, 37] [5, 100900, 100901] ?_
 (try dsimp)
 apply bP
 apply bW
 apply Eso
 apply WM
 apply WM
 refine Wk [0, 4, 5, 7, 36, 37] [5, 100900, 100901] ?_
 (try dsimp)
 apply Eso
 refine WQ (ah rfl rfl) ?_
 refine WQ qlA ?_
 apply WM
 obtain ⟨x53, adD, h⟩ := aN h
 refine W1 (aF hP (sW F x5.1.bH v50 x53 adD) rfl rfl rfl) ?_
 apply WM
 refine WQ (bD rfl rfl) ?_
 refine WQ (bD rfl rfl) ?_
 apply WM
 apply WM
 refine Wk [0, 4, 5, 8, 9, 36, 37] [5, 100900, 100901] ?_
 (try dsimp)
 obtain ⟨k65, adE, h⟩ := fO h
 refine dV (α := Bool × Int × Int × Int × Int × Int × Int × Int × Int × Int × (List aA)) (fun (i : Bool × Int × Int × Int × Int × Int × Int × Int × Int × Int × (List aA)) => (⟨[(0, S.one (.ptr 100900 0)), (4, ss cO x4), (5, S.one (.ptr 5 0)), (10, S.one (.ptr 10 0)), (11, (zb_ i.1)), (36, (zi_ x5.1.bH.ak)), (37, (zi_ v50))], [(5, (⟨true, [vi x5.1.bH.ak, vi x5.1.bH.au, vi x5.1.bH.ay, sl aQ x5.1.au, sl aS x5.1.ay]⟩ : Reg)), (10, (⟨true, [vi i.2.1, vu i.2.2.1, vu i.2.2.2.1, vu i.2.2.2.2.1, vu i.2.2.2.2.2.1, vu i.2.2.2.2.2.2.1, vi i.2.2.2.2.2.2.2.1, vu i.2.2.2.2.2.2.2.2.1, vi i.2.2.2.2.2.2.2.2.2.1, sl bZ i.2.2.2.2.2.2.2.2.2.2]⟩ : Reg)), (100900, (⟨false, [.own 100901 0 a0.xl.length (some (18, 86)), vb a0.gB, vi a0.dA, vi a0.dO, sl bT a0.dN]⟩ : Reg)), (100901, (⟨true, flat bJ a0.xl⟩ : Reg))]⟩ : St)) (fun i => k65 i.1 i.2.1 i.2.2.1 i.2.2.2.1 i.2.2.2.2.1 i.2.2.2.2.2.1 i.2.2.2.2.2.2.1 i.2.2.2.2.2.2.2.1 i.2.2.2.2.2.2.2.2.1 i.2.2.2.2.2.2.2.2.2.1 i.2.2.2.2.2.2.2.2.2.2 = some r) (fun i h => ?_) ?_
 obtain ⟨v54, v55, v56, v57, v58, v59, v60, v61, v62, v63, v64⟩ := i
 rw [adE] at h; dsimp only at h
 (try dsimp)
 apply Eso
 apply WM
 refine WQ (dM rfl) ?_
 apply WM
 apply aC
 rfl
 intro hB; (try simp only [hB, bss, ctt]); exact ah rfl rfl
 apply aC
 rfl
 intro hB; (try simp only [hB, bss, ctt]); exact aj rfl rfl rfl
 apply aC
 rfl
 intro hB; (try simp only [hB, bss, ctt]); exact aB rfl rfl rfl
 refine WQ (dS rfl rfl rfl) ?_
 apply WM
 apply aC
 rfl
 intro hB; (try simp only [hB, bss, ctt]); exact ah rfl rfl
 apply aC
 rfl
 intro hB; (try simp only [hB, bss, ctt]); exact aj rfl rfl rfl
 apply aC
 rfl
 intro hB; (try simp only [hB, bss, ctt]); exact aB rfl rfl rfl
 refine WQ (dS rfl rfl rfl) ?_
 refine Wk [0, 4, 5, 36, 37, 70] [5, 100900, 100901] ?_
 (try dsimp)
 refine Ec h rfl (fun h aaK => ?_) (fun h aaK => ?_)
 apply Eso
 apply WM
 apply WM
 refine Wk [2, 3] [100900, 100901] ?_
 (try dsimp)
 apply bI
 cases h
 (try simp only [qt, qb, qn])
 refine aT (xs := _) ⟨_, rfl, ⟨_, rfl, rfl⟩⟩ ?_
 show _ ∧ _
 exact ⟨rfl, ⟨(by first | rfl | simp [aG, aP, aH]), ⟨(by first | rfl | simp [aG, aP, aH]), trivial⟩⟩⟩
 apply bG
 refine bf [0, 4, 5, 36, 37] [5, 100900, 100901] ?_
 (try dsimp)
 apply eP
 obtain ⟨g67, h⟩ := aV h
 refine WQ (cZ rfl rfl g67.1 g67.2) ?_
 apply WM
 apply dn
 refine ⟨n51, (v50 + (1 : Int)), Nat.lt_succ_self _, h, ?_⟩
 exact (Le.b (bK ⟨rfl, rfl, rfl, rfl, rfl, trivial⟩ ⟨rfl, rfl, rfl, trivial⟩))
 obtain ⟨g68, h⟩ := aV h
 obtain ⟨g69, h⟩ := aV h
 obtain ⟨x70, abD, h⟩ := aN h
 refine iY [0, 1, 2, 3, 4, 5, 6, 7, 9, 10] ?_
 refine XQ 0 rfl rfl rfl (ah rfl rfl) ?_
 refine XQ 1 rfl rfl rfl qlA ?_
 refine XQ 2 rfl rfl rfl (aI rfl) ?_
 refine XQ 3 rfl rfl rfl (aI rfl) ?_
 refine XQ 4 rfl rfl rfl (aI rfl) ?_
 refine XQ 5 rfl rfl rfl (aI rfl) ?_
 refine XQ 6 rfl rfl rfl (cZ rfl rfl g68.1 g68.2) ?_
 refine XQ 7 rfl rfl rfl (nM rfl (fun _ => rfl) rfl rfl g69.1 g69.2.1 g69.2.2) ?_
 (try dsimp)
 refine X2 rfl ?_ ?_
 refine XK rfl (aF hP (zo F x5.1.bH (cut x4 x53.1 (x53.1 + x53.2)) x70 abD) rfl rfl rfl) ?_
 refine XQ 9 rfl rfl rfl (aI rfl) ?_
 refine XQ 10 rfl rfl rfl (bD rfl rfl) ?_
 refine X2 rfl ?_ ?_
 refine XK rfl ((bD rfl rfl).does) ?_
 refine X1 rfl (XK rfl (dw rfl rfl) ?_)
 refine X1 rfl (XT rfl rfl dst ?_)
 refine X1 rfl (XT rfl rfl ((aI rfl).does) ?_)
 refine ig rfl ?_
 refine ⟨(x70.2, x70.1.bY, x70.1.lF, x70.1.xL.c0, x70.1.xL.c1, x70.1.xL.c2, x70.1.xL.c3, x70.1.dh.lW, x70.1.dh.xW, x70.1.dh.xN, x70.1.xW), h, ?_⟩
 exact (Le.b (bK ⟨rfl, rfl, rfl, rfl, rfl, rfl, rfl, trivial⟩ ⟨rfl, rfl, rfl, rfl, trivial⟩))
 refine XK rfl (dw rfl rfl) ?_
 refine X2 rfl ?_ ?_
 refine XK rfl ((bD rfl rfl).does) ?_
 refine X1 rfl (XT rfl rfl dst ?_)
 refine X1 rfl (XT rfl rfl ((aI rfl).does) ?_)
 refine ig rfl ?_
 refine ⟨(x70.2, x70.1.bY, x70.1.lF, x70.1.xL.c0, x70.1.xL.c1, x70.1.xL.c2, x70.1.xL.c3, x70.1.dh.lW, x70.1.dh.xW, x70.1.dh.xN, x70.1.xW), h, ?_⟩
 exact (Le.b (bK ⟨rfl, rfl, rfl, rfl, rfl, rfl, rfl, trivial⟩ ⟨rfl, rfl, rfl, rfl, trivial⟩))
 refine XT rfl rfl dst ?_
 refine X1 rfl (XT rfl rfl ((bD rfl rfl).does) ?_)
 refine X1 rfl (XT rfl rfl ((aI rfl).does) ?_)
 refine ig rfl ?_
 refine ⟨(x70.2, x70.1.bY, x70.1.lF, x70.1.xL.c0, x70.1.xL.c1, x70.1.xL.c2, x70.1.xL.c3, x70.1.dh.lW, x70.1.dh.xW, x70.1.dh.xN, x70.1.xW), h, ?_⟩
 exact (Le.b (bK ⟨rfl, rfl, rfl, rfl, rfl, rfl, rfl, trivial⟩ ⟨rfl, rfl, rfl, rfl, trivial⟩))
 refine XK rfl (dw rfl rfl) ?_
 refine X1 rfl (XK rfl (aF hP (zo F x5.1.bH (cut x4 x53.1 (x53.1 + x53.2)) x70 abD) rfl rfl rfl) ?_)
 refine XQ 9 rfl rfl rfl (aI rfl) ?_
 refine XQ 10 rfl rfl rfl (bD rfl rfl) ?_
 refine X2 rfl ?_ ?_
 refine XK rfl ((bD rfl rfl).does) ?_
 refine X1 rfl (XT rfl rfl dst ?_)
 refine X1 rfl (XT rfl rfl ((aI rfl).does) ?_)
 refine ig rfl ?_
 refine ⟨(x70.2, x70.1.bY, x70.1.lF, x70.1.xL.c0, x70.1.xL.c1, x70.1.xL.c2, x70.1.xL.c3, x70.1.dh.lW, x70.1.dh.xW, x70.1.dh.xN, x70.1.xW), h, ?_⟩
 exact (Le.b (bK ⟨rfl, rfl, rfl, rfl, rfl, rfl, rfl, trivial⟩ ⟨rfl, rfl, rfl, rfl, trivial⟩))
 refine XT rfl rfl dst ?_
 refine X1 rfl (XT rfl rfl ((bD rfl rfl).does) ?_)
 refine X1 rfl (XT rfl rfl ((aI rfl).does) ?_)
 refine ig rfl ?_
 refine ⟨(x70.2, x70.1.bY, x70.1.lF, x70.1.xL.c0, x70.1.xL.c1, x70.1.xL.c2, x70.1.xL.c3, x70.1.dh.lW, x70.1.dh.xW, x70.1.dh.xN, x70.1.xW), h, ?_⟩
 exact (Le.b (bK ⟨rfl, rfl, rfl, rfl, rfl, rfl, rfl, trivial⟩ ⟨rfl, rfl, rfl, rfl, trivial⟩))
 apply gV
 refine ⟨(), h, ?_⟩
 exact (Le.b (bK ⟨rfl, rfl, trivial⟩ ⟨rfl, rfl, rfl, trivial⟩))
def IC : dJ := (.seq (.ops [(o (.mv cp) 2), (o (.mv (ci 0)) 3)]) (.seq (.seq (.ops [(w 9 0), (o (.eqP false (t 9) cp) 10)]) (.cond (t 10) (.seq (.ops [(o (.mv cp) 2), (o (.mv (ci 1)) 3)]) .ret) .skip)) (.seq (.seq (.ops [(w 11 0), (o (.call 32 [(t 11)]) 12)]) (.cond (t 12) (.seq (.ops [(o (.mv cp) 2), (o (.mv (ci 12)) 3)]) .ret) .skip)) (.seq (.ops [(w 14 0), (o (.call 11 [(t 14)]) 15), (o (.call 33 [(t 15)]) 16), (w 13 16), (o (.ext 0 (t 13)) 17), (o (.ext 1 (t 13)) 18), (o (.jR [zi, zi, zi, .nil, .nil, .nil, zu, zb]) 4), (n_ (.store 8 (t 4) (t 17))), (w 5 18)]) (.seq (.seq (.ops [(w 19 5), (o (.un .not (t 19)) 20)]) (.cond (t 20) (.seq (.ops [(o (.mv cp) 2), (o (.mv (ci 2)) 3)]) .ret) .skip)) (.seq (.seq (.ops [(o (.load true 8 (t 4)) 21), (o (.call 34 [(t 21)]) 22), (o (.len false (t 22)) 23), (o (.mv (ci 0)) 24)]) (.block 0 (.loop (.seq (.ops [(o (.bin .lss 3 (t 24) (t 23)) 25)]) (.seq (.cond (t 25) .skip (.exit 0)) (.seq (.block 1 (.seq (.ops [(o (.gJ 1 (t 22) (t 24)) 26), (o (.load false 1 (t 26)) 27), (w 7 27)]) (.seq (.ops [(w 28 0), (w 29 7), (o (.call 35 [(t 28), (t 29)]) 30), (w 8 30)]) (.seq (.ops [(w 31 8), (o (.bin .neq 33 (t 31) (ci 0)) 32)]) (.cond (t 32) (.seq (.ops [(w 33 8), (o (.mv cp) 2), (w 3 33)]) .ret) .skip))))) (.ops [(o (.bin .add 3 (t 24) (ci 1)) 34), (w 24 34)]))))))) (.seq (.ops [(w 35 0), (o (.call 36 [(t 35)]) 36), (o (.ext 0 (t 36)) 37), (o (.ext 1 (t 36)) 38), (w 2 37), (w 3 38)]) .ret)))))))
theorem Q8 : Fits Tryz.prog 10 1 IC [(.tmp 2), (.tmp 3)] := cu Tryz.func10 (by kernel_rfl) (by kernel_rfl) (by kernel_rfl)
theorem qc (F : Nat) (a0 : aO) (r : aO × Option eF × Int) (h : kN F a0 = some r) : AC Tryz.prog 10 [S.one (.ptr 100900 0)] [(100900, (⟨false, [.own 100901 0 a0.xl.length (some (18, 86)), vb a0.gB, vi a0.dA, vi a0.dO, sl bT a0.dN]⟩ : Reg)), (100901, (⟨true, flat bJ a0.xl⟩ : Reg))] (fun x s' => TA (r.2.1) (x = S.tup [S.one (.v (.pointer none)), (zi_ r.2.2)] ∧ qx s' [(100900, (⟨false, [.own 100901 0 r.1.xl.length (some (18, 86)), vb r.1.gB, vi r.1.dA, vi r.1.dO, sl bT r.1.dN]⟩ : Reg)), (100901, (⟨true, flat bJ r.1.xl⟩ : Reg))]) (fun G => x = S.tup [S.one (.ptr 7361 0), (zi_ r.2.2)] ∧ qx s' [(7360, (⟨true, flat jZ G.xw⟩ : Reg)), (7361, (⟨false, [.ptr 100900 0, vi G.lT.ak, vi G.lT.au, vi G.lT.ay, .own 7360 0 G.xw.length (some (12, 291)), .own 7362 0 G.jB.length (some (1, 3)), vb G.nP]⟩ : Reg)), (7362, (⟨true, flat bT G.jB⟩ : Reg)), (100900, (⟨false, [.own 100901 0 r.1.xl.length (some (18, 86)), vb r.1.gB, vi r.1.dA, vi r.1.dO, sl bT r.1.dN]⟩ : Reg)), (100901, (⟨true, flat bJ r.1.xl⟩ : Reg))])) := by
 unfold kN at h
 refine qW Q8 rfl ?_
 intro C hP
 unfold IC; dsimp
 apply Eso
 apply WM
 apply WM
 refine Wk [0] [100900, 100901] ?_
 (try dsimp)
 apply bP
 apply Eso
 apply WM
 refine WQ (rG rfl rfl rfl) ?_
 refine Wk [0, 10] [100900, 100901] ?_
 (try dsimp)
 refine Kv rfl (fun hc1 => ?_) (fun hc1 => ?_)
 cases hc1
 apply bG
 refine bf [0] [100900, 100901] ?_
 (try dsimp)
 apply bP
 apply Eso
 apply WM
 obtain ⟨x2, x2h, h⟩ := aN h
 refine W1 (dL [] false hP (yV F a0 x2 x2h) rfl ⟨rfl, rfl, trivial⟩ rfl rfl rfl rfl rfl (fun h => by first | rfl | cases h) rfl) ?_
 (try dsimp)
 refine Wk [0, 12] [100900, 100901] ?_
 (try dsimp)
 refine Ec h rfl (fun h hc3 => ?_) (fun h hc3 => ?_)
 apply Eso
 apply WM
 apply WM
 refine Wk [2, 3] [100900, 100901] ?_
 (try dsimp)
 apply bI
 cases h
 (try simp only [qt, qb, qn])
 refine aT (xs := _) ⟨_, rfl, ⟨_, rfl, rfl⟩⟩ ?_
 show _ ∧ _
 exact ⟨rfl, ⟨(by first | rfl | simp [aG, aP, aH]), ⟨(by first | rfl | simp [aG, aP, aH]), trivial⟩⟩⟩
 apply bG
 refine bf [0] [100900, 100901] ?_
 (try dsimp)
 apply Eso
 apply WM
 obtain ⟨x4, x4h, h⟩ := aN h
 refine W1 (dL [] false hP (lS F a0 x4 x4h) rfl ⟨rfl, rfl, trivial⟩ rfl rfl rfl rfl rfl (fun h => by first | rfl | cases h) rfl) ?_
 (try dsimp)
 obtain ⟨x5, x5h, h⟩ := aN h
 refine W1 (aF hP (Ir F x4 x5 x5h) rfl rfl rfl) ?_
 apply WM
 refine WQ (bD rfl rfl) ?_
 refine WQ (bD rfl rfl) ?_
 refine W1 (dw rfl rfl) ?_
 refine W1 dst ?_
 apply WM
 refine Wk [0, 4, 5] [4, 100900, 100901] ?_
 (try dsimp)
 apply bP
 apply Eso
 apply WM
 refine WQ (dM rfl) ?_
 refine Wk [0, 4, 20] [4, 100900, 100901] ?_
 (try dsimp)
 refine Ec h rfl (fun h hc6 => ?_) (fun h hc6 => ?_)
 apply Eso
 apply WM
 apply WM
 refine Wk [2, 3] [100900, 100901] ?_
 (try dsimp)
 apply bI
 cases h
 (try simp only [qt, qb, qn])
 refine aT (xs := _) ⟨_, rfl, ⟨_, rfl, rfl⟩⟩ ?_
 show _ ∧ _
 exact ⟨rfl, ⟨(by first | rfl | simp [aG, aP, aH]), ⟨(by first | rfl | simp [aG, aP, aH]), trivial⟩⟩⟩
 apply bG
 refine bf [0, 4] [4, 100900, 100901] ?_
 (try dsimp)
 obtain ⟨k12, O9, h⟩ := fO h
 refine dV (α := (List bQ) × Bool × Int × Int × (List Int)) (fun (i : (List bQ) × Bool × Int × Int × (List Int)) => (⟨[(0, S.one (.ptr 100900 0))], [(100900, (⟨false, [.own 100901 0 i.1.length (some (18, 86)), vb i.2.1, vi i.2.2.1, vi i.2.2.2.1, sl bT i.2.2.2.2]⟩ : Reg)), (100901, (⟨true, flat bJ i.1⟩ : Reg))]⟩ : St)) (fun i => k12 i.1 i.2.1 i.2.2.1 i.2.2.2.1 i.2.2.2.2 = some r) (fun i h => ?_) ?_
 obtain ⟨v7, v8, v9, v10, v11⟩ := i
 rw [O9] at h; dsimp only at h
 (try dsimp)
 apply Eso
 apply WM
 obtain ⟨x13, Ed, h⟩ := aN h
 rcases wX h with ⟨aaL, h⟩ | ⟨o14, aaL, h⟩
 refine W1 (dL [] false hP (wY aaL (KY F (⟨v7, v8, v9, v10, v11⟩ : aO) x13 Ed)) rfl ⟨rfl, rfl, trivial⟩ rfl rfl rfl rfl rfl (fun h => by first | rfl | cases h) rfl) ?_
 (try dsimp)
 refine WQ (bD rfl rfl) ?_
 refine WQ (bD rfl rfl) ?_
 apply WM
 apply WM
 refine Wk [2, 3] [100900, 100901] ?_
 (try dsimp)
 refine fA (mM (r := 100900) rfl (by simp [aG, aP, aH] : (⟨false, [.own 100901 0 (⟨v7, v8, v9, v10, v11⟩ : aO).xl.length (some (18, 86)), vb (⟨v7, v8, v9, v10, v11⟩ : aO).gB, vi (⟨v7, v8, v9, v10, v11⟩ : aO).dA, vi (⟨v7, v8, v9, v10, v11⟩ : aO).dO, .sl (flat bT (⟨v7, v8, v9, v10, v11⟩ : aO).dN) (⟨v7, v8, v9, v10, v11⟩ : aO).dN.length]⟩ : Reg) = (⟨false, [.own 100901 0 ((⟨v7, v8, v9, v10, v11⟩ : aO).xl).length (some (18, 86)), vb (⟨v7, v8, v9, v10, v11⟩ : aO).gB, vi (⟨v7, v8, v9, v10, v11⟩ : aO).dA, vi (⟨v7, v8, v9, v10, v11⟩ : aO).dO, .sl (flat bT (⟨v7, v8, v9, v10, v11⟩ : aO).dN) (⟨v7, v8, v9, v10, v11⟩ : aO).dN.length]⟩ : Reg))).b ?_
 (try dsimp)
 apply bI
 cases h
 (try simp only [qt, qb, qn])
 refine aT (xs := _) ⟨_, rfl, ⟨_, rfl, rfl⟩⟩ ?_
 show _ ∧ _
 exact ⟨rfl, ⟨(by first | rfl | simp [aG, aP, aH]), ⟨(by first | rfl | simp [aG, aP, aH]), trivial⟩⟩⟩
 refine W1 (dL [(78, 7360), (80, 7361), (6805, 7362)] false hP (wZ aaL (KY F (⟨v7, v8, v9, v10, v11⟩ : aO) x13 Ed)) rfl ⟨rfl, rfl, trivial⟩ rfl rfl rfl rfl rfl (fun h => by first | rfl | cases h) rfl) ?_
 (try dsimp)
 refine WQ (bD rfl rfl) ?_
 refine WQ (bD rfl rfl) ?_
 apply WM
 apply WM
 refine Wk [2, 3] [7360, 7361, 7362, 100900, 100901] ?_
 (try dsimp)
 refine fA (mM (r := 100900) rfl (by simp [aG, aP, aH] : (⟨false, [.own 100901 0 (⟨v7, v8, v9, v10, v11⟩ : aO).xl.length (some (18, 86)), vb (⟨v7, v8, v9, v10, v11⟩ : aO).gB, vi (⟨v7, v8, v9, v10, v11⟩ : aO).dA, vi (⟨v7, v8, v9, v10, v11⟩ : aO).dO, .sl (flat bT (⟨v7, v8, v9, v10, v11⟩ : aO).dN) (⟨v7, v8, v9, v10, v11⟩ : aO).dN.length]⟩ : Reg) = (⟨false, [.own 100901 0 ((⟨v7, v8, v9, v10, v11⟩ : aO).xl).length (some (18, 86)), vb (⟨v7, v8, v9, v10, v11⟩ : aO).gB, vi (⟨v7, v8, v9, v10, v11⟩ : aO).dA, vi (⟨v7, v8, v9, v10, v11⟩ : aO).dO, .sl (flat bT (⟨v7, v8, v9, v10, v11⟩ : aO).dN) (⟨v7, v8, v9, v10, v11⟩ : aO).dN.length]⟩ : Reg))).b ?_
 (try dsimp)
 apply bI
 cases h
 (try simp only [qt, qb, qn])
 refine aT (xs := _) ⟨_, rfl, ⟨_, rfl, rfl⟩⟩ ?_
 show _ ∧ _
 exact ⟨rfl, ⟨(by first | rfl | simp [aG, aP, aH]), ⟨(by first | rfl | simp [aG, aP, aH]), ⟨(by first | rfl | simp [aG, aP, aH]), ⟨(by first | rfl | simp [aG, aP, aH]), ⟨(by first | rfl | simp [aG, aP, aH]), trivial⟩⟩⟩⟩⟩⟩
 apply Eso
 refine WQ qlA ?_
 obtain ⟨x15, Vx, h⟩ := aN h
 refine W1 (aF hP (Pm F x5.1 x15 Vx) rfl rfl rfl) ?_
 refine WQ (bM rfl) ?_
 apply WM
 refine Wk [0, 22, 23, 24] [100900, 100901] ?_
 (try dsimp)
 apply bW
 (try dsimp)
 refine fD (α := Int × (List bQ) × Bool × Int × Int × (List Int)) (fun (i : Int × (List bQ) × Bool × Int × Int × (List Int)) => (⟨[(0, S.one (.ptr 100900 0)), (22, ss iM x15), (23, (zi_ ((x15.length : Nat) : Int))), (24, (zi_ i.1))], [(100900, (⟨false, [.own 100901 0 i.2.1.length (some (18, 86)), vb i.2.2.1, vi i.2.2.2.1, vi i.2.2.2.2.1, sl bT i.2.2.2.2.2]⟩ : Reg)), (100901, (⟨true, flat bJ i.2.1⟩ : Reg))]⟩ : St)) (fun n i => pK F k12 x15 n i.1 i.2.1 i.2.2.1 i.2.2.2.1 i.2.2.2.2.1 i.2.2.2.2.2 = some r) F ((0 : Int), a0.xl, a0.gB, a0.dA, a0.dO, a0.dN) h ?_ (fun n i h => ?_)
 exact (Le.b (bK ⟨rfl, rfl, rfl, rfl, trivial⟩ ⟨rfl, rfl, trivial⟩))
 obtain ⟨v32, v33, v34, v35, v36, v37⟩ := i; dsimp only at h
 obtain _ | n38 := n
 cases h
 unfold pK at h
 (try dsimp)
 apply Eso
 refine WQ (aB rfl rfl rfl) ?_
 apply dn
 (try dsimp)
 apply bP
 refine Ec h rfl (fun h hc39 => ?_) (fun h hc39 => ?_)
 apply bG
 refine bf [0, 22, 23, 24] [100900, 100901] ?_
 (try dsimp)
 apply bP
 apply bW
 apply Eso
 obtain ⟨g40, h⟩ := aV h
 refine WQ (aX rfl rfl g40.1 g40.2) ?_
 refine WQ (aZ (k := 1) rfl (fun _ => rfl) g40 0 rfl rfl) ?_
 apply WM
 refine Wk [0, 7, 22, 23, 24] [100900, 100901] ?_
 (try dsimp)
 apply Eso
 apply WM
 apply WM
 obtain ⟨x41, XG, h⟩ := aN h
 refine W1 (dL [] false hP (Q7 F (⟨v33, v34, v35, v36, v37⟩ : aO) (nth x15 v32) x41 XG) rfl ⟨rfl, rfl, trivial⟩ rfl rfl rfl rfl rfl (fun h => by first | rfl | cases h) rfl) ?_
 (try dsimp)
 apply WM
 refine Wk [0, 8, 22, 23, 24] [100900, 100901] ?_
 (try dsimp)
 apply Eso
 apply WM
 refine WQ (aB rfl rfl rfl) ?_
 refine Wk [0, 8, 22, 23, 24, 32] [100900, 100901] ?_
 (try dsimp)
 refine Ec h rfl (fun h aal => ?_) (fun h aal => ?_)
 apply Eso
 apply WM
 apply WM
 apply WM
 refine Wk [2, 3] [100900, 100901] ?_
 (try dsimp)
 apply bI
 cases h
 (try simp only [qt, qb, qn])
 refine aT (xs := _) ⟨_, rfl, ⟨_, rfl, rfl⟩⟩ ?_
 show _ ∧ _
 exact ⟨rfl, ⟨(by first | rfl | simp [aG, aP, aH]), ⟨(by first | rfl | simp [aG, aP, aH]), trivial⟩⟩⟩
 apply bG
 refine bf [0, 22, 23, 24] [100900, 100901] ?_
 (try dsimp)
 apply eP
 obtain ⟨g43, h⟩ := aV h
 refine WQ (cZ rfl rfl g43.1 g43.2) ?_
 apply WM
 apply dn
 refine ⟨n38, ((v32 + (1 : Int)), x41.1.xl, x41.1.gB, x41.1.dA, x41.1.dO, x41.1.dN), Nat.lt_succ_self _, h, ?_⟩
 exact (Le.b (bK ⟨rfl, rfl, rfl, rfl, trivial⟩ ⟨rfl, rfl, trivial⟩))
 apply gV
 refine ⟨(v33, v34, v35, v36, v37), h, ?_⟩
 exact (Le.b (bK ⟨rfl, trivial⟩ ⟨rfl, rfl, trivial⟩))
def Au : dJ := (.seq (.ops [(o (.mv (ci 0)) 4)]) (.seq (.block 0 (.seq (.ops [(w 6 0), (o (.iK (t 6)) 7), (o (.add 0 (t 7)) 8), (o (.load false 1 (t 8)) 9), (o (.call 32 [(t 9)]) 10), (w 11 10), (g_ (.mv (t 0)) 12 11 false), (g_ (.iK (t 12)) 13 11 false), (g_ (.add 6 (t 13)) 14 11 false), (g_ (.load false 1 (t 14)) 15 11 false), (o (.pick (t 11) (cb true) (t 15)) 16), (w 5 16)]) (.cond (t 5) (.seq (.ops [(o (.mv (ci 12)) 4)]) .ret) (.seq (.ops [(w 18 1), (o (.bin .lss 3 (t 18) (ci 0)) 19), (w 20 19), (g_ (.mv (t 1)) 21 20 false), (g_ (.mv (t 0)) 22 20 false), (g_ (.iK (t 22)) 23 20 false), (g_ (.add 4 (t 23)) 24 20 false), (g_ (.load false 1 (t 24)) 25 20 false), (g_ (.len false (t 25)) 26 20 false), (g_ (.bin .geq 3 (t 21) (t 26)) 27 20 false), (o (.pick (t 20) (cb true) (t 27)) 28), (w 17 28)]) (.cond (t 17) (.seq (.ops [(o (.mv (ci 1)) 4)]) .ret) .skip))))) (.seq (.ops [(o (.mv (ci 0)) 4)]) .ret)))
theorem Jh : Fits Tryz.prog 51 2 Au [(.tmp 4)] := cu Tryz.func51 (by kernel_rfl) (by kernel_rfl) (by kernel_rfl)
theorem Ji (F : Nat) (a0 : eF) (a1 : Int) (r : Int) (h : sJ F a0 a1 = some r) : AC Tryz.prog 51 [S.one (.ptr 100900 0), (zi_ a1)] [(904, (⟨true, flat bT a0.jB⟩ : Reg)), (100900, (⟨false, [.ptr 100950 0, vi a0.lT.ak, vi a0.lT.au, vi a0.lT.ay, .own 100903 0 a0.xw.length (some (12, 291)), .own 904 0 a0.jB.length (some (1, 3)), vb a0.nP]⟩ : Reg)), (100903, (⟨true, flat jZ a0.xw⟩ : Reg)), (100950, (⟨false, [.own 100951 0 a0.xm.xl.length (some (18, 86)), vb a0.xm.gB, vi a0.xm.dA, vi a0.xm.dO, sl bT a0.xm.dN]⟩ : Reg)), (100951, (⟨true, flat bJ a0.xm.xl⟩ : Reg))] (fun x s' => x = (zi_ r) ∧ qx s' [(904, (⟨true, flat bT a0.jB⟩ : Reg)), (100900, (⟨false, [.ptr 100950 0, vi a0.lT.ak, vi a0.lT.au, vi a0.lT.ay, .own 100903 0 a0.xw.length (some (12, 291)), .own 904 0 a0.jB.length (some (1, 3)), vb a0.nP]⟩ : Reg)), (100903, (⟨true, flat jZ a0.xw⟩ : Reg)), (100950, (⟨false, [.own 100951 0 a0.xm.xl.length (some (18, 86)), vb a0.xm.gB, vi a0.xm.dA, vi a0.xm.dO, sl bT a0.xm.dN]⟩ : Reg)), (100951, (⟨true, flat bJ a0.xm.xl⟩ : Reg))]) := by
 unfold sJ at h
 refine qW Jh rfl ?_
 intro C hP
 unfold Au; dsimp
 apply Eso
 apply WM
 refine Wk [0, 1] [904, 100900, 100903, 100950, 100951] ?_
 (try dsimp)
 apply bP
 apply bW
 apply Eso
 apply WM
 refine WQ (bU rfl rfl) ?_
 refine WQ (ah rfl rfl) ?_
 refine WQ (aj rfl rfl rfl) ?_
 obtain ⟨x1, x1h, h⟩ := aN h
 refine W1 (dL [(100900, 100950), (100901, 100951)] false hP (yV F a0.xm x1 x1h) rfl ⟨rfl, rfl, trivial⟩ rfl rfl rfl rfl rfl (fun h => by first | rfl | cases h) rfl) ?_
 (try dsimp)
 apply WM
 apply aC
 rfl
 intro hB; (try simp only [hB, bss, ctt]); exact aI rfl
 apply aC
 rfl
 intro hB; (try simp only [hB, bss, ctt]); exact bU rfl rfl
 apply aC
 rfl
 intro hB; (try simp only [hB, bss, ctt]); exact ah rfl rfl
 apply aC
 rfl
 intro hB; (try simp only [hB, bss, ctt]); exact aj rfl rfl rfl
 refine WQ (dS rfl rfl rfl) ?_
 apply WM
 refine Wk [0, 1, 5] [904, 100900, 100903, 100950, 100951] ?_
 (try dsimp)
 refine Ec h rfl (fun h hc2 => ?_) (fun h hc2 => ?_)
 apply Eso
 apply WM
 refine Wk [4] [904, 100900, 100903, 100950, 100951] ?_
 (try dsimp)
 apply bI
 cases h
 (try simp only [qt, qb, qn])
 refine aT (xs := _) ⟨_, rfl, rfl⟩ ?_
 show _ ∧ _
 exact ⟨rfl, ⟨(by first | rfl | simp [aG, aP, aH]), ⟨(by first | rfl | simp [aG, aP, aH]), ⟨(by first | rfl | simp [aG, aP, aH]), ⟨(by first | rfl | simp [aG, aP, aH]), ⟨(by first | rfl | simp [aG, aP, aH]), trivial⟩⟩⟩⟩⟩⟩
 apply Eso
 apply WM
 refine WQ (aB rfl rfl rfl) ?_
 apply WM
 apply aC
 rfl
 intro hB; (try simp only [hB, bss, ctt]); exact aI rfl
 apply aC
 rfl
 intro hB; (try simp only [hB, bss, ctt]); exact aI rfl
 apply aC
 rfl
 intro hB; (try simp only [hB, bss, ctt]); exact bU rfl rfl
 apply aC
 rfl
 intro hB; (try simp only [hB, bss, ctt]); exact ah rfl rfl
 apply aC
 rfl
 intro hB; (try simp only [hB, bss, ctt]); exact aj rfl rfl rfl
 apply aC
 rfl
 intro hB; (try simp only [hB, bss, ctt]); exact kE rfl rfl
 apply aC
 rfl
 intro hB; (try simp only [hB, bss, ctt]); exact aB rfl rfl rfl
 refine WQ (dS rfl rfl rfl) ?_
 apply WM
 refine Wk [17] [904, 100900, 100903, 100950, 100951] ?_
 (try dsimp)
 refine Ec h rfl (fun h hc3 => ?_) (fun h hc3 => ?_)
 apply Eso
 apply WM
 refine Wk [4] [904, 100900, 100903, 100950, 100951] ?_
 (try dsimp)
 apply bI
 cases h
 (try simp only [qt, qb, qn])
 refine aT (xs := _) ⟨_, rfl, rfl⟩ ?_
 show _ ∧ _
 exact ⟨rfl, ⟨(by first | rfl | simp [aG, aP, aH]), ⟨(by first | rfl | simp [aG, aP, aH]), ⟨(by first | rfl | simp [aG, aP, aH]), ⟨(by first | rfl | simp [aG, aP, aH]), ⟨(by first | rfl | simp [aG, aP, aH]), trivial⟩⟩⟩⟩⟩⟩
 apply bG
 refine bf [] [904, 100900, 100903, 100950, 100951] ?_
 (try dsimp)
 apply Eso
 apply WM
 apply dn
 (try dsimp)
 apply bI
 cases h
 (try simp only [qt, qb, qn])
 refine aT (xs := _) ⟨_, rfl, rfl⟩ ?_
 show _ ∧ _
 exact ⟨rfl, ⟨(by first | rfl | simp [aG, aP, aH]), ⟨(by first | rfl | simp [aG, aP, aH]), ⟨(by first | rfl | simp [aG, aP, aH]), ⟨(by first | rfl | simp [aG, aP, aH]), ⟨(by first | rfl | simp [aG, aP, aH]), trivial⟩⟩⟩⟩⟩⟩
end Go.V.P
