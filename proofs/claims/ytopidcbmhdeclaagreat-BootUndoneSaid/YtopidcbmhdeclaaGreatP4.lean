/- Walks: each function does what its model says. No premises. -/
import Derived.Test.YtopidcbmhdeclaaGreatP3
set_option linter.unusedVariables false
set_option linter.unusedSimpArgs false
set_option maxRecDepth 20000
set_option maxHeartbeats 4000000
namespace Go.V.P
open Go.V Go.Proofs
def OX : cO := (q [o (.box 30 0) 2, o (.jm [zi, zu, zu, zu, zu, zu, zi, zu, zi, .nil]) 4, o (.mv (cb nn)) 5] (q [o (.load yy 3 2) 14, o (.call 39 [14, ci 0]) 15, w 13 15, o (.ext 0 13) 16, o (.ext 1 13) 17, w 6 16, w 7 17] (.seq (q [w 18 7, o (.bin .eql 3 18 (ci 0)) 19, w 20 19, g_ (.mv 1) 21 20 nn, g_ (.len nn 21) 22 20 nn, g_ (.mv 7) 23 20 nn, g_ (.bin .neq 3 22 23) 24 20 nn, o (.pick 20 (cb yy) 24) 25] (.cond 25 (q [o (.build [zi, zu, zu, zu, zu, zu, zi, zu, zi, .nil] []) 26, n_ (.store 10 4 26), o (.mv (cb nn)) 5] .ret) .skip)) (.seq (q [w 27 1, o (.fH 1 27 (ci 0)) 28, o (.load nn 1 28) 29, o (.bin .eql 22 29 (.const (.int .u64 0))) 30] (.cond 30 (.seq (.draw [((o (.build [zi, zu, zu, zu, zu, zu, zi, zu, zi, .nil] []) 31), []), ((w 32 1), []), ((o (.fH 1 32 (ci 7)) 33), [1]), ((o (.load nn 1 33) 34), [2]), ((o (.bin .eql 22 34 (.const (.int .u64 0))) 35), [3]), ((n_ (.store 10 4 31)), [0, 0]), ((w 5 35), [4, 5, 0, 1, 2, 3, 4, 5])]) .ret) .skip)) (.seq (.draw [((w 36 1), []), ((o (.fH 1 36 (ci 0)) 37), [0]), ((o (.load nn 1 37) 38), [1]), ((o (.call 81 []) 39), []), ((o (.call 97 [38, 39]) 40), [2, 3, 3]), ((w 8 40), [4, 4, 0, 1, 2, 3, 4])]) (.seq (.draw [((w 41 8), []), ((o (.fH 1 41 (ci 0)) 42), [0]), ((o (.load nn 1 42) 43), [1]), ((o (.jd .i64 43) 44), [2]), ((w 45 8), []), ((o (.fH 1 45 (ci 3)) 46), [4]), ((o (.load nn 1 46) 47), [5]), ((o (.build [zi, zu, zu, zu, zu, zu, zi, zu, zi, .nil] [(0, (1, 44)), (1, (1, 47))]) 48), [3, 6]), ((o (.jm [zi, zu, zu, zu, zu, zu, zi, zu, zi, .nil]) 9), []), ((n_ (.store 10 9 48)), [8, 7, 0, 1, 2, 3, 4, 5, 6, 7, 8])]) (.seq (.draw [((o (.add 2 9) 49), []), ((o (.SH 1 4 49 .none .none) 50), [0]), ((w 51 1), []), ((o (.slc 1 51 (.some (ci 1)) .none .none) 52), [2]), ((o (.copy 1 50 52) 53), [1, 3])]) (q [w 54 8, o (.fH 1 54 (ci 1)) 55, o (.load nn 1 55) 56, o (.jd .i64 56) 57, o (.add 6 9) 58, o (.add 0 58) 59, n_ (.store 1 59 57)] (q [w 60 8, o (.fH 1 60 (ci 2)) 61, o (.load nn 1 61) 62, o (.jd .i64 62) 63, w 10 63] (.seq (q [w 64 10, o (.bin .gtr 3 64 (ci 600)) 65] (.cond 65 (q [o (.build [zi, zu, zu, zu, zu, zu, zi, zu, zi, .nil] []) 66, n_ (.store 10 4 66), o (.mv (cb nn)) 5] .ret) .skip)) (.seq (q [o (.add 0 9) 67, o (.load nn 1 67) 68, o (.bin .neq 3 68 (ci 1)) 69] (.cond 69 (.seq (q [w 70 1, o (.fH 1 70 (ci 6)) 71, o (.load nn 1 71) 72, o (.bin .gtr 22 72 (.const (.int .u64 2147483647))) 73] (.cond 73 (q [o (.build [zi, zu, zu, zu, zu, zu, zi, zu, zi, .nil] []) 74, n_ (.store 10 4 74), o (.mv (cb nn)) 5] .ret) .skip)) (.draw [((w 75 1), []), ((o (.fH 1 75 (ci 5)) 76), [0]), ((o (.load nn 1 76) 77), [1]), ((w 78 1), []), ((o (.fH 1 78 (ci 6)) 79), [3]), ((o (.load nn 1 79) 80), [4]), ((o (.jd .i64 80) 81), [5]), ((o (.add 6 9) 82), [0, 1, 2, 5]), ((o (.add 1 82) 83), [7, 0, 1, 2, 5]), ((n_ (.store 1 83 77)), [8, 2, 0, 1, 2, 5]), ((o (.add 6 9) 84), [0, 1, 2, 3, 4, 5, 6, 7, 8, 9]), ((o (.add 2 84) 85), [10, 0, 1, 2, 3, 4, 5, 6, 7, 8, 9]), ((n_ (.store 1 85 81)), [11, 6, 9, 0, 1, 2, 3, 4, 5, 6, 7, 8, 9])])) .skip)) (.seq (q [w 86 10, o (.mv (ci 0)) 87] (.block 0 (.loop (q [o (.bin .lss 3 87 86) 88] (.seq (.cond 88 .skip (.exit 0)) (.seq (.block 1 (q [w 89 87, w 11 89] (q [w 90 1, w 91 11, o (.bin .mul 3 (ci 2) 91) 92, o (.bin .add 3 (ci 8) 92) 93, o (.fH 1 90 93) 94, o (.load nn 1 94) 95, w 12 95] (.seq (q [w 96 12, o (.bin .gtr 22 96 (.const (.int .u64 2147483647))) 97] (.cond 97 (q [o (.build [zi, zu, zu, zu, zu, zu, zi, zu, zi, .nil] []) 98, n_ (.store 10 4 98), o (.mv (cb nn)) 5] .ret) .skip)) (.draw [((o (.add 9 9) 99), []), ((o (.load nn 1 99) 100), [0]), ((w 101 12), []), ((o (.jd .i64 101) 102), [2]), ((w 103 1), []), ((w 104 11), []), ((o (.bin .mul 3 (ci 2) 104) 105), [5]), ((o (.bin .add 3 (ci 8) 105) 106), [6]), ((o (.bin .add 3 106 (ci 1)) 107), [7]), ((o (.fH 1 103 107) 108), [4, 8]), ((o (.load nn 1 108) 109), [9]), ((o (.build [zi, zu] [(0, (1, 102)), (1, (1, 109))]) 110), [3, 10]), ((o (.iW 2 172 1 [zi, zu] [(0, (2, 110))]) 111), [11]), ((o (.app 42 172 2 16 100 111) 112), [1, 12]), ((o (.add 9 9) 113), [0, 1, 2, 3, 4, 5, 6, 7, 8, 9, 10, 11, 12, 13]), ((n_ (.store 1 113 112)), [14, 13, 13, 0, 1, 2, 3, 4, 5, 6, 7, 8, 9, 10, 11, 12, 13])]))))) (.ops [o (.bin .add 3 87 (ci 1)) 114, w 87 114]))))))) (.seq (q [o (.load yy 3 2) 115, o (.load yy 10 9) 116, o (.call 98 [115, 116]) 117, o (.un .not 117) 118, w 119 118, g_ (.mv 1) 120 119 nn, g_ (.fH 1 120 (ci 7)) 121 119 nn, g_ (.load nn 1 121) 122 119 nn, g_ (.bin .neq 22 122 (.const (.int .u64 0))) 123 119 nn, o (.pick 119 (cb yy) 123) 124] (.cond 124 (q [o (.build [zi, zu, zu, zu, zu, zu, zi, zu, zi, .nil] []) 125, n_ (.store 10 4 125), o (.mv (cb nn)) 5] .ret) .skip)) (q [o (.load yy 10 9) 126, n_ (.store 10 4 126), o (.mv (cb yy)) 5] .ret))))))))))))))
theorem Xt : Fits Tryz.prog 58 2 OX [(.cell true 10 4), (.tmp 5)] := fk Tryz.func58
theorem zU (F : Nat) (a0 : aJ) (a1 : (List Int)) (r : aV × Bool) (h : kZ F a0 a1 = some r) : PC Tryz.prog 58 [S.agg [vi a0.ak, vi a0.ay, vi a0.aA], ss dh a1] (S.tup [S.agg [vi r.1.bK, vu r.1.jD, vu r.1.xL.c0, vu r.1.xL.c1, vu r.1.xL.c2, vu r.1.xL.c3, vi r.1.bJ.kP, vu r.1.bJ.xW, vi r.1.bJ.xN, sl bM r.1.xW], (zb_ r.2)]) := by
 unfold kZ at h
 refine eu Xt rfl rfl ?_
 intro C hP
 unfold OX; dsimp
 apply Eso
 refine W1 dbx ?_
 refine W1 dnv ?_
 apply WM
 refine Wk [1, 2, 4] [2, 4] ?_
 (try dsimp)
 apply Eso
 refine WQ qlA ?_
 obtain ⟨x1, x1h, h⟩ := aG h
 refine W1 (dc1 hP (qE F a0 (0 : Int) x1 x1h)) ?_
 apply WM
 refine WQ qx ?_
 refine WQ qx ?_
 apply WM
 apply WM
 refine Wk [1, 2, 4, 7] [2, 4] ?_
 (try dsimp)
 apply bG
 apply Eso
 apply WM
 refine WQ qi ?_
 apply WM
 apply aF
 rfl
 intro b
 try rw [b]
 exact qm
 apply aF
 rfl
 intro b
 try rw [b]
 exact qls
 apply aF
 rfl
 intro b
 try rw [b]
 exact qm
 apply aF
 rfl
 intro b
 try rw [b]
 exact qi
 refine WQ qor ?_
 refine Wk [1, 2, 4, 25] [2, 4] ?_
 (try dsimp)
 refine Ec h rfl (fun h hc2 => ?_) (fun h hc2 => ?_)
 apply Eso
 refine WQ qbu ?_
 refine W1 dst ?_
 apply WM
 refine Wk [4, 5] [4] ?_
 (try dsimp)
 refine dR (ni (q := 4) rfl).b ?_
 (try dsimp)
 apply bD
 cases h
 exact fe
 apply bf
 refine aX [1, 2, 4] [2, 4] ?_
 (try dsimp)
 apply bG
 apply Eso
 apply WM
 obtain ⟨g3, h⟩ := aQ h
 refine WQ (qis g3) ?_
 refine WQ (q1F 1 g3 0) ?_
 refine WQ qi ?_
 refine Wk [1, 2, 4, 30] [2, 4] ?_
 (try dsimp)
 refine Ec h rfl (fun h hc4 => ?_) (fun h hc4 => ?_)
 obtain ⟨k5, k5d, h⟩ := eX h
 refine dJ (fun (i : Unit) => ⟨[(4, S.one (.ptr 4 0)), (5, (zb_ ((nth a1 (7 : Int)) == (0 : Int))))], [(4, ⟨true, [vi (0 : Int), vu (0 : Int), vu (0 : Int), vu (0 : Int), vu (0 : Int), vu (0 : Int), vi (0 : Int), vu (0 : Int), vi (0 : Int), .nil]⟩)]⟩) (fun i => k5 () = some r) (fun i h => ?_) ?_
 rw [k5d] at h; dsimp only at h
 (try dsimp)
 refine dR (ni (q := 4) rfl).b ?_
 (try dsimp)
 apply bD
 cases h
 exact fe
 obtain ⟨g6, h⟩ := aQ h
 refine ig [0] ?_
 refine XQ 0 rfl rfl rfl qbu ?_
 refine X2 rfl ?_ ?_
 refine XK rfl ((qm).does) ?_
 refine X2 rfl ?_ ?_
 refine XK rfl ((qis g6).does) ?_
 refine X2 rfl ?_ ?_
 refine XK rfl ((q1F 1 g6 0).does) ?_
 refine X2 rfl ?_ ?_
 refine XK rfl ((qi).does) ?_
 refine X1 rfl (XT rfl rfl dst ?_)
 refine X1 rfl (XT rfl rfl ((qm).does) ?_)
 refine dL rfl ?_
 refine ⟨(), h, ?_⟩
 exact LB
 refine XT rfl rfl dst ?_
 refine X1 rfl (XT rfl rfl ((qi).does) ?_)
 refine X1 rfl (XT rfl rfl ((qm).does) ?_)
 refine dL rfl ?_
 refine ⟨(), h, ?_⟩
 exact LB
 refine XT rfl rfl dst ?_
 refine X1 rfl (XT rfl rfl ((q1F 1 g6 0).does) ?_)
 refine X1 rfl (XT rfl rfl ((qi).does) ?_)
 refine X1 rfl (XT rfl rfl ((qm).does) ?_)
 refine dL rfl ?_
 refine ⟨(), h, ?_⟩
 exact LB
 refine XT rfl rfl dst ?_
 refine X1 rfl (XT rfl rfl ((qis g6).does) ?_)
 refine X1 rfl (XT rfl rfl ((q1F 1 g6 0).does) ?_)
 refine X1 rfl (XT rfl rfl ((qi).does) ?_)
 refine X1 rfl (XT rfl rfl ((qm).does) ?_)
 refine dL rfl ?_
 refine ⟨(), h, ?_⟩
 exact LB
 refine XT rfl rfl dst ?_
 refine X1 rfl (XT rfl rfl ((qm).does) ?_)
 refine X1 rfl (XT rfl rfl ((qis g6).does) ?_)
 refine X1 rfl (XT rfl rfl ((q1F 1 g6 0).does) ?_)
 refine X1 rfl (XT rfl rfl ((qi).does) ?_)
 refine X1 rfl (XT rfl rfl ((qm).does) ?_)
 refine dL rfl ?_
 refine ⟨(), h, ?_⟩
 exact LB
 apply bf
 refine aX [1, 2, 4] [2, 4] ?_
 (try dsimp)
 apply bG
 obtain ⟨g7, h⟩ := aQ h
 obtain ⟨x8, x8h, h⟩ := aG h
 obtain ⟨x9, x9h, h⟩ := aG h
 refine ig [0, 1, 2, 5] ?_
 refine XQ 0 rfl rfl rfl qm ?_
 refine XQ 1 rfl rfl rfl (qis g7) ?_
 refine XQ 2 rfl rfl rfl (q1F 1 g7 0) ?_
 refine X1 rfl (XK rfl (dc1 hP (He F  x8 x8h)) ?_)
 refine X1 rfl (XK rfl (dc1 hP (Ef F (nth a1 (0 : Int)) x8 x9 x9h)) ?_)
 refine XQ 5 rfl rfl rfl qm ?_
 refine dL rfl ?_
 refine aX [1, 2, 4, 8] [2, 4] ?_
 (try dsimp)
 apply bG
 obtain ⟨g10, h⟩ := aQ h
 obtain ⟨g11, h⟩ := aQ h
 refine ig [0, 1, 2, 3, 4, 5, 6, 7] ?_
 refine XQ 0 rfl rfl rfl qm ?_
 refine XQ 1 rfl rfl rfl (qis g10) ?_
 refine XQ 2 rfl rfl rfl (q1F 1 g10 0) ?_
 refine XQ 3 rfl rfl rfl qcv ?_
 refine XQ 4 rfl rfl rfl qm ?_
 refine XQ 5 rfl rfl rfl (qis g11) ?_
 refine XQ 6 rfl rfl rfl (q1F 1 g11 0) ?_
 refine XQ 7 rfl rfl rfl qbu ?_
 (try dsimp)
 refine X1 rfl (XK rfl dnv ?_)
 refine X1 rfl (XT rfl rfl dst ?_)
 refine dL rfl ?_
 refine aX [1, 2, 4, 8, 9] [2, 4, 9] ?_
 (try dsimp)
 apply bG
 obtain ⟨g12, h⟩ := aQ h
 obtain ⟨g13, h⟩ := aQ h
 refine ig [0, 1, 2, 3] ?_
 refine XQ 0 rfl rfl rfl qap ?_
 refine XQ 1 rfl rfl rfl (qR rfl rfl rfl rfl (by decide) (by decide) (by decide) (List.cons_ne_nil _ _)) ?_
 refine XQ 2 rfl rfl rfl qm ?_
 refine XQ 3 rfl rfl rfl (lS rfl (fun _ => rfl) rfl rfl g12.1 g12.2.1 g12.2.2) ?_
 refine X1 rfl (XT rfl rfl (Md (lit := [vu (nth (cut a1 (1 : Int) ((a1.length : Nat) : Int)) 0), vu (nth (cut a1 (1 : Int) ((a1.length : Nat) : Int)) 1), vu (nth (cut a1 (1 : Int) ((a1.length : Nat) : Int)) 2), vu (nth (cut a1 (1 : Int) ((a1.length : Nat) : Int)) 3)]) rfl rfl (fun _ => rfl) (fun _ => rfl) rfl (Src.slF (cut a1 (1 : Int) ((a1.length : Nat) : Int)) (fun _ => rfl)) (Nat.le_of_ble_eq_true rfl) g13 rfl) ?_)
 refine dL rfl ?_
 refine aX [1, 2, 4, 8, 9] [2, 4, 9] ?_
 (try dsimp)
 apply Eso
 apply WM
 obtain ⟨g14, h⟩ := aQ h
 refine WQ (qis g14) ?_
 refine WQ (q1F 1 g14 0) ?_
 refine WQ qcv ?_
 refine WQ qap ?_
 refine WQ qap ?_
 refine W1 dst ?_
 refine Wk [1, 2, 4, 8, 9] [2, 4, 9] ?_
 (try dsimp)
 apply Eso
 apply WM
 obtain ⟨g15, h⟩ := aQ h
 refine WQ (qis g15) ?_
 refine WQ (q1F 1 g15 0) ?_
 refine WQ qcv ?_
 apply WM
 refine Wk [1, 2, 4, 9, 10] [2, 4, 9] ?_
 (try dsimp)
 apply bG
 apply Eso
 apply WM
 refine WQ qi ?_
 refine Wk [1, 2, 4, 9, 10, 65] [2, 4, 9] ?_
 (try dsimp)
 refine Ec h rfl (fun h hc16 => ?_) (fun h hc16 => ?_)
 apply Eso
 refine WQ qbu ?_
 refine W1 dst ?_
 apply WM
 refine Wk [4, 5] [4] ?_
 (try dsimp)
 refine dR (ni (q := 4) rfl).b ?_
 (try dsimp)
 apply bD
 cases h
 exact fe
 apply bf
 refine aX [1, 2, 4, 9, 10] [2, 4, 9] ?_
 (try dsimp)
 obtain ⟨k19, ael, h⟩ := eX h
 refine dJ (fun (i : Int × Int) => ⟨[(1, ss dh a1), (2, S.one (.ptr 2 0)), (4, S.one (.ptr 4 0)), (9, S.one (.ptr 9 0)), (10, (zi_ (IntKind.i64.wrap (nth x9 (2 : Int)))))], [(2, ⟨true, [vi a0.ak, vi a0.ay, vi a0.aA]⟩), (4, ⟨true, [vi (0 : Int), vu (0 : Int), vu (0 : Int), vu (0 : Int), vu (0 : Int), vu (0 : Int), vi (0 : Int), vu (0 : Int), vi (0 : Int), .nil]⟩), (9, ⟨true, [vi (IntKind.i64.wrap (nth x9 (0 : Int))), vu (nth x9 (3 : Int)), vu (nth (cut a1 (1 : Int) ((a1.length : Nat) : Int)) 0), vu (nth (cut a1 (1 : Int) ((a1.length : Nat) : Int)) 1), vu (nth (cut a1 (1 : Int) ((a1.length : Nat) : Int)) 2), vu (nth (cut a1 (1 : Int) ((a1.length : Nat) : Int)) 3), vi (IntKind.i64.wrap (nth x9 (1 : Int))), vu i.1, vi i.2, .nil]⟩)]⟩) (fun i => k19 i.1 i.2 = some r) (fun i h => ?_) ?_
 obtain ⟨v17, v18⟩ := i
 rw [ael] at h; dsimp only at h
 (try dsimp)
 obtain ⟨k21, aem, h⟩ := eX h
 refine dJ (fun (i : (List aB)) => ⟨[(1, ss dh a1), (2, S.one (.ptr 2 0)), (4, S.one (.ptr 4 0)), (9, S.one (.ptr 9 0))], [(2, ⟨true, [vi a0.ak, vi a0.ay, vi a0.aA]⟩), (4, ⟨true, [vi (0 : Int), vu (0 : Int), vu (0 : Int), vu (0 : Int), vu (0 : Int), vu (0 : Int), vi (0 : Int), vu (0 : Int), vi (0 : Int), .nil]⟩), (9, ⟨false, [vi (IntKind.i64.wrap (nth x9 (0 : Int))), vu (nth x9 (3 : Int)), vu (nth (cut a1 (1 : Int) ((a1.length : Nat) : Int)) 0), vu (nth (cut a1 (1 : Int) ((a1.length : Nat) : Int)) 1), vu (nth (cut a1 (1 : Int) ((a1.length : Nat) : Int)) 2), vu (nth (cut a1 (1 : Int) ((a1.length : Nat) : Int)) 3), vi (IntKind.i64.wrap (nth x9 (1 : Int))), vu v17, vi v18, .own 1112 0 i.length (some (2, 172))]⟩), (1112, ⟨true, flat bM i⟩)]⟩) (fun i => k21 i = some r) (fun i h => ?_) ?_
 let iv := i; change k21 i = some r at h; generalize i = v20 at h ⊢
 rw [aem] at h; dsimp only at h
 (try dsimp)
 apply bG
 apply Eso
 refine WQ qlA ?_
 refine WQ qlA ?_
 obtain ⟨x22, aen, h⟩ := aG h
 refine W1 (nU hP (Vg F a0 (⟨(IntKind.i64.wrap (nth x9 (0 : Int))), (nth x9 (3 : Int)), (⟨(nth (cut a1 (1 : Int) ((a1.length : Nat) : Int)) 0), (nth (cut a1 (1 : Int) ((a1.length : Nat) : Int)) 1), (nth (cut a1 (1 : Int) ((a1.length : Nat) : Int)) 2), (nth (cut a1 (1 : Int) ((a1.length : Nat) : Int)) 3)⟩ : V4 Int), (⟨(IntKind.i64.wrap (nth x9 (1 : Int))), v17, v18⟩ : dP), v20⟩ : aV) x22 aen) rfl rfl) ?_
 refine WQ qno ?_
 apply WM
 apply aF
 rfl
 intro b
 try rw [b]
 exact qm
 obtain ⟨g23, h⟩ := aQ h
 apply aF
 rfl
 intro b
 try rw [b]
 exact qis (g23 b)
 apply aF
 rfl
 intro b
 try rw [b]
 exact q1F 1 (g23 b) 0
 apply aF
 rfl
 intro b
 try rw [b]
 exact qi
 refine WQ qor ?_
 refine Wk [4, 9, 124] [4, 9, 1112] ?_
 (try dsimp)
 refine Ec h rfl (fun h hc24 => ?_) (fun h hc24 => ?_)
 apply Eso
 refine WQ qbu ?_
 refine W1 dst ?_
 apply WM
 refine Wk [4, 5] [4] ?_
 (try dsimp)
 refine dR (ni (q := 4) rfl).b ?_
 (try dsimp)
 apply bD
 cases h
 exact fe
 apply bf
 refine aX [4, 9] [4, 9, 1112] ?_
 (try dsimp)
 apply Eso
 refine WQ qlA ?_
 refine W1 dst ?_
 apply WM
 refine Wk [4, 5] [4, 1112] ?_
 (try dsimp)
 refine dR (kY (r := 1112) rfl rfl).b ?_
 (try dsimp)
 apply bD
 cases h
 exact fe
 apply Eso
 apply WM
 apply WM
 refine Wk [1, 2, 4, 9, 86, 87] [2, 4, 9] ?_
 (try dsimp)
 apply bT
 (try dsimp)
 refine eG (fun (i : Int × (List aB)) => ⟨[(1, ss dh a1), (2, S.one (.ptr 2 0)), (4, S.one (.ptr 4 0)), (9, S.one (.ptr 9 0)), (86, (zi_ (IntKind.i64.wrap (nth x9 (2 : Int))))), (87, zi_ i.1)], [(2, ⟨true, [vi a0.ak, vi a0.ay, vi a0.aA]⟩), (4, ⟨true, [vi (0 : Int), vu (0 : Int), vu (0 : Int), vu (0 : Int), vu (0 : Int), vu (0 : Int), vi (0 : Int), vu (0 : Int), vi (0 : Int), .nil]⟩), (9, ⟨false, [vi (IntKind.i64.wrap (nth x9 (0 : Int))), vu (nth x9 (3 : Int)), vu (nth (cut a1 (1 : Int) ((a1.length : Nat) : Int)) 0), vu (nth (cut a1 (1 : Int) ((a1.length : Nat) : Int)) 1), vu (nth (cut a1 (1 : Int) ((a1.length : Nat) : Int)) 2), vu (nth (cut a1 (1 : Int) ((a1.length : Nat) : Int)) 3), vi (IntKind.i64.wrap (nth x9 (1 : Int))), vu v17, vi v18, .own 1112 0 i.2.length (some (2, 172))]⟩), (1112, ⟨true, flat bM i.2⟩)]⟩) (fun n i => iK F a1 x9 k21 n i.1 i.2 = some r) F ((0 : Int), ([] : List aB)) h ?_ (fun n i h => ?_)
 refine fM (rM (q := 9) (j := 9) (r := 1112) 2 172 rfl rfl rfl rfl) ?_
 exact LB
 obtain ⟨v49, v50⟩ := i; dsimp only at h
 obtain _ | n51 := n
 cases h
 unfold iK at h
 (try dsimp)
 apply Eso
 refine WQ qi ?_
 apply bW
 (try dsimp)
 apply bG
 refine Ec h rfl (fun h ab5 => ?_) (fun h ab5 => ?_)
 apply bf
 refine aX [1, 2, 4, 9, 86, 87] [2, 4, 9, 1112] ?_
 (try dsimp)
 apply bG
 apply bT
 apply Eso
 apply WM
 apply WM
 refine Wk [1, 2, 4, 9, 11, 86, 87] [2, 4, 9, 1112] ?_
 (try dsimp)
 apply Eso
 apply WM
 apply WM
 obtain ⟨g53, h⟩ := aQ h
 refine WQ (qmu g53) ?_
 obtain ⟨g54, h⟩ := aQ h
 refine WQ (qad g54) ?_
 obtain ⟨g55, h⟩ := aQ h
 refine WQ (qis g55) ?_
 refine WQ (q1F 1 g55 0) ?_
 apply WM
 refine Wk [1, 2, 4, 9, 11, 12, 86, 87] [2, 4, 9, 1112] ?_
 (try dsimp)
 apply bG
 apply Eso
 apply WM
 refine WQ qi ?_
 refine Wk [1, 2, 4, 9, 11, 12, 86, 87, 97] [2, 4, 9, 1112] ?_
 (try dsimp)
 refine Ec h rfl (fun h aeo => ?_) (fun h aeo => ?_)
 apply Eso
 refine WQ qbu ?_
 refine W1 dst ?_
 apply WM
 refine Wk [4, 5] [4] ?_
 (try dsimp)
 refine dR (ni (q := 4) rfl).b ?_
 (try dsimp)
 apply bD
 cases h
 exact fe
 apply bf
 refine aX [1, 2, 4, 9, 11, 12, 86, 87] [2, 4, 9, 1112] ?_
 (try dsimp)
 obtain ⟨g57, h⟩ := aQ h
 obtain ⟨g58, h⟩ := aQ h
 obtain ⟨g59, h⟩ := aQ h
 obtain ⟨g60, h⟩ := aQ h
 obtain ⟨g61, h⟩ := aQ h
 refine ig [0, 1, 2, 3, 4, 7, 8, 9, 10, 11] ?_
 refine XQ 0 rfl rfl rfl qap ?_
 refine XQ 1 rfl rfl rfl ql1 ?_
 refine XQ 2 rfl rfl rfl qm ?_
 refine XQ 3 rfl rfl rfl qcv ?_
 refine XQ 4 rfl rfl rfl qm ?_
 refine X1 rfl (XK rfl ((qm).does) ?_)
 refine X1 rfl (XK rfl ((qmu g57).does) ?_)
 refine XQ 7 rfl rfl rfl (qad g58) ?_
 refine XQ 8 rfl rfl rfl (qad g59) ?_
 refine XQ 9 rfl rfl rfl (qis g60) ?_
 refine XQ 10 rfl rfl rfl (q1F 1 g60 0) ?_
 refine XQ 11 rfl rfl rfl qbu ?_
 refine X1 rfl (XK rfl dbs ?_)
 refine X1 rfl (XT rfl rfl (dY (e := bM) rfl rfl (fun _ => rfl) (fun _ => rfl) rfl (Src.lit (e := bM) ([(⟨(IntKind.i64.wrap (nth a1 ((8 : Int) + ((2 : Int) * v49)))), (nth a1 (((8 : Int) + ((2 : Int) * v49)) + (1 : Int)))⟩ : aB)] : List aB) rfl (fun _ => rfl) rfl rfl) g61 rfl) ?_)
 refine X1 rfl (XT rfl rfl ((qap).does) ?_)
 refine X1 rfl (XT rfl rfl dst ?_)
 refine dL rfl ?_
 refine aX [1, 2, 4, 9, 86, 87] [2, 4, 9, 1112] ?_
 (try dsimp)
 apply dO
 obtain ⟨g62, h⟩ := aQ h
 refine WQ (qad g62) ?_
 apply WM
 apply bW
 refine ⟨n51, ((v49 + (1 : Int)), (v50 ++ ([(⟨(IntKind.i64.wrap (nth a1 ((8 : Int) + ((2 : Int) * v49)))), (nth a1 (((8 : Int) + ((2 : Int) * v49)) + (1 : Int)))⟩ : aB)] : List aB))), Nat.lt_succ_self _, h, ?_⟩
 exact LB
 apply gy
 refine ⟨v50, h, ?_⟩
 exact LB
 apply Eso
 refine WQ qap ?_
 refine WQ ql1 ?_
 refine WQ qi ?_
 refine Wk [1, 2, 4, 9, 10, 69] [2, 4, 9] ?_
 (try dsimp)
 refine Ec h rfl (fun h hc63 => ?_) (fun h hc63 => ?_)
 apply bG
 apply Eso
 apply WM
 obtain ⟨g64, h⟩ := aQ h
 refine WQ (qis g64) ?_
 refine WQ (q1F 1 g64 0) ?_
 refine WQ qi ?_
 refine Wk [1, 2, 4, 9, 10, 73] [2, 4, 9] ?_
 (try dsimp)
 refine Ec h rfl (fun h aep => ?_) (fun h aep => ?_)
 apply Eso
 refine WQ qbu ?_
 refine W1 dst ?_
 apply WM
 refine Wk [4, 5] [4] ?_
 (try dsimp)
 refine dR (ni (q := 4) rfl).b ?_
 (try dsimp)
 apply bD
 cases h
 exact fe
 apply bf
 refine aX [1, 2, 4, 9, 10] [2, 4, 9] ?_
 (try dsimp)
 obtain ⟨g66, h⟩ := aQ h
 obtain ⟨g67, h⟩ := aQ h
 refine ig [0, 1, 2, 3, 4, 5, 7, 8] ?_
 refine XQ 0 rfl rfl rfl qm ?_
 refine XQ 1 rfl rfl rfl (qis g66) ?_
 refine XQ 2 rfl rfl rfl (q1F 1 g66 0) ?_
 refine XQ 3 rfl rfl rfl qm ?_
 refine XQ 4 rfl rfl rfl (qis g67) ?_
 refine XQ 5 rfl rfl rfl (q1F 1 g67 0) ?_
 refine XQ 7 rfl rfl rfl qap ?_
 refine XQ 8 rfl rfl rfl qap ?_
 (try dsimp)
 refine X2 rfl ?_ ?_
 refine XK rfl ((qcv).does) ?_
 refine X1 rfl (XT rfl rfl dst ?_)
 refine X1 rfl (XT rfl rfl ((qap).does) ?_)
 refine X1 rfl (XT rfl rfl ((qap).does) ?_)
 refine X1 rfl (XT rfl rfl dst ?_)
 refine dL rfl ?_
 refine ⟨((nth a1 (5 : Int)), (IntKind.i64.wrap (nth a1 (6 : Int)))), h, ?_⟩
 exact LB
 refine XT rfl rfl dst ?_
 refine X1 rfl (XT rfl rfl ((qcv).does) ?_)
 refine X1 rfl (XT rfl rfl ((qap).does) ?_)
 refine X1 rfl (XT rfl rfl ((qap).does) ?_)
 refine X1 rfl (XT rfl rfl dst ?_)
 refine dL rfl ?_
 refine ⟨((nth a1 (5 : Int)), (IntKind.i64.wrap (nth a1 (6 : Int)))), h, ?_⟩
 exact LB
 apply bf
 refine ⟨((0 : Int), (0 : Int)), h, ?_⟩
 exact LB
def vF : cO := (q [o (.mv cn) 2] (.seq (q [w 3 0, o (.bin .eql 34 3 cn) 4] (.cond 4 (q [o (.mv cn) 2] .ret) .skip)) (q [o (.iW 1 22 0 [] []) 5, w 6 0, o (.app 34 22 1 8 5 6) 7, w 2 7] .ret)))
theorem Cb : Fits Tryz.prog 99 1 vF [(.tmp 2)] := fk Tryz.func99
theorem AO (l : List Int) (g : l.length * 8 ≤ 140737488355328) : OC Tryz.prog 99 [S.one (.sl (flat dh l) l.length)] 1 22 l.length (flat dh l) := by
 unfold OC
 refine lN Cb rfl ?_
 intro C hP
 unfold vF; dsimp
 refine bG ?_
 refine dO ?_
 refine WQ qm ?_
 refine bW ?_
 dsimp only [zV, zD, Nat.reduceBEq, cond_true, cond_false]
 refine aX [0] [] ?_
 dsimp
 refine bG ?_
 refine bG ?_
 refine dO ?_
 refine WQ qm ?_
 refine aat (Vh (e := 22) (by rw [hP]; exact Tryz.underlying34) rfl rfl) ?_
 rintro s' ⟨b, rfl, hb⟩
 refine bW ?_
 dsimp only [zV, zD, Nat.reduceBEq, cond_true, cond_false]
 refine aX [0, 4] [] ?_
 dsimp
 refine FC rfl (fun hc => ?_) (fun hc => ?_)
 refine bG ?_
 refine dO ?_
 refine WQ qm ?_
 refine bW ?_
 dsimp only [zV, zD, Nat.reduceBEq, cond_true, cond_false]
 refine aX [2] [] ?_
 dsimp
 obtain rfl : l = [] := List.eq_nil_of_length_eq_zero (hb hc)
 refine dR (nT (i := 2) (r := 5) 1 22 rfl rfl) ?_
 dsimp
 refine bD ?_
 (try dsimp only [zV, zD, Nat.reduceBEq, cond_true, cond_false])
 refine dN (xs := _) ⟨_, rfl, rfl⟩ ?_
 exact ⟨5, rfl, rfl⟩
 refine bf ?_
 dsimp only [zV, zD, Nat.reduceBEq, cond_true, cond_false]
 refine aX [0] [] ?_
 dsimp
 refine bG ?_
 refine dO ?_
 refine W1 dbs ?_
 refine WQ qm ?_
 refine aav (fK (r := 5) (g' := ⟨true, flat dh ([] : List Int)⟩) rfl rfl).b ?_
 dsimp
 refine W1 (dY (e := dh) (l := ([] : List Int)) rfl rfl (fun _ => rfl) (fun _ => rfl) rfl (Src.slF l (fun _ => rfl)) (by simpa using g) rfl) ?_
 refine WQ qm ?_
 refine bW ?_
 dsimp only [zV, zD, Nat.reduceBEq, cond_true, cond_false]
 refine aX [2] [5] ?_
 dsimp
 refine bD ?_
 (try dsimp only [zV, zD, Nat.reduceBEq, cond_true, cond_false])
 refine dN (xs := _) ⟨_, rfl, rfl⟩ ?_
 exact ⟨5, rfl, rfl⟩
def OY : cO := (q [o (.mv cn) 4] (q [w 8 0, o (.call 99 [8]) 9, w 5 9] (.seq (q [w 10 1, o (.len nn 10) 11, o (.mv (ci 0)) 12] (.block 0 (.loop (q [o (.bin .lss 3 12 11) 13] (.seq (.cond 13 .skip (.exit 0)) (.seq (.block 1 (q [o (.fH 2 10 12) 14, o (.load yy 2 14) 15, o (.jm [zi, zu]) 7, n_ (.store 2 7 15)] (q [o (.add 0 7) 16, o (.load nn 1 16) 17, o (.bin .geq 3 17 (ci 0)) 18, w 19 18, g_ (.add 0 7) 20 19 yy, g_ (.load nn 1 20) 21 19 yy, g_ (.mv 5) 22 19 yy, g_ (.len nn 22) 23 19 yy, g_ (.bin .lss 3 21 23) 24 19 yy, o (.pick 19 24 (cb nn)) 25] (.cond 25 (.ops [w 26 5, o (.add 0 7) 27, o (.load nn 1 27) 28, o (.add 1 7) 29, o (.load nn 1 29) 30, o (.fH 1 26 28) 31, n_ (.store 1 31 30)]) .skip)))) (.ops [o (.bin .add 3 12 (ci 1)) 32, w 12 32]))))))) (q [w 33 5, w 4 33] .ret))))
theorem Xu : Fits Tryz.prog 59 2 OY [(.tmp 4)] := fk Tryz.func59
theorem OZ (F : Nat) (a0 : (List Int)) (a1 : (List aB)) (r : (List Int)) (h : vJ F a0 a1 = some r) : PC Tryz.prog 59 [ss dh a0, ss bM a1] (ss dh r) := by
 unfold vJ at h
 refine eu Xu rfl rfl ?_
 intro C hP
 unfold OY; dsimp
 apply Eso
 apply WM
 refine Wk [0, 1] [] ?_
 (try dsimp)
 apply Eso
 apply WM
 obtain ⟨g1, h⟩ := aQ h
 refine W1 (Vj hP (AO a0 g1) rfl rfl rfl) ?_
 apply WM
 refine Wk [1, 5] [9] ?_
 (try dsimp)
 obtain ⟨k3, k3d, h⟩ := eX h
 refine dJ (fun (i : (List Int)) => ⟨[(5, S.one (.own 9 0 i.length (some (1, 22))))], [(9, ⟨true, flat dh i⟩)]⟩) (fun i => k3 i = some r) (fun i h => ?_) ?_
 let iv := i; change k3 i = some r at h; generalize i = v2 at h ⊢
 rw [k3d] at h; dsimp only at h
 (try dsimp)
 apply Eso
 apply WM
 apply WM
 refine Wk [4] [9] ?_
 (try dsimp)
 refine dR (kY (r := 9) rfl rfl).b ?_
 (try dsimp)
 apply bD
 cases h
 exact fe
 apply Eso
 apply WM
 refine WQ qls ?_
 apply WM
 refine Wk [5, 10, 11, 12] [9] ?_
 (try dsimp)
 apply bT
 (try dsimp)
 refine eG (fun (i : Int × (List Int)) => ⟨[(5, S.one (.own 9 0 i.2.length (some (1, 22)))), (10, ss bM a1), (11, (zi_ ((a1.length : Nat) : Int))), (12, zi_ i.1)], [(9, ⟨true, flat dh i.2⟩)]⟩) (fun n i => ng F a1 k3 n i.1 i.2 = some r) F ((0 : Int), a0) h ?_ (fun n i h => ?_)
 exact LB
 obtain ⟨v20, v21⟩ := i; dsimp only at h
 obtain _ | n22 := n
 cases h
 unfold ng at h
 (try dsimp)
 apply Eso
 refine WQ qi ?_
 apply bW
 (try dsimp)
 apply bG
 refine Ec h rfl (fun h ab4 => ?_) (fun h ab4 => ?_)
 apply bf
 refine aX [5, 10, 11, 12] [9] ?_
 (try dsimp)
 obtain ⟨k25, aer, h⟩ := eX h
 refine dJ (fun (i : (List Int)) => ⟨[(5, S.one (.own 9 0 i.length (some (1, 22)))), (10, ss bM a1), (11, (zi_ ((a1.length : Nat) : Int))), (12, zi_ v20)], [(9, ⟨true, flat dh i⟩)]⟩) (fun i => k25 i = some r) (fun i h => ?_) ?_
 let iv := i; change k25 i = some r at h; generalize i = v24 at h ⊢
 rw [aer] at h; dsimp only at h
 (try dsimp)
 apply dO
 obtain ⟨g26, h⟩ := aQ h
 refine WQ (qad g26) ?_
 apply WM
 apply bW
 refine ⟨n22, ((v20 + (1 : Int)), v24), Nat.lt_succ_self _, h, ?_⟩
 exact LB
 apply bT
 apply Eso
 obtain ⟨g27, h⟩ := aQ h
 refine WQ (qis g27) ?_
 refine WQ (qAF 2 g27 0) ?_
 refine W1 dnv ?_
 refine W1 dst ?_
 refine Wk [5, 7, 10, 11, 12] [7, 9] ?_
 (try dsimp)
 apply Eso
 refine WQ qap ?_
 refine WQ ql1 ?_
 refine WQ qi ?_
 apply WM
 apply aF
 rfl
 intro b
 try rw [b]
 exact qap
 apply aF
 rfl
 intro b
 try rw [b]
 exact ql1
 apply aF
 rfl
 intro b
 try rw [b]
 exact qm
 apply aF
 rfl
 intro b
 try rw [b]
 exact jg rfl rfl
 apply aF
 rfl
 intro b
 try rw [b]
 exact qi
 refine WQ qan ?_
 refine Wk [5, 7, 10, 11, 12, 25] [7, 9] ?_
 (try dsimp)
 refine Ec h rfl (fun h hc28 => ?_) (fun h hc28 => ?_)
 apply dO
 apply WM
 refine WQ qap ?_
 refine WQ ql1 ?_
 refine WQ qap ?_
 refine WQ ql1 ?_
 obtain ⟨g29, h⟩ := aQ h
 refine WQ (qio g29) ?_
 refine W1 (dI (e := dh) (n := 1) (k := 1) rfl rfl (fun _ => rfl) g29 0 (by omega) rfl rfl rfl (by decide) ((nth a1 v20).xV) rfl (by decide) rfl) ?_
 apply bW
 refine ⟨(dZ v21 ((nth a1 v20).xAt) ((nth a1 v20).xV)), h, ?_⟩
 refine fM (jM (i := 5) _ rfl (by simp [aj, au, ah] : v21.length = (dZ v21 ((nth a1 v20).xAt) ((nth a1 v20).xV)).length)).b ?_
 exact LB
 apply bf
 refine ⟨v21, h, ?_⟩
 exact LB
 apply gy
 refine ⟨v21, h, ?_⟩
 exact LB
def Me : cO := (q [o (.mv (.const (.int .u64 0))) 4] (q [w 8 1, o (.call 155 [8]) 9, w 7 9, o (.ext 0 7) 10, o (.ext 1 7) 11, w 5 10, w 6 11] (q [w 12 0, w 13 5, o (.bin .andNot 22 12 13) 14, w 4 14] .ret)))
theorem Vk : Fits Tryz.prog 134 2 Me [(.tmp 4)] := fk Tryz.func134
theorem Vl (F : Nat) (a0 : Int) (a1 : (List aU)) (r : Int) (h : xR F a0 a1 = some r) : PC Tryz.prog 134 [(zu_ a0), ss gZ a1] (zu_ r) := by
 unfold xR at h
 refine eu Vk rfl rfl ?_
 intro C hP
 unfold Me; dsimp
 apply Eso
 apply WM
 refine Wk [0, 1] [] ?_
 apply Eso
 apply WM
 obtain ⟨x1, x1h, h⟩ := aG h
 refine W1 (dc1 hP (OQ F a1 x1 x1h)) ?_
 apply WM
 refine WQ qx ?_
 refine WQ qx ?_
 apply WM
 apply WM
 refine Wk [0, 5] [] ?_
 apply Eso
 apply WM
 apply WM
 refine WQ qi ?_
 apply WM
 refine Wk [4] [] ?_
 apply bD
 cases h
 exact fe
def O1 : cO := (q [o (.jm [zi, zi, zi, zi]) 2, o (.mv (cb nn)) 3] (q [w 6 0, o (.call 120 []) 7, o (.call 97 [6, 7]) 8, w 4 8] (.seq (.draw [((w 9 4), []), ((o (.fH 1 9 (ci 0)) 10), [0]), ((o (.load nn 1 10) 11), [1]), ((o (.jd .i64 11) 12), [2]), ((w 13 4), []), ((o (.fH 1 13 (ci 3)) 14), [4]), ((o (.load nn 1 14) 15), [5]), ((o (.jd .i64 15) 16), [6]), ((w 17 4), []), ((o (.fH 1 17 (ci 1)) 18), [8]), ((o (.load nn 1 18) 19), [9]), ((o (.jd .i64 19) 20), [10]), ((w 21 4), []), ((o (.fH 1 21 (ci 2)) 22), [12]), ((o (.load nn 1 22) 23), [13]), ((o (.jd .i64 23) 24), [14]), ((o (.build [zi, zi, zi, zi] [(0, (1, 12)), (1, (1, 16)), (2, (1, 20)), (3, (1, 24))]) 25), [3, 7, 11, 15]), ((o (.jm [zi, zi, zi, zi]) 5), []), ((n_ (.store 4 5 25)), [17, 16, 0, 1, 2, 3, 4, 5, 6, 7, 8, 9, 10, 11, 12, 13, 14, 15, 16, 17])]) (.seq (q [w 26 0, o (.call 120 []) 27, o (.call 134 [26, 27]) 28, o (.bin .neq 22 28 (.const (.int .u64 0))) 29, w 30 29, g_ (.load yy 4 5) 31 30 nn, g_ (.call 119 [31]) 32 30 nn, g_ (.un .not 32) 33 30 nn, o (.pick 30 (cb yy) 33) 34] (.cond 34 (q [o (.build [zi, zi, zi, zi] []) 35, n_ (.store 4 2 35), o (.mv (cb nn)) 3] .ret) .skip)) (q [o (.load yy 4 5) 36, n_ (.store 4 2 36), o (.mv (cb yy)) 3] .ret)))))
theorem Xv : Fits Tryz.prog 95 1 O1 [(.cell true 4 2), (.tmp 3)] := fk Tryz.func95
theorem Xw (F : Nat) (a0 : Int) (r : dS × Bool) (h : rX F a0 = some r) : PC Tryz.prog 95 [(zu_ a0)] (S.tup [S.agg [vi r.1.xType, vi r.1.iG, vi r.1.kS, vi r.1.gI], (zb_ r.2)]) := by
 unfold rX at h
 refine eu Xv rfl rfl ?_
 intro C hP
 unfold O1; dsimp
 apply Eso
 refine W1 dnv ?_
 apply WM
 refine Wk [0, 2] [2] ?_
 (try dsimp)
 apply Eso
 apply WM
 obtain ⟨x1, x1h, h⟩ := aG h
 refine W1 (dc1 hP (xB F  x1 x1h)) ?_
 obtain ⟨x2, x2h, h⟩ := aG h
 refine W1 (dc1 hP (Ef F a0 x1 x2 x2h)) ?_
 apply WM
 refine Wk [0, 2, 4] [2] ?_
 (try dsimp)
 apply bG
 obtain ⟨g3, h⟩ := aQ h
 obtain ⟨g4, h⟩ := aQ h
 obtain ⟨g5, h⟩ := aQ h
 obtain ⟨g6, h⟩ := aQ h
 refine ig [0, 1, 2, 3, 4, 5, 6, 7, 8, 9, 10, 11, 12, 13, 14, 15, 16] ?_
 refine XQ 0 rfl rfl rfl qm ?_
 refine XQ 1 rfl rfl rfl (qis g3) ?_
 refine XQ 2 rfl rfl rfl (q1F 1 g3 0) ?_
 refine XQ 3 rfl rfl rfl qcv ?_
 refine XQ 4 rfl rfl rfl qm ?_
 refine XQ 5 rfl rfl rfl (qis g4) ?_
 refine XQ 6 rfl rfl rfl (q1F 1 g4 0) ?_
 refine XQ 7 rfl rfl rfl qcv ?_
 refine XQ 8 rfl rfl rfl qm ?_
 refine XQ 9 rfl rfl rfl (qis g5) ?_
 refine XQ 10 rfl rfl rfl (q1F 1 g5 0) ?_
 refine XQ 11 rfl rfl rfl qcv ?_
 refine XQ 12 rfl rfl rfl qm ?_
 refine XQ 13 rfl rfl rfl (qis g6) ?_
 refine XQ 14 rfl rfl rfl (q1F 1 g6 0) ?_
 refine XQ 15 rfl rfl rfl qcv ?_
 refine XQ 16 rfl rfl rfl qbu ?_
 (try dsimp)
 refine X1 rfl (XK rfl dnv ?_)
 refine X1 rfl (XT rfl rfl dst ?_)
 refine dL rfl ?_
 refine aX [0, 2, 5] [2, 5] ?_
 (try dsimp)
 apply bG
 apply Eso
 apply WM
 obtain ⟨x7, x7h, h⟩ := aG h
 refine W1 (dc1 hP (xB F  x7 x7h)) ?_
 obtain ⟨x8, x8h, h⟩ := aG h
 refine W1 (dc1 hP (Vl F a0 x7 x8 x8h)) ?_
 refine WQ qi ?_
 apply WM
 apply aF
 rfl
 intro b
 try rw [b]
 exact qlA
 obtain ⟨x9, x9h, h⟩ := aG h
 apply iM
 rfl
 intro hB; (try rw [hB]); exact dc1 hP (Fh F (⟨(IntKind.i64.wrap (nth x2 (0 : Int))), (IntKind.i64.wrap (nth x2 (3 : Int))), (IntKind.i64.wrap (nth x2 (1 : Int))), (IntKind.i64.wrap (nth x2 (2 : Int)))⟩ : dS) x9 (jA x9h (bt hB)))
 apply aF
 rfl
 intro b
 try rw [b]
 exact qno
 refine WQ qor ?_
 refine Wk [2, 5, 34] [2, 5] ?_
 (try dsimp)
 refine Ec h rfl (fun h QA => ?_) (fun h QA => ?_)
 apply Eso
 refine WQ qbu ?_
 refine W1 dst ?_
 apply WM
 refine Wk [2, 3] [2] ?_
 (try dsimp)
 apply bD
 cases h
 exact fe
 apply bf
 refine aX [2, 5] [2, 5] ?_
 (try dsimp)
 apply Eso
 refine WQ qlA ?_
 refine W1 dst ?_
 apply WM
 refine Wk [2, 3] [2] ?_
 (try dsimp)
 apply bD
 cases h
 exact fe
def Jt : cO := (q [o (.jm [zi, zi, zi, zi, zi, zi, zi, zb, zu, zu, zu, zu, zu]) 2, o (.mv (cb nn)) 3] (.seq (q [w 7 0, o (.len nn 7) 8, o (.bin .neq 3 8 (ci 8)) 9] (.cond 9 (q [o (.build [zi, zi, zi, zi, zi, zi, zi, zb, zu, zu, zu, zu, zu] []) 10, n_ (.store 13 2 10), o (.mv (cb nn)) 3] .ret) .skip)) (.seq (.draw [((w 11 0), []), ((o (.fH 1 11 (ci 0)) 12), [0]), ((o (.load nn 1 12) 13), [1]), ((o (.call 121 []) 14), []), ((o (.call 97 [13, 14]) 15), [2, 3, 3]), ((w 16 0), []), ((o (.fH 1 16 (ci 1)) 17), [5]), ((o (.load nn 1 17) 18), [6]), ((o (.call 122 []) 19), [4]), ((o (.call 97 [18, 19]) 20), [7, 8, 8]), ((w 4 15), [4, 9, 0, 1, 2, 3, 4]), ((w 5 20), [9, 10, 0, 1, 2, 3, 4, 5, 6, 7, 8, 9, 10])]) (.seq (.draw [((w 21 4), []), ((o (.fH 1 21 (ci 0)) 22), [0]), ((o (.load nn 1 22) 23), [1]), ((o (.jd .i64 23) 24), [2]), ((w 25 4), []), ((o (.fH 1 25 (ci 1)) 26), [4]), ((o (.load nn 1 26) 27), [5]), ((o (.jd .i64 27) 28), [6]), ((w 29 4), []), ((o (.fH 1 29 (ci 2)) 30), [8]), ((o (.load nn 1 30) 31), [9]), ((o (.jd .i64 31) 32), [10]), ((w 33 4), []), ((o (.fH 1 33 (ci 3)) 34), [12]), ((o (.load nn 1 34) 35), [13]), ((o (.bin .eql 22 35 (.const (.int .u64 1))) 36), [14]), ((w 37 4), []), ((o (.fH 1 37 (ci 4)) 38), [16]), ((o (.load nn 1 38) 39), [17]), ((o (.jd .i64 39) 40), [18]), ((w 41 5), []), ((o (.fH 1 41 (ci 0)) 42), [20]), ((o (.load nn 1 42) 43), [21]), ((o (.jd .i64 43) 44), [22]), ((w 45 5), []), ((o (.fH 1 45 (ci 1)) 46), [24]), ((o (.load nn 1 46) 47), [25]), ((o (.jd .i64 47) 48), [26]), ((w 49 5), []), ((o (.fH 1 49 (ci 2)) 50), [28]), ((o (.load nn 1 50) 51), [29]), ((o (.jd .i64 51) 52), [30]), ((w 53 0), []), ((o (.fH 1 53 (ci 2)) 54), [32]), ((o (.load nn 1 54) 55), [33]), ((o (.build [zi, zi, zi, zi, zi, zi, zi, zb, zu, zu, zu, zu, zu] [(0, (1, 24)), (1, (1, 28)), (2, (1, 32)), (7, (1, 36)), (5, (1, 40)), (3, (1, 44)), (4, (1, 48)), (6, (1, 52)), (8, (1, 55))]) 56), [3, 7, 11, 15, 19, 23, 27, 31, 34]), ((o (.jm [zi, zi, zi, zi, zi, zi, zi, zb, zu, zu, zu, zu, zu]) 6), []), ((n_ (.store 13 6 56)), [36, 35, 0, 1, 2, 3, 4, 5, 6, 7, 8, 9, 10, 11, 12, 13, 14, 15, 16, 17, 18, 19, 20, 21, 22, 23, 24, 25, 26, 27, 28, 29, 30, 31, 32, 33, 34, 35, 36])]) (.seq (.draw [((o (.add 9 6) 57), []), ((o (.SH 1 4 57 .none .none) 58), [0]), ((w 59 0), []), ((o (.slc 1 59 (.some (ci 3)) .none .none) 60), [2]), ((o (.copy 1 58 60) 61), [1, 3])]) (.seq (q [o (.load yy 13 6) 62, o (.call 78 [62]) 63, w 64 0, o (.call 135 [63, 64]) 65, o (.un .not 65) 66] (.cond 66 (q [o (.build [zi, zi, zi, zi, zi, zi, zi, zb, zu, zu, zu, zu, zu] []) 67, n_ (.store 13 2 67), o (.mv (cb nn)) 3] .ret) .skip)) (q [o (.load yy 13 6) 68, n_ (.store 13 2 68), o (.mv (cb yy)) 3] .ret)))))))
theorem S9 : Fits Tryz.prog 96 1 Jt [(.cell true 13 2), (.tmp 3)] := fk Tryz.func96
theorem Tc (F : Nat) (a0 : (List Int)) (r : aH × Bool) (h : kG F a0 = some r) : PC Tryz.prog 96 [ss dh a0] (S.tup [S.agg [vi r.1.xType, vi r.1.iY, vi r.1.jw, vi r.1.mM, vi r.1.nK, vi r.1.eH, vi r.1.gI, vb r.1.qJ, vu r.1.lD, vu r.1.dn.c0, vu r.1.dn.c1, vu r.1.dn.c2, vu r.1.dn.c3], (zb_ r.2)]) := by
 unfold kG at h
 refine eu S9 rfl rfl ?_
 intro C hP
 unfold Jt; dsimp
 apply Eso
 refine W1 dnv ?_
 apply WM
 refine Wk [0, 2] [2] ?_
 (try dsimp)
 apply bG
 apply Eso
 apply WM
 refine WQ qls ?_
 refine WQ qi ?_
 refine Wk [0, 2, 9] [2] ?_
 (try dsimp)
 refine Ec h rfl (fun h hc1 => ?_) (fun h hc1 => ?_)
 apply Eso
 refine WQ qbu ?_
 refine W1 dst ?_
 apply WM
 refine Wk [2, 3] [2] ?_
 (try dsimp)
 apply bD
 cases h
 exact fe
 apply bf
 refine aX [0, 2] [2] ?_
 (try dsimp)
 apply bG
 obtain ⟨g2, h⟩ := aQ h
 obtain ⟨x3, x3h, h⟩ := aG h
 obtain ⟨x4, x4h, h⟩ := aG h
 obtain ⟨g5, h⟩ := aQ h
 obtain ⟨x6, x6h, h⟩ := aG h
 obtain ⟨x7, x7h, h⟩ := aG h
 refine ig [0, 1, 2, 5, 6, 7, 10, 11] ?_
 refine XQ 0 rfl rfl rfl qm ?_
 refine XQ 1 rfl rfl rfl (qis g2) ?_
 refine XQ 2 rfl rfl rfl (q1F 1 g2 0) ?_
 refine XQ 5 rfl rfl rfl qm ?_
 refine XQ 6 rfl rfl rfl (qis g5) ?_
 refine XQ 7 rfl rfl rfl (q1F 1 g5 0) ?_
 refine X1 rfl (XK rfl (dc1 hP (zA F  x3 x3h)) ?_)
 refine X1 rfl (XK rfl (dc1 hP (Ef F (nth a0 (0 : Int)) x3 x4 x4h)) ?_)
 refine X1 rfl (XK rfl (dc1 hP (zB F  x6 x6h)) ?_)
 refine X1 rfl (XK rfl (dc1 hP (Ef F (nth a0 (1 : Int)) x6 x7 x7h)) ?_)
 refine XQ 10 rfl rfl rfl qm ?_
 refine XQ 11 rfl rfl rfl qm ?_
 refine dL rfl ?_
 refine aX [0, 2, 4, 5] [2] ?_
 (try dsimp)
 apply bG
 obtain ⟨g8, h⟩ := aQ h
 obtain ⟨g9, h⟩ := aQ h
 obtain ⟨g10, h⟩ := aQ h
 obtain ⟨g11, h⟩ := aQ h
 obtain ⟨g12, h⟩ := aQ h
 obtain ⟨g13, h⟩ := aQ h
 obtain ⟨g14, h⟩ := aQ h
 obtain ⟨g15, h⟩ := aQ h
 obtain ⟨g16, h⟩ := aQ h
 refine ig [0, 1, 2, 3, 4, 5, 6, 7, 8, 9, 10, 11, 12, 13, 14, 15, 16, 17, 18, 19, 20, 21, 22, 23, 24, 25, 26, 27, 28, 29, 30, 31, 32, 33, 34, 35] ?_
 refine XQ 0 rfl rfl rfl qm ?_
 refine XQ 1 rfl rfl rfl (qis g8) ?_
 refine XQ 2 rfl rfl rfl (q1F 1 g8 0) ?_
 refine XQ 3 rfl rfl rfl qcv ?_
 refine XQ 4 rfl rfl rfl qm ?_
 refine XQ 5 rfl rfl rfl (qis g9) ?_
 refine XQ 6 rfl rfl rfl (q1F 1 g9 0) ?_
 refine XQ 7 rfl rfl rfl qcv ?_
 refine XQ 8 rfl rfl rfl qm ?_
 refine XQ 9 rfl rfl rfl (qis g10) ?_
 refine XQ 10 rfl rfl rfl (q1F 1 g10 0) ?_
 refine XQ 11 rfl rfl rfl qcv ?_
 refine XQ 12 rfl rfl rfl qm ?_
 refine XQ 13 rfl rfl rfl (qis g11) ?_
 refine XQ 14 rfl rfl rfl (q1F 1 g11 0) ?_
 refine XQ 15 rfl rfl rfl qi ?_
 refine XQ 16 rfl rfl rfl qm ?_
 refine XQ 17 rfl rfl rfl (qis g12) ?_
 refine XQ 18 rfl rfl rfl (q1F 1 g12 0) ?_
 refine XQ 19 rfl rfl rfl qcv ?_
 refine XQ 20 rfl rfl rfl qm ?_
 refine XQ 21 rfl rfl rfl (qis g13) ?_
 refine XQ 22 rfl rfl rfl (q1F 1 g13 0) ?_
 refine XQ 23 rfl rfl rfl qcv ?_
 refine XQ 24 rfl rfl rfl qm ?_
 refine XQ 25 rfl rfl rfl (qis g14) ?_
 refine XQ 26 rfl rfl rfl (q1F 1 g14 0) ?_
 refine XQ 27 rfl rfl rfl qcv ?_
 refine XQ 28 rfl rfl rfl qm ?_
 refine XQ 29 rfl rfl rfl (qis g15) ?_
 refine XQ 30 rfl rfl rfl (q1F 1 g15 0) ?_
 refine XQ 31 rfl rfl rfl qcv ?_
 refine XQ 32 rfl rfl rfl qm ?_
 refine XQ 33 rfl rfl rfl (qis g16) ?_
 refine XQ 34 rfl rfl rfl (q1F 1 g16 0) ?_
 refine XQ 35 rfl rfl rfl qbu ?_
 (try dsimp)
 refine X1 rfl (XK rfl dnv ?_)
 refine X1 rfl (XT rfl rfl dst ?_)
 refine dL rfl ?_
 refine aX [0, 2, 6] [2, 6] ?_
 (try dsimp)
 apply bG
 obtain ⟨g17, h⟩ := aQ h
 obtain ⟨g18, h⟩ := aQ h
 refine ig [0, 1, 2, 3] ?_
 refine XQ 0 rfl rfl rfl qap ?_
 refine XQ 1 rfl rfl rfl (qR rfl rfl rfl rfl (by decide) (by decide) (by decide) (List.cons_ne_nil _ _)) ?_
 refine XQ 2 rfl rfl rfl qm ?_
 refine XQ 3 rfl rfl rfl (lS rfl (fun _ => rfl) rfl rfl g17.1 g17.2.1 g17.2.2) ?_
 refine X1 rfl (XT rfl rfl (Md (lit := [vu (nth (cut a0 (3 : Int) ((a0.length : Nat) : Int)) 0), vu (nth (cut a0 (3 : Int) ((a0.length : Nat) : Int)) 1), vu (nth (cut a0 (3 : Int) ((a0.length : Nat) : Int)) 2), vu (nth (cut a0 (3 : Int) ((a0.length : Nat) : Int)) 3)]) rfl rfl (fun _ => rfl) (fun _ => rfl) rfl (Src.slF (cut a0 (3 : Int) ((a0.length : Nat) : Int)) (fun _ => rfl)) (Nat.le_of_ble_eq_true rfl) g18 rfl) ?_)
 refine dL rfl ?_
 refine aX [0, 2, 6] [2, 6] ?_
 (try dsimp)
 apply bG
 apply Eso
 refine WQ qlA ?_
 obtain ⟨x19, aes, h⟩ := aG h
 refine W1 (yu hP (Jo F (⟨(IntKind.i64.wrap (nth x4 (0 : Int))), (IntKind.i64.wrap (nth x4 (1 : Int))), (IntKind.i64.wrap (nth x4 (2 : Int))), (IntKind.i64.wrap (nth x7 (0 : Int))), (IntKind.i64.wrap (nth x7 (1 : Int))), (IntKind.i64.wrap (nth x4 (4 : Int))), (IntKind.i64.wrap (nth x7 (2 : Int))), ((nth x4 (3 : Int)) == (1 : Int)), (nth a0 (2 : Int)), (⟨(nth (cut a0 (3 : Int) ((a0.length : Nat) : Int)) 0), (nth (cut a0 (3 : Int) ((a0.length : Nat) : Int)) 1), (nth (cut a0 (3 : Int) ((a0.length : Nat) : Int)) 2), (nth (cut a0 (3 : Int) ((a0.length : Nat) : Int)) 3)⟩ : V4 Int)⟩ : aH) x19 aes) rfl rfl rfl) ?_
 apply WM
 obtain ⟨x20, ab6, h⟩ := aG h
 refine W1 (dc1 hP (vC F x19 a0 x20 ab6)) ?_
 refine WQ qno ?_
 refine Wk [2, 6, 66] [2, 6] ?_
 (try dsimp)
 refine Ec h rfl (fun h hc21 => ?_) (fun h hc21 => ?_)
 apply Eso
 refine WQ qbu ?_
 refine W1 dst ?_
 apply WM
 refine Wk [2, 3] [2] ?_
 (try dsimp)
 apply bD
 cases h
 exact fe
 apply bf
 refine aX [2, 6] [2, 6] ?_
 (try dsimp)
 apply Eso
 refine WQ qlA ?_
 refine W1 dst ?_
 apply WM
 refine Wk [2, 3] [2] ?_
 (try dsimp)
 apply bD
 cases h
 exact fe
def Ju : cO := (q [o (.jm [zi, zi, zi, .nil, .nil]) 2, o (.mv (ci 0)) 3] (q [w 18 0, o (.call 94 [18]) 19, w 17 19, o (.ext 0 17) 20, o (.ext 1 17) 21, o (.ext 2 17) 22, o (.jm [zi, zi, zi, zu]) 4, n_ (.store 4 4 20), w 5 21, w 6 22] (.seq (q [w 23 5, o (.un .not 23) 24, w 25 24, g_ (.mv 6) 26 25 yy, g_ (.un .not 26) 27 25 yy, o (.pick 25 27 (cb nn)) 28] (.cond 28 (q [o (.build [zi, zi, zi, .nil, .nil] []) 29, n_ (.store 5 2 29), o (.mv (ci 2)) 3] .ret) .skip)) (q [o (.add 0 4) 30, o (.load yy 3 30) 31, o (.jm [zi, zi, zi]) 7, n_ (.store 3 7 31)] (q [o (.load yy 3 7) 32, o (.build [zi, zi, zi, .nil, .nil] [(0, (3, 32))]) 33, o (.jm [zi, zi, zi, .nil, .nil]) 8, n_ (.store 5 8 33)] (.seq (q [o (.add 1 7) 34, o (.load nn 1 34) 35, o (.mv (ci 0)) 36] (.block 0 (.loop (q [o (.bin .lss 3 36 35) 37] (.seq (.cond 37 .skip (.exit 0)) (.seq (.block 1 (q [w 38 36, w 9 38] (q [o (.load yy 3 7) 39, w 40 9, o (.call 21 [39, 40]) 41, w 10 41] (q [w 43 0, w 44 10, o (.fH 1 43 44) 45, o (.load nn 1 45) 46, o (.call 95 [46]) 47, w 42 47, o (.ext 0 42) 48, o (.ext 1 42) 49, o (.jm [zi, zi, zi, zi]) 11, n_ (.store 4 11 48), w 12 49] (.seq (q [w 50 12, o (.un .not 50) 51, w 52 51, g_ (.mv 0) 53 52 nn, g_ (.mv 10) 54 52 nn, g_ (.bin .add 3 54 (ci 1)) 55 52 nn, g_ (.fH 1 53 55) 56 52 nn, g_ (.load nn 1 56) 57 52 nn, g_ (.bin .gtr 22 57 (.const (.int .u64 96))) 58 52 nn, o (.pick 52 (cb yy) 58) 59] (.cond 59 (q [o (.build [zi, zi, zi, .nil, .nil] []) 60, n_ (.store 5 2 60), o (.mv (ci 2)) 3] .ret) .skip)) (.draw [((o (.add 3 8) 61), []), ((o (.load nn 1 61) 62), [0]), ((o (.load yy 4 11) 63), []), ((w 64 0), []), ((w 65 10), []), ((o (.bin .add 3 65 (ci 1)) 66), [4]), ((o (.fH 1 64 66) 67), [3, 5]), ((o (.load nn 1 67) 68), [6]), ((o (.jd .i64 68) 69), [7]), ((o (.bin .sub 3 69 (ci 1)) 70), [8]), ((o (.build [zi, zi, zi, zi, zi] [(0, (4, 63)), (4, (1, 70))]) 71), [2, 9]), ((o (.iW 5 128 1 [zi, zi, zi, zi, zi] [(0, (5, 71))]) 72), [10]), ((o (.app 70 128 5 40 62 72) 73), [1, 11]), ((o (.add 3 8) 74), [0, 1, 2, 3, 4, 5, 6, 7, 8, 9, 10, 11, 12]), ((n_ (.store 1 74 73)), [13, 12, 12, 0, 1, 2, 3, 4, 5, 6, 7, 8, 9, 10, 11, 12])])))))) (.ops [o (.bin .add 3 36 (ci 1)) 75, w 36 75]))))))) (.seq (q [o (.add 2 7) 76, o (.load nn 1 76) 77, o (.mv (ci 0)) 78] (.block 2 (.loop (q [o (.bin .lss 3 78 77) 79] (.seq (.cond 79 .skip (.exit 2)) (.seq (.block 3 (q [w 80 78, w 13 80] (q [o (.load yy 3 7) 81, w 82 13, o (.call 77 [81, 82]) 83, w 14 83] (q [w 85 0, w 86 14, w 87 14, o (.bin .add 3 87 (ci 8)) 88, o (.slc 1 85 (.some 86) (.some 88) .none) 89, o (.call 96 [89]) 90, w 84 90, o (.ext 0 84) 91, o (.ext 1 84) 92, o (.jm [zi, zi, zi, zi, zi, zi, zi, zb, zu, zu, zu, zu, zu]) 15, n_ (.store 13 15 91), w 16 92] (.seq (q [w 93 16, o (.un .not 93) 94] (.cond 94 (q [o (.build [zi, zi, zi, .nil, .nil] []) 95, n_ (.store 5 2 95), o (.mv (ci 2)) 3] .ret) .skip)) (.ops [o (.add 4 8) 96, o (.load nn 1 96) 97, o (.load yy 13 15) 98, o (.iW 13 122 1 [zi, zi, zi, zi, zi, zi, zi, zb, zu, zu, zu, zu, zu] [(0, (13, 98))]) 99, o (.app 71 122 13 104 97 99) 100, o (.add 4 8) 101, n_ (.store 1 101 100)])))))) (.ops [o (.bin .add 3 78 (ci 1)) 102, w 78 102]))))))) (.seq (q [o (.load yy 5 8) 103, o (.call 73 [103]) 104, o (.un .not 104) 105] (.cond 105 (q [o (.build [zi, zi, zi, .nil, .nil] []) 106, n_ (.store 5 2 106), o (.mv (ci 2)) 3] .ret) .skip)) (q [o (.load yy 5 8) 107, n_ (.store 5 2 107), o (.mv (ci 0)) 3] .ret)))))))))
theorem Td : Fits Tryz.prog 57 1 Ju [(.cell true 5 2), (.tmp 3)] := fk Tryz.func57
theorem Dq (F : Nat) (a0 : (List Int)) (r : aI × Int) (h : jQ F a0 = some r) : PC Tryz.prog 57 [ss dh a0] (S.tup [S.agg [vi r.1.bH.ak, vi r.1.bH.ay, vi r.1.bH.aA, sl aK r.1.ay, sl aS r.1.aA], (zi_ r.2)]) := by
 unfold jQ at h
 refine eu Td rfl rfl ?_
 intro C hP
 unfold Ju; dsimp
 apply Eso
 refine W1 dnv ?_
 apply WM
 refine Wk [0, 2] [2] ?_
 (try dsimp)
 apply Eso
 apply WM
 obtain ⟨x1, x1h, h⟩ := aG h
 refine W1 (dc1 hP (G8 F a0 x1 x1h)) ?_
 apply WM
 refine WQ qx ?_
 refine WQ qx ?_
 refine WQ qx ?_
 refine W1 dnv ?_
 refine W1 dst ?_
 apply WM
 apply WM
 refine Wk [0, 2, 4, 5, 6] [2, 4] ?_
 (try dsimp)
 apply bG
 apply Eso
 apply WM
 refine WQ qno ?_
 apply WM
 apply aF
 rfl
 intro b
 try rw [b]
 exact qm
 apply aF
 rfl
 intro b
 try rw [b]
 exact qno
 refine WQ qan ?_
 refine Wk [0, 2, 4, 28] [2, 4] ?_
 (try dsimp)
 refine Ec h rfl (fun h hc2 => ?_) (fun h hc2 => ?_)
 apply Eso
 refine WQ qbu ?_
 refine W1 dst ?_
 apply WM
 refine Wk [2, 3] [2] ?_
 (try dsimp)
 refine dR (ni (q := 2) rfl).b ?_
 (try dsimp)
 apply bD
 cases h
 exact fe
 apply bf
 refine aX [0, 2, 4] [2, 4] ?_
 (try dsimp)
 apply Eso
 refine WQ qap ?_
 refine WQ qlA ?_
 refine W1 dnv ?_
 refine W1 dst ?_
 refine Wk [0, 2, 7] [2, 7] ?_
 (try dsimp)
 apply Eso
 refine WQ qlA ?_
 refine WQ qbu ?_
 refine W1 dnv ?_
 refine W1 dst ?_
 refine Wk [0, 2, 7, 8] [2, 7, 8] ?_
 (try dsimp)
 obtain ⟨k4, k4d, h⟩ := eX h
 refine dJ (fun (i : (List aZ)) => ⟨[(0, ss dh a0), (2, S.one (.ptr 2 0)), (7, S.one (.ptr 7 0)), (8, S.one (.ptr 8 0))], [(2, ⟨true, [vi (0 : Int), vi (0 : Int), vi (0 : Int), .nil, .nil]⟩), (7, ⟨true, [vi x1.1.bH.ak, vi x1.1.bH.ay, vi x1.1.bH.aA]⟩), (8, ⟨false, [vi x1.1.bH.ak, vi x1.1.bH.ay, vi x1.1.bH.aA, .own 1073 0 i.length (some (5, 128)), .nil]⟩), (1073, ⟨true, flat aK i⟩)]⟩) (fun i => k4 i = some r) (fun i h => ?_) ?_
 let iv := i; change k4 i = some r at h; generalize i = v3 at h ⊢
 rw [k4d] at h; dsimp only at h
 (try dsimp)
 obtain ⟨k6, k6d, h⟩ := eX h
 refine dJ (fun (i : (List aH)) => ⟨[(2, S.one (.ptr 2 0)), (8, S.one (.ptr 8 0))], [(2, ⟨true, [vi (0 : Int), vi (0 : Int), vi (0 : Int), .nil, .nil]⟩), (8, ⟨false, [vi x1.1.bH.ak, vi x1.1.bH.ay, vi x1.1.bH.aA, .own 1073 0 v3.length (some (5, 128)), .own 1100 0 i.length (some (13, 122))]⟩), (1073, ⟨true, flat aK v3⟩), (1100, ⟨true, flat aS i⟩)]⟩) (fun i => k6 i = some r) (fun i h => ?_) ?_
 let iv := i; change k6 i = some r at h; generalize i = v5 at h ⊢
 rw [k6d] at h; dsimp only at h
 (try dsimp)
 apply bG
 apply Eso
 refine WQ qlA ?_
 obtain ⟨x7, x7h, h⟩ := aG h
 refine W1 (nU hP (GL F (⟨x1.1.bH, v3, v5⟩ : aI) x7 x7h) rfl rfl) ?_
 refine WQ qno ?_
 refine Wk [2, 8, 105] [2, 8, 1073, 1100] ?_
 (try dsimp)
 refine Ec h rfl (fun h hc8 => ?_) (fun h hc8 => ?_)
 apply Eso
 refine WQ qbu ?_
 refine W1 dst ?_
 apply WM
 refine Wk [2, 3] [2] ?_
 (try dsimp)
 refine dR (ni (q := 2) rfl).b ?_
 (try dsimp)
 apply bD
 cases h
 exact fe
 apply bf
 refine aX [2, 8] [2, 8, 1073, 1100] ?_
 (try dsimp)
 apply Eso
 refine WQ qlA ?_
 refine W1 dst ?_
 apply WM
 refine Wk [2, 3] [2, 1073, 1100] ?_
 (try dsimp)
 refine dR (kY (r := 1073) rfl rfl).b ?_
 (try dsimp)
 refine dR (kY (r := 1100) rfl rfl).b ?_
 (try dsimp)
 apply bD
 cases h
 exact fe
 apply Eso
 refine WQ qap ?_
 refine WQ ql1 ?_
 apply WM
 refine Wk [0, 2, 7, 8, 77, 78] [2, 7, 8, 1073] ?_
 (try dsimp)
 apply bT
 (try dsimp)
 refine eG (fun (i : Int × (List aH)) => ⟨[(0, ss dh a0), (2, S.one (.ptr 2 0)), (7, S.one (.ptr 7 0)), (8, S.one (.ptr 8 0)), (77, zi_ x1.1.bH.aA), (78, zi_ i.1)], [(2, ⟨true, [vi (0 : Int), vi (0 : Int), vi (0 : Int), .nil, .nil]⟩), (7, ⟨true, [vi x1.1.bH.ak, vi x1.1.bH.ay, vi x1.1.bH.aA]⟩), (8, ⟨false, [vi x1.1.bH.ak, vi x1.1.bH.ay, vi x1.1.bH.aA, .own 1073 0 v3.length (some (5, 128)), .own 1100 0 i.2.length (some (13, 122))]⟩), (1073, ⟨true, flat aK v3⟩), (1100, ⟨true, flat aS i.2⟩)]⟩) (fun n i => iI F a0 x1 k6 n i.1 i.2 = some r) F ((0 : Int), ([] : List aH)) h ?_ (fun n i h => ?_)
 refine fM (rM (q := 8) (j := 4) (r := 1100) 13 122 rfl rfl rfl rfl) ?_
 exact LB
 obtain ⟨v27, v28⟩ := i; dsimp only at h
 obtain _ | n29 := n
 cases h
 unfold iI at h
 (try dsimp)
 apply Eso
 refine WQ qi ?_
 apply bW
 (try dsimp)
 apply bG
 refine Ec h rfl (fun h Y6 => ?_) (fun h Y6 => ?_)
 apply bf
 refine aX [0, 2, 7, 8, 77, 78] [2, 7, 8, 1073, 1100] ?_
 (try dsimp)
 apply bG
 apply bT
 apply Eso
 apply WM
 apply WM
 refine Wk [0, 2, 7, 8, 13, 77, 78] [2, 7, 8, 1073, 1100] ?_
 (try dsimp)
 apply Eso
 refine WQ qlA ?_
 apply WM
 obtain ⟨x31, Zi, h⟩ := aG h
 refine W1 (dc1 hP (Jl F x1.1.bH v27 x31 Zi)) ?_
 apply WM
 refine Wk [0, 2, 7, 8, 14, 77, 78] [2, 7, 8, 1073, 1100] ?_
 (try dsimp)
 apply Eso
 apply WM
 apply WM
 apply WM
 obtain ⟨g32, h⟩ := aQ h
 refine WQ (qad g32) ?_
 obtain ⟨g33, h⟩ := aQ h
 refine WQ (lS rfl (fun _ => rfl) rfl rfl g33.1 g33.2.1 g33.2.2) ?_
 obtain ⟨x34, Qh, h⟩ := aG h
 refine W1 (dc1 hP (Tc F (cut a0 x31 (x31 + (8 : Int))) x34 Qh)) ?_
 apply WM
 refine WQ qx ?_
 refine WQ qx ?_
 refine W1 dnv ?_
 refine W1 dst ?_
 apply WM
 refine Wk [0, 2, 7, 8, 15, 16, 77, 78] [2, 7, 8, 15, 1073, 1100] ?_
 (try dsimp)
 apply bG
 apply Eso
 apply WM
 refine WQ qno ?_
 refine Wk [0, 2, 7, 8, 15, 77, 78, 94] [2, 7, 8, 15, 1073, 1100] ?_
 (try dsimp)
 refine Ec h rfl (fun h UN => ?_) (fun h UN => ?_)
 apply Eso
 refine WQ qbu ?_
 refine W1 dst ?_
 apply WM
 refine Wk [2, 3] [2] ?_
 (try dsimp)
 refine dR (ni (q := 2) rfl).b ?_
 (try dsimp)
 apply bD
 cases h
 exact fe
 apply bf
 refine aX [0, 2, 7, 8, 15, 77, 78] [2, 7, 8, 15, 1073, 1100] ?_
 (try dsimp)
 apply dO
 refine WQ qap ?_
 refine WQ ql1 ?_
 refine WQ qlA ?_
 refine W1 dbs ?_
 obtain ⟨g36, h⟩ := aQ h
 refine W1 (dY (e := aS) rfl rfl (fun _ => rfl) (fun _ => rfl) rfl (Src.lit (e := aS) ([x34.1] : List aH) rfl (fun _ => rfl) rfl rfl) g36 rfl) ?_
 refine WQ qap ?_
 refine W1 dst ?_
 refine Wk [0, 2, 7, 8, 77, 78] [2, 7, 8, 1073, 1100] ?_
 (try dsimp)
 apply dO
 obtain ⟨g37, h⟩ := aQ h
 refine WQ (qad g37) ?_
 apply WM
 apply bW
 refine ⟨n29, ((v27 + (1 : Int)), (v28 ++ ([x34.1] : List aH))), Nat.lt_succ_self _, h, ?_⟩
 exact LB
 apply gy
 refine ⟨v28, h, ?_⟩
 exact LB
 apply Eso
 refine WQ qap ?_
 refine WQ ql1 ?_
 apply WM
 refine Wk [0, 2, 7, 8, 35, 36] [2, 7, 8] ?_
 (try dsimp)
 apply bT
 (try dsimp)
 refine eG (fun (i : Int × (List aZ)) => ⟨[(0, ss dh a0), (2, S.one (.ptr 2 0)), (7, S.one (.ptr 7 0)), (8, S.one (.ptr 8 0)), (35, zi_ x1.1.bH.ay), (36, zi_ i.1)], [(2, ⟨true, [vi (0 : Int), vi (0 : Int), vi (0 : Int), .nil, .nil]⟩), (7, ⟨true, [vi x1.1.bH.ak, vi x1.1.bH.ay, vi x1.1.bH.aA]⟩), (8, ⟨false, [vi x1.1.bH.ak, vi x1.1.bH.ay, vi x1.1.bH.aA, .own 1073 0 i.2.length (some (5, 128)), .nil]⟩), (1073, ⟨true, flat aK i.2⟩)]⟩) (fun n i => iH F a0 x1 k4 n i.1 i.2 = some r) F ((0 : Int), ([] : List aZ)) h ?_ (fun n i h => ?_)
 refine fM (rM (q := 8) (j := 3) (r := 1073) 5 128 rfl rfl rfl rfl) ?_
 exact LB
 obtain ⟨v68, v69⟩ := i; dsimp only at h
 obtain _ | n70 := n
 cases h
 unfold iH at h
 (try dsimp)
 apply Eso
 refine WQ qi ?_
 apply bW
 (try dsimp)
 apply bG
 refine Ec h rfl (fun h abI => ?_) (fun h abI => ?_)
 apply bf
 refine aX [0, 2, 7, 8, 35, 36] [2, 7, 8, 1073] ?_
 (try dsimp)
 obtain ⟨k73, aeu, h⟩ := eX h
 refine dJ (fun (i : (List aZ)) => ⟨[(0, ss dh a0), (2, S.one (.ptr 2 0)), (7, S.one (.ptr 7 0)), (8, S.one (.ptr 8 0)), (35, zi_ x1.1.bH.ay), (36, zi_ v68)], [(2, ⟨true, [vi (0 : Int), vi (0 : Int), vi (0 : Int), .nil, .nil]⟩), (7, ⟨true, [vi x1.1.bH.ak, vi x1.1.bH.ay, vi x1.1.bH.aA]⟩), (8, ⟨false, [vi x1.1.bH.ak, vi x1.1.bH.ay, vi x1.1.bH.aA, .own 1073 0 i.length (some (5, 128)), .nil]⟩), (1073, ⟨true, flat aK i⟩)]⟩) (fun i => k73 i = some r) (fun i h => ?_) ?_
 let iv := i; change k73 i = some r at h; generalize i = v72 at h ⊢
 rw [aeu] at h; dsimp only at h
 (try dsimp)
 apply dO
 obtain ⟨g74, h⟩ := aQ h
 refine WQ (qad g74) ?_
 apply WM
 apply bW
 refine ⟨n70, ((v68 + (1 : Int)), v72), Nat.lt_succ_self _, h, ?_⟩
 exact LB
 apply bT
 apply Eso
 apply WM
 apply WM
 refine Wk [0, 2, 7, 8, 9, 35, 36] [2, 7, 8, 1073] ?_
 (try dsimp)
 apply Eso
 refine WQ qlA ?_
 apply WM
 obtain ⟨x75, aev, h⟩ := aG h
 refine W1 (dc1 hP (FD F x1.1.bH v68 x75 aev)) ?_
 apply WM
 refine Wk [0, 2, 7, 8, 10, 35, 36] [2, 7, 8, 1073] ?_
 (try dsimp)
 apply Eso
 apply WM
 apply WM
 obtain ⟨g76, h⟩ := aQ h
 refine WQ (qis g76) ?_
 refine WQ (q1F 1 g76 0) ?_
 obtain ⟨x77, aew, h⟩ := aG h
 refine W1 (dc1 hP (Xw F (nth a0 x75) x77 aew)) ?_
 apply WM
 refine WQ qx ?_
 refine WQ qx ?_
 refine W1 dnv ?_
 refine W1 dst ?_
 apply WM
 refine Wk [0, 2, 7, 8, 10, 11, 12, 35, 36] [2, 7, 8, 11, 1073] ?_
 (try dsimp)
 apply bG
 apply Eso
 apply WM
 refine WQ qno ?_
 apply WM
 apply aF
 rfl
 intro b
 try rw [b]
 exact qm
 apply aF
 rfl
 intro b
 try rw [b]
 exact qm
 obtain ⟨g78, h⟩ := aQ h
 apply aF
 rfl
 intro b
 try rw [b]
 exact qad (g78 b)
 obtain ⟨g79, h⟩ := aQ h
 apply aF
 rfl
 intro b
 try rw [b]
 exact qis (g79 b)
 apply aF
 rfl
 intro b
 try rw [b]
 exact q1F 1 (g79 b) 0
 apply aF
 rfl
 intro b
 try rw [b]
 exact qi
 refine WQ qor ?_
 refine Wk [0, 2, 7, 8, 10, 11, 35, 36, 59] [2, 7, 8, 11, 1073] ?_
 (try dsimp)
 refine Ec h rfl (fun h abV => ?_) (fun h abV => ?_)
 apply Eso
 refine WQ qbu ?_
 refine W1 dst ?_
 apply WM
 refine Wk [2, 3] [2] ?_
 (try dsimp)
 refine dR (ni (q := 2) rfl).b ?_
 (try dsimp)
 apply bD
 cases h
 exact fe
 apply bf
 refine aX [0, 2, 7, 8, 10, 11, 35, 36] [2, 7, 8, 11, 1073] ?_
 (try dsimp)
 obtain ⟨g81, h⟩ := aQ h
 obtain ⟨g82, h⟩ := aQ h
 obtain ⟨g83, h⟩ := aQ h
 obtain ⟨g84, h⟩ := aQ h
 refine ig [0, 1, 2, 6, 7, 8, 9, 10] ?_
 refine XQ 0 rfl rfl rfl qap ?_
 refine XQ 1 rfl rfl rfl ql1 ?_
 refine XQ 2 rfl rfl rfl qlA ?_
 refine X2 rfl ?_ ?_
 refine XK rfl ((qm).does) ?_
 refine X1 rfl (XK rfl ((qm).does) ?_)
 refine X1 rfl (XK rfl ((qad g81).does) ?_)
 refine XQ 6 rfl rfl rfl (qis g82) ?_
 refine XQ 7 rfl rfl rfl (q1F 1 g82 0) ?_
 refine XQ 8 rfl rfl rfl qcv ?_
 refine XQ 9 rfl rfl rfl (qsu g83) ?_
 refine XQ 10 rfl rfl rfl qbu ?_
 refine X1 rfl (XK rfl dbs ?_)
 refine X1 rfl (XT rfl rfl (dY (e := aK) rfl rfl (fun _ => rfl) (fun _ => rfl) rfl (Src.lit (e := aK) ([(⟨x77.1, ((IntKind.i64.wrap (nth a0 (x75 + (1 : Int)))) - (1 : Int))⟩ : aZ)] : List aZ) rfl (fun _ => rfl) rfl rfl) g84 rfl) ?_)
 refine X1 rfl (XT rfl rfl ((qap).does) ?_)
 refine X1 rfl (XT rfl rfl dst ?_)
 refine dL rfl ?_
 refine ⟨(v69 ++ ([(⟨x77.1, ((IntKind.i64.wrap (nth a0 (x75 + (1 : Int)))) - (1 : Int))⟩ : aZ)] : List aZ)), h, ?_⟩
 exact LB
 refine XK rfl ((qm).does) ?_
 refine X2 rfl ?_ ?_
 refine XK rfl ((qm).does) ?_
 refine X1 rfl (XK rfl ((qad g81).does) ?_)
 refine XQ 6 rfl rfl rfl (qis g82) ?_
 refine XQ 7 rfl rfl rfl (q1F 1 g82 0) ?_
 refine XQ 8 rfl rfl rfl qcv ?_
 refine XQ 9 rfl rfl rfl (qsu g83) ?_
 refine XQ 10 rfl rfl rfl qbu ?_
 refine X1 rfl (XK rfl dbs ?_)
 refine X1 rfl (XT rfl rfl (dY (e := aK) rfl rfl (fun _ => rfl) (fun _ => rfl) rfl (Src.lit (e := aK) ([(⟨x77.1, ((IntKind.i64.wrap (nth a0 (x75 + (1 : Int)))) - (1 : Int))⟩ : aZ)] : List aZ) rfl (fun _ => rfl) rfl rfl) g84 rfl) ?_)
 refine X1 rfl (XT rfl rfl ((qap).does) ?_)
 refine X1 rfl (XT rfl rfl dst ?_)
 refine dL rfl ?_
 refine ⟨(v69 ++ ([(⟨x77.1, ((IntKind.i64.wrap (nth a0 (x75 + (1 : Int)))) - (1 : Int))⟩ : aZ)] : List aZ)), h, ?_⟩
 exact LB
 refine XK rfl ((qad g81).does) ?_
 refine X1 rfl (XK rfl ((qm).does) ?_)
 refine XQ 6 rfl rfl rfl (qis g82) ?_
 refine XQ 7 rfl rfl rfl (q1F 1 g82 0) ?_
 refine XQ 8 rfl rfl rfl qcv ?_
 refine XQ 9 rfl rfl rfl (qsu g83) ?_
 refine XQ 10 rfl rfl rfl qbu ?_
 refine X1 rfl (XK rfl dbs ?_)
 refine X1 rfl (XT rfl rfl (dY (e := aK) rfl rfl (fun _ => rfl) (fun _ => rfl) rfl (Src.lit (e := aK) ([(⟨x77.1, ((IntKind.i64.wrap (nth a0 (x75 + (1 : Int)))) - (1 : Int))⟩ : aZ)] : List aZ) rfl (fun _ => rfl) rfl rfl) g84 rfl) ?_)
 refine X1 rfl (XT rfl rfl ((qap).does) ?_)
 refine X1 rfl (XT rfl rfl dst ?_)
 refine dL rfl ?_
 refine ⟨(v69 ++ ([(⟨x77.1, ((IntKind.i64.wrap (nth a0 (x75 + (1 : Int)))) - (1 : Int))⟩ : aZ)] : List aZ)), h, ?_⟩
 exact LB
 apply gy
 refine ⟨v69, h, ?_⟩
 exact LB
def Jv : cO := (q [o (.jm [zi, zi, zi, .nil, .nil, .nil, zu, zb]) 2, o (.mv (cb nn)) 3] (q [w 20 0, o (.call 94 [20]) 21, w 19 21, o (.ext 0 19) 22, o (.ext 1 19) 23, o (.ext 2 19) 24, o (.jm [zi, zi, zi, zu]) 4, n_ (.store 4 4 22), w 5 23, w 6 24] (.seq (q [w 25 5, o (.un .not 25) 26, w 27 26, g_ (.mv 6) 28 27 yy, g_ (.un .not 28) 29 27 yy, o (.pick 27 29 (cb nn)) 30] (.cond 30 (q [o (.build [zi, zi, zi, .nil, .nil, .nil, zu, zb] []) 31, n_ (.store 8 2 31), o (.mv (cb nn)) 3] .ret) .skip)) (q [o (.add 3 4) 32, o (.load nn 1 32) 33, w 34 5, o (.build [zi, zi, zi, .nil, .nil, .nil, zu, zb] [(6, (1, 33)), (7, (1, 34))]) 35, o (.jm [zi, zi, zi, .nil, .nil, .nil, zu, zb]) 7, n_ (.store 8 7 35)] (.seq (q [w 37 0, w 38 0, o (.len nn 38) 39, o (.bin .sub 3 39 (ci 8)) 40, o (.slc 1 37 (.some 40) .none .none) 41, o (.call 103 [41]) 42, w 36 42, o (.ext 0 36) 43, o (.ext 1 36) 44, o (.jm [zi, zi, zi, zu]) 8, n_ (.store 4 8 43), w 9 44] (q [w 45 9, w 46 45, g_ (.mv 6) 47 46 yy, o (.pick 46 47 (cb nn)) 48] (.cond 48 (.ops [o (.add 6 7) 49, o (.load nn 1 49) 50, o (.add 3 8) 51, o (.load nn 1 51) 52, o (.bi .max #[22, 22] 22 #[nn, nn] [50, 52]) 53, o (.add 6 7) 54, n_ (.store 1 54 53)]) .skip))) (.seq (q [o (.add 6 7) 55, o (.load nn 1 55) 56, o (.bin .geq 22 56 (.const (.int .u64 4611686018427387904))) 57] (.cond 57 (q [o (.build [zi, zi, zi, .nil, .nil, .nil, zu, zb] []) 58, n_ (.store 8 2 58), o (.mv (cb nn)) 3] .ret) .skip)) (q [o (.add 6 7) 59, o (.load nn 1 59) 60, o (.bin .add 22 60 (.const (.int .u64 1))) 61, o (.add 6 7) 62, n_ (.store 1 62 61)] (q [o (.add 0 4) 63, o (.load yy 3 63) 64, o (.jm [zi, zi, zi]) 10, n_ (.store 3 10 64)] (q [o (.mv (ci 0)) 11] (.seq (q [o (.add 0 10) 65, o (.load nn 1 65) 66, o (.mv (ci 0)) 67] (.block 0 (.loop (q [o (.bin .lss 3 67 66) 68] (.seq (.cond 68 .skip (.exit 0)) (.seq (.block 1 (q [w 69 67, w 12 69] (q [o (.load yy 3 10) 71, w 72 12, o (.call 39 [71, 72]) 73, w 70 73, o (.ext 0 70) 74, o (.ext 1 70) 75, w 13 74, w 14 75] (.seq (.draw [((o (.load yy 3 10) 77), []), ((w 78 0), []), ((w 79 13), []), ((w 80 13), []), ((w 81 14), []), ((o (.bin .add 3 80 81) 82), [3, 4]), ((o (.slc 1 78 (.some 79) (.some 82) .none) 83), [1, 2, 5]), ((o (.call 58 [77, 83]) 84), [0, 6]), ((w 76 84), [7]), ((o (.ext 0 76) 85), [8]), ((o (.ext 1 76) 86), [8]), ((o (.jm [zi, zu, zu, zu, zu, zu, zi, zu, zi, .nil]) 15), []), ((n_ (.store 10 15 85)), [11, 9, 7, 0, 1, 2, 3, 4, 5, 6, 7, 8, 9, 11]), ((w 16 86), [10, 12, 0, 1, 2, 3, 4, 5, 6, 7, 8, 9, 10, 11, 12])]) (.seq (q [w 87 16, o (.un .not 87) 88] (.cond 88 (q [o (.build [zi, zi, zi, .nil, .nil, .nil, zu, zb] []) 89, n_ (.store 8 2 89), o (.mv (cb nn)) 3] .ret) .skip)) (.seq (q [o (.add 0 15) 90, o (.load nn 1 90) 91, o (.bin .eql 3 91 (ci 2)) 92] (.cond 92 (q [w 93 11, o (.bin .add 3 93 (ci 1)) 94, w 11 94] (.ops [w 95 0, o (.add 9 15) 96, o (.load nn 1 96) 97, o (.call 59 [95, 97]) 98, w 0 98])) .skip)) (.ops [o (.add 5 7) 99, o (.load nn 1 99) 100, o (.load yy 10 15) 101, o (.iW 10 44 1 [zi, zu, zu, zu, zu, zu, zi, zu, zi, .nil] [(0, (10, 101))]) 102, o (.app 132 44 10 96 100 102) 103, o (.add 5 7) 104, n_ (.store 1 104 103)]))))))) (.ops [o (.bin .add 3 67 (ci 1)) 105, w 67 105]))))))) (q [w 107 0, o (.call 57 [107]) 108, w 106 108, o (.ext 0 106) 109, o (.ext 1 106) 110, o (.jm [zi, zi, zi, .nil, .nil]) 17, n_ (.store 5 17 109), w 18 110] (q [o (.load yy 5 17) 111, o (.add 0 7) 112, n_ (.store 5 112 111)] (q [o (.load yy 8 7) 113, w 114 11, o (.bin .leq 3 114 (ci 1)) 115, w 116 115, g_ (.mv 18) 117 116 yy, g_ (.bin .eql 32 117 (ci 0)) 118 116 yy, o (.pick 116 118 (cb nn)) 119, n_ (.store 8 2 113), w 3 119] .ret)))))))))))))
theorem Tf : Fits Tryz.prog 66 1 Jv [(.cell true 8 2), (.tmp 3)] := fk Tryz.func66
theorem Jw (F : Nat) (a0 : (List Int)) (r : gQ × Bool) (h : nD F a0 = some r) : PC Tryz.prog 66 [ss dh a0] (S.tup [S.agg [vi r.1.xs.bH.ak, vi r.1.xs.bH.ay, vi r.1.xs.bH.aA, sl aK r.1.xs.ay, sl aS r.1.xs.aA, sl jf r.1.mG, vu r.1.lG, vb r.1.lM], (zb_ r.2)]) := by
 unfold nD at h
 refine eu Tf rfl rfl ?_
 intro C hP
 unfold Jv; dsimp
 apply Eso
 refine W1 dnv ?_
 apply WM
 refine Wk [0, 2] [2] ?_
 (try dsimp)
 apply Eso
 apply WM
 obtain ⟨x1, x1h, h⟩ := aG h
 refine W1 (dc1 hP (G8 F a0 x1 x1h)) ?_
 apply WM
 refine WQ qx ?_
 refine WQ qx ?_
 refine WQ qx ?_
 refine W1 dnv ?_
 refine W1 dst ?_
 apply WM
 apply WM
 refine Wk [0, 2, 4, 5, 6] [2, 4] ?_
 (try dsimp)
 apply bG
 apply Eso
 apply WM
 refine WQ qno ?_
 apply WM
 apply aF
 rfl
 intro b
 try rw [b]
 exact qm
 apply aF
 rfl
 intro b
 try rw [b]
 exact qno
 refine WQ qan ?_
 refine Wk [0, 2, 4, 5, 6, 30] [2, 4] ?_
 (try dsimp)
 refine Ec h rfl (fun h hc2 => ?_) (fun h hc2 => ?_)
 apply Eso
 refine WQ qbu ?_
 refine W1 dst ?_
 apply WM
 refine Wk [2, 3] [2] ?_
 (try dsimp)
 refine dR (ni (q := 2) rfl).b ?_
 (try dsimp)
 apply bD
 cases h
 exact fe
 apply bf
 refine aX [0, 2, 4, 5, 6] [2, 4] ?_
 (try dsimp)
 apply Eso
 refine WQ qap ?_
 refine WQ ql1 ?_
 apply WM
 refine WQ qbu ?_
 refine W1 dnv ?_
 refine W1 dst ?_
 refine Wk [0, 2, 4, 6, 7] [2, 4, 7] ?_
 (try dsimp)
 obtain ⟨k4, k4d, h⟩ := eX h
 refine dJ (fun (i : Int) => ⟨[(0, ss dh a0), (2, S.one (.ptr 2 0)), (4, S.one (.ptr 4 0)), (7, S.one (.ptr 7 0))], [(2, ⟨true, [vi (0 : Int), vi (0 : Int), vi (0 : Int), .nil, .nil, .nil, vu (0 : Int), vb false]⟩), (4, ⟨true, [vi x1.1.bH.ak, vi x1.1.bH.ay, vi x1.1.bH.aA, vu x1.1.uj]⟩), (7, ⟨true, [vi (0 : Int), vi (0 : Int), vi (0 : Int), .nil, .nil, .nil, vu i, vb x1.2.1]⟩)]⟩) (fun i => k4 i = some r) (fun i h => ?_) ?_
 let iv := i; change k4 i = some r at h; generalize i = v3 at h ⊢
 rw [k4d] at h; dsimp only at h
 (try dsimp)
 apply bG
 apply Eso
 refine WQ qap ?_
 refine WQ ql1 ?_
 refine WQ qi ?_
 refine Wk [0, 2, 4, 7, 57] [2, 4, 7] ?_
 (try dsimp)
 refine Ec h rfl (fun h hc5 => ?_) (fun h hc5 => ?_)
 apply Eso
 refine WQ qbu ?_
 refine W1 dst ?_
 apply WM
 refine Wk [2, 3] [2] ?_
 (try dsimp)
 refine dR (ni (q := 2) rfl).b ?_
 (try dsimp)
 apply bD
 cases h
 exact fe
 apply bf
 refine aX [0, 2, 4, 7] [2, 4, 7] ?_
 (try dsimp)
 apply Eso
 refine WQ qap ?_
 refine WQ ql1 ?_
 refine WQ qi ?_
 refine WQ qap ?_
 refine W1 dst ?_
 refine Wk [0, 2, 4, 7] [2, 4, 7] ?_
 (try dsimp)
 apply Eso
 refine WQ qap ?_
 refine WQ qlA ?_
 refine W1 dnv ?_
 refine W1 dst ?_
 refine Wk [0, 2, 7, 10] [2, 7, 10] ?_
 (try dsimp)
 apply Eso
 apply WM
 apply bW
 (try dsimp)
 obtain ⟨k9, k9d, h⟩ := eX h
 refine dJ (fun (i : (List Int) × Int × (List aV)) => ⟨[(0, ss dh i.1), (2, S.one (.ptr 2 0)), (7, S.one (.ptr 7 0)), (11, zi_ i.2.1)], [(2, ⟨true, [vi (0 : Int), vi (0 : Int), vi (0 : Int), .nil, .nil, .nil, vu (0 : Int), vb false]⟩), (7, ⟨false, [vi (0 : Int), vi (0 : Int), vi (0 : Int), .nil, .nil, .own 1103 0 i.2.2.length (some (10, 44)), vu (IntKind.u64.wrap (v3 + (1 : Int))), vb x1.2.1]⟩), (1103, ⟨true, flat jf i.2.2⟩)]⟩) (fun i => k9 i.1 i.2.1 i.2.2 = some r) (fun i h => ?_) ?_
 obtain ⟨v6, v7, v8⟩ := i
 rw [k9d] at h; dsimp only at h
 (try dsimp)
 apply Eso
 apply WM
 obtain ⟨x10, KU, h⟩ := aG h
 refine W1 (dc1 hP (Dq F v6 x10 KU)) ?_
 apply WM
 refine WQ qx ?_
 refine WQ qx ?_
 refine W1 dnv ?_
 refine W1 dst ?_
 apply WM
 refine Wk [2, 7, 11, 17, 18] [2, 7, 17, 1103] ?_
 (try dsimp)
 apply Eso
 refine WQ qlA ?_
 refine WQ qap ?_
 refine W1 dst ?_
 refine Wk [2, 7, 11, 18] [2, 7, 1103] ?_
 (try dsimp)
 apply Eso
 refine WQ qlA ?_
 apply WM
 refine WQ qi ?_
 apply WM
 apply aF
 rfl
 intro b
 try rw [b]
 exact qm
 apply aF
 rfl
 intro b
 try rw [b]
 exact qi
 refine WQ qan ?_
 refine W1 dst ?_
 apply WM
 refine Wk [2, 3] [2, 1103] ?_
 (try dsimp)
 refine dR (kY (r := 1103) rfl rfl).b ?_
 (try dsimp)
 apply bD
 cases h
 exact fe
 apply Eso
 refine WQ qap ?_
 refine WQ ql1 ?_
 apply WM
 refine Wk [0, 2, 7, 10, 11, 66, 67] [2, 7, 10] ?_
 (try dsimp)
 apply bT
 (try dsimp)
 refine eG (fun (i : (List Int) × Int × Int × (List aV)) => ⟨[(0, ss dh i.1), (2, S.one (.ptr 2 0)), (7, S.one (.ptr 7 0)), (10, S.one (.ptr 10 0)), (11, zi_ i.2.1), (66, zi_ x1.1.bH.ak), (67, zi_ i.2.2.1)], [(2, ⟨true, [vi (0 : Int), vi (0 : Int), vi (0 : Int), .nil, .nil, .nil, vu (0 : Int), vb false]⟩), (7, ⟨false, [vi (0 : Int), vi (0 : Int), vi (0 : Int), .nil, .nil, .own 1103 0 i.2.2.2.length (some (10, 44)), vu (IntKind.u64.wrap (v3 + (1 : Int))), vb x1.2.1]⟩), (10, ⟨true, [vi x1.1.bH.ak, vi x1.1.bH.ay, vi x1.1.bH.aA]⟩), (1103, ⟨true, flat jf i.2.2.2⟩)]⟩) (fun n i => iO F x1 k9 n i.1 i.2.1 i.2.2.1 i.2.2.2 = some r) F (a0, (0 : Int), (0 : Int), ([] : List aV)) h ?_ (fun n i h => ?_)
 refine fM (rM (q := 7) (j := 5) (r := 1103) 10 44 rfl rfl rfl rfl) ?_
 exact LB
 obtain ⟨v67, v68, v69, v70⟩ := i; dsimp only at h
 obtain _ | n71 := n
 cases h
 unfold iO at h
 (try dsimp)
 apply Eso
 refine WQ qi ?_
 apply bW
 (try dsimp)
 apply bG
 refine Ec h rfl (fun h Ze => ?_) (fun h Ze => ?_)
 apply bf
 refine aX [0, 2, 7, 10, 11, 66, 67] [2, 7, 10, 1103] ?_
 (try dsimp)
 apply bG
 apply bT
 apply Eso
 apply WM
 apply WM
 refine Wk [0, 2, 7, 10, 11, 12, 66, 67] [2, 7, 10, 1103] ?_
 (try dsimp)
 apply Eso
 refine WQ qlA ?_
 apply WM
 obtain ⟨x73, ab7, h⟩ := aG h
 refine W1 (dc1 hP (qE F x1.1.bH v69 x73 ab7)) ?_
 apply WM
 refine WQ qx ?_
 refine WQ qx ?_
 apply WM
 apply WM
 refine Wk [0, 2, 7, 10, 11, 13, 14, 66, 67] [2, 7, 10, 1103] ?_
 (try dsimp)
 obtain ⟨k85, aex, h⟩ := eX h
 refine dJ (fun (i : Bool × Int × Int × Int × Int × Int × Int × Int × Int × Int × (List aB)) => ⟨[(0, ss dh v67), (2, S.one (.ptr 2 0)), (7, S.one (.ptr 7 0)), (10, S.one (.ptr 10 0)), (11, zi_ v68), (15, S.one (.ptr 15 0)), (16, zb_ i.1), (66, zi_ x1.1.bH.ak), (67, zi_ v69)], [(2, ⟨true, [vi (0 : Int), vi (0 : Int), vi (0 : Int), .nil, .nil, .nil, vu (0 : Int), vb false]⟩), (7, ⟨false, [vi (0 : Int), vi (0 : Int), vi (0 : Int), .nil, .nil, .own 1103 0 v70.length (some (10, 44)), vu (IntKind.u64.wrap (v3 + (1 : Int))), vb x1.2.1]⟩), (10, ⟨true, [vi x1.1.bH.ak, vi x1.1.bH.ay, vi x1.1.bH.aA]⟩), (15, ⟨true, [vi i.2.1, vu i.2.2.1, vu i.2.2.2.1, vu i.2.2.2.2.1, vu i.2.2.2.2.2.1, vu i.2.2.2.2.2.2.1, vi i.2.2.2.2.2.2.2.1, vu i.2.2.2.2.2.2.2.2.1, vi i.2.2.2.2.2.2.2.2.2.1, sl bM i.2.2.2.2.2.2.2.2.2.2]⟩), (1103, ⟨true, flat jf v70⟩)]⟩) (fun i => k85 i.1 i.2.1 i.2.2.1 i.2.2.2.1 i.2.2.2.2.1 i.2.2.2.2.2.1 i.2.2.2.2.2.2.1 i.2.2.2.2.2.2.2.1 i.2.2.2.2.2.2.2.2.1 i.2.2.2.2.2.2.2.2.2.1 i.2.2.2.2.2.2.2.2.2.2 = some r) (fun i h => ?_) ?_
 obtain ⟨v74, v75, v76, v77, v78, v79, v80, v81, v82, v83, v84⟩ := i
 rw [aex] at h; dsimp only at h
 (try dsimp)
 apply bG
 apply Eso
 apply WM
 refine WQ qno ?_
 refine Wk [0, 2, 7, 10, 11, 15, 66, 67, 88] [2, 7, 10, 15, 1103] ?_
 (try dsimp)
 refine Ec h rfl (fun h aey => ?_) (fun h aey => ?_)
 apply Eso
 refine WQ qbu ?_
 refine W1 dst ?_
 apply WM
 refine Wk [2, 3] [2] ?_
 (try dsimp)
 refine dR (ni (q := 2) rfl).b ?_
 (try dsimp)
 apply bD
 cases h
 exact fe
 apply bf
 refine aX [0, 2, 7, 10, 11, 15, 66, 67] [2, 7, 10, 15, 1103] ?_
 (try dsimp)
 obtain ⟨k89, aez, h⟩ := eX h
 refine dJ (fun (i : (List Int) × Int) => ⟨[(0, ss dh i.1), (2, S.one (.ptr 2 0)), (7, S.one (.ptr 7 0)), (10, S.one (.ptr 10 0)), (11, zi_ i.2), (15, S.one (.ptr 15 0)), (66, zi_ x1.1.bH.ak), (67, zi_ v69)], [(2, ⟨true, [vi (0 : Int), vi (0 : Int), vi (0 : Int), .nil, .nil, .nil, vu (0 : Int), vb false]⟩), (7, ⟨false, [vi (0 : Int), vi (0 : Int), vi (0 : Int), .nil, .nil, .own 1103 0 v70.length (some (10, 44)), vu (IntKind.u64.wrap (v3 + (1 : Int))), vb x1.2.1]⟩), (10, ⟨true, [vi x1.1.bH.ak, vi x1.1.bH.ay, vi x1.1.bH.aA]⟩), (15, ⟨true, [vi v75, vu v76, vu v77, vu v78, vu v79, vu v80, vi v81, vu v82, vi v83, sl bM v84]⟩), (1103, ⟨true, flat jf v70⟩)]⟩) (fun i => k89 i.1 i.2 = some r) (fun i h => ?_) ?_
 obtain ⟨v87, v88⟩ := i
 rw [aez] at h; dsimp only at h
 (try dsimp)
 apply dO
 refine WQ qap ?_
 refine WQ ql1 ?_
 refine WQ qlA ?_
 refine W1 dbs ?_
 obtain ⟨g90, h⟩ := aQ h
 refine W1 (dY (e := jf) rfl rfl (fun _ => rfl) (fun _ => rfl) rfl (Src.lit (e := jf) ([(⟨v75, v76, (⟨v77, v78, v79, v80⟩ : V4 Int), (⟨v81, v82, v83⟩ : dP), v84⟩ : aV)] : List aV) rfl (fun _ => rfl) rfl rfl) g90 rfl) ?_
 refine WQ qap ?_
 refine W1 dst ?_
 refine Wk [0, 2, 7, 10, 11, 66, 67] [2, 7, 10, 1103] ?_
 (try dsimp)
 apply dO
 obtain ⟨g91, h⟩ := aQ h
 refine WQ (qad g91) ?_
 apply WM
 apply bW
 refine ⟨n71, (v87, v88, (v69 + (1 : Int)), (v70 ++ ([(⟨v75, v76, (⟨v77, v78, v79, v80⟩ : V4 Int), (⟨v81, v82, v83⟩ : dP), v84⟩ : aV)] : List aV))), Nat.lt_succ_self _, h, ?_⟩
 exact LB
 apply Eso
 refine WQ qap ?_
 refine WQ ql1 ?_
 refine WQ qi ?_
 refine Wk [0, 2, 7, 10, 11, 15, 66, 67, 92] [2, 7, 10, 15, 1103] ?_
 (try dsimp)
 refine Ec h rfl (fun h Zf => ?_) (fun h Zf => ?_)
 apply Eso
 apply WM
 obtain ⟨g93, h⟩ := aQ h
 refine WQ (qad g93) ?_
 apply WM
 refine Wk [0, 2, 7, 10, 11, 15, 66, 67] [2, 7, 10, 15, 1103] ?_
 (try dsimp)
 apply dO
 apply WM
 refine WQ qap ?_
 refine WQ ql1 ?_
 obtain ⟨x94, aeA, h⟩ := aG h
 refine W1 (dc1 hP (OZ F v67 v84 x94 aeA)) ?_
 apply WM
 apply bW
 refine ⟨(x94, (v68 + (1 : Int))), h, ?_⟩
 exact LB
 apply bf
 refine ⟨(v67, v68), h, ?_⟩
 exact LB
 obtain ⟨g95, h⟩ := aQ h
 obtain ⟨g96, h⟩ := aQ h
 obtain ⟨x97, ac1, h⟩ := aG h
 refine ig [0, 1, 2, 3, 4, 5, 6, 8, 9] ?_
 refine XQ 0 rfl rfl rfl qlA ?_
 refine XQ 1 rfl rfl rfl qm ?_
 refine XQ 2 rfl rfl rfl qm ?_
 refine XQ 3 rfl rfl rfl qm ?_
 refine XQ 4 rfl rfl rfl qm ?_
 refine XQ 5 rfl rfl rfl (qad g95) ?_
 refine XQ 6 rfl rfl rfl (lS rfl (fun _ => rfl) rfl rfl g96.1 g96.2.1 g96.2.2) ?_
 (try dsimp)
 refine X2 rfl ?_ ?_
 refine XK rfl (dc1 hP (zU F x1.1.bH (cut v67 x73.1 (x73.1 + x73.2)) x97 ac1)) ?_
 refine XQ 8 rfl rfl rfl qm ?_
 refine XQ 9 rfl rfl rfl qx ?_
 refine X2 rfl ?_ ?_
 refine XK rfl ((qx).does) ?_
 refine X1 rfl (XK rfl dnv ?_)
 refine X1 rfl (XT rfl rfl dst ?_)
 refine X1 rfl (XT rfl rfl ((qm).does) ?_)
 refine dL rfl ?_
 refine ⟨(x97.2, x97.1.bK, x97.1.jD, x97.1.xL.c0, x97.1.xL.c1, x97.1.xL.c2, x97.1.xL.c3, x97.1.bJ.kP, x97.1.bJ.xW, x97.1.bJ.xN, x97.1.xW), h, ?_⟩
 exact LB
 refine XK rfl dnv ?_
 refine X2 rfl ?_ ?_
 refine XK rfl ((qx).does) ?_
 refine X1 rfl (XT rfl rfl dst ?_)
 refine X1 rfl (XT rfl rfl ((qm).does) ?_)
 refine dL rfl ?_
 refine ⟨(x97.2, x97.1.bK, x97.1.jD, x97.1.xL.c0, x97.1.xL.c1, x97.1.xL.c2, x97.1.xL.c3, x97.1.bJ.kP, x97.1.bJ.xW, x97.1.bJ.xN, x97.1.xW), h, ?_⟩
 exact LB
 refine XT rfl rfl dst ?_
 refine X1 rfl (XT rfl rfl ((qx).does) ?_)
 refine X1 rfl (XT rfl rfl ((qm).does) ?_)
 refine dL rfl ?_
 refine ⟨(x97.2, x97.1.bK, x97.1.jD, x97.1.xL.c0, x97.1.xL.c1, x97.1.xL.c2, x97.1.xL.c3, x97.1.bJ.kP, x97.1.bJ.xW, x97.1.bJ.xN, x97.1.xW), h, ?_⟩
 exact LB
 refine XK rfl dnv ?_
 refine X1 rfl (XK rfl (dc1 hP (zU F x1.1.bH (cut v67 x73.1 (x73.1 + x73.2)) x97 ac1)) ?_)
 refine XQ 8 rfl rfl rfl qm ?_
 refine XQ 9 rfl rfl rfl qx ?_
 refine X2 rfl ?_ ?_
 refine XK rfl ((qx).does) ?_
 refine X1 rfl (XT rfl rfl dst ?_)
 refine X1 rfl (XT rfl rfl ((qm).does) ?_)
 refine dL rfl ?_
 refine ⟨(x97.2, x97.1.bK, x97.1.jD, x97.1.xL.c0, x97.1.xL.c1, x97.1.xL.c2, x97.1.xL.c3, x97.1.bJ.kP, x97.1.bJ.xW, x97.1.bJ.xN, x97.1.xW), h, ?_⟩
 exact LB
 refine XT rfl rfl dst ?_
 refine X1 rfl (XT rfl rfl ((qx).does) ?_)
 refine X1 rfl (XT rfl rfl ((qm).does) ?_)
 refine dL rfl ?_
 refine ⟨(x97.2, x97.1.bK, x97.1.jD, x97.1.xL.c0, x97.1.xL.c1, x97.1.xL.c2, x97.1.xL.c3, x97.1.bJ.kP, x97.1.bJ.xW, x97.1.bJ.xN, x97.1.xW), h, ?_⟩
 exact LB
 apply gy
 refine ⟨(v67, v68, v70), h, ?_⟩
 exact LB
 apply Eso
 apply WM
 apply WM
 refine WQ qls ?_
 obtain ⟨g98, h⟩ := aQ h
 refine WQ (qsu g98) ?_
 obtain ⟨g99, h⟩ := aQ h
 refine WQ (lS rfl (fun _ => rfl) rfl rfl g99.1 g99.2.1 g99.2.2) ?_
 obtain ⟨x100, Zk, h⟩ := aG h
 refine W1 (dc1 hP (Dp F (cut a0 (((a0.length : Nat) : Int) - (8 : Int)) ((a0.length : Nat) : Int)) x100 Zk)) ?_
 apply WM
 refine WQ qx ?_
 refine WQ qx ?_
 refine W1 dnv ?_
 refine W1 dst ?_
 apply WM
 refine Wk [0, 2, 4, 6, 7, 8, 9] [2, 4, 7, 8] ?_
 (try dsimp)
 apply Eso
 apply WM
 apply WM
 apply aF
 rfl
 intro b
 try rw [b]
 exact qm
 refine WQ qan ?_
 refine Wk [0, 2, 4, 7, 8, 48] [2, 4, 7, 8] ?_
 (try dsimp)
 refine Ec h rfl (fun h hc101 => ?_) (fun h hc101 => ?_)
 apply dO
 refine WQ qap ?_
 refine WQ ql1 ?_
 refine WQ qap ?_
 refine WQ ql1 ?_
 obtain ⟨x102, ac2, h⟩ := aG h
 refine WQ (Ed (vs := [(.int .u64 x1.1.uj), (.int .u64 x100.1.uj)]) hP rfl (X_i ac2) rfl) ?_
 refine WQ qap ?_
 refine W1 dst ?_
 apply bW
 refine ⟨x102, h, ?_⟩
 exact LB
 apply bf
 refine ⟨x1.1.uj, h, ?_⟩
 exact LB
def Jy : cO := (q [o (.box 44 0) 1, o (.jm [zi, zu, zu, zu, zu, zu, zi, zu, zi, .nil]) 2] (.seq (q [o (.add 0 1) 3, o (.load nn 1 3) 4] (.block 0 (q [o (.bin .eql 3 4 (ci 2)) 6, w 5 6] (.cond 5 (.ops [o (.add 0 1) 7, n_ (.store 1 7 (ci 3))]) (q [o (.bin .eql 3 4 (ci 1)) 9, w 8 9] (.cond 8 (.ops [o (.add 0 1) 10, n_ (.store 1 10 (ci 4))]) .skip)))))) (q [o (.load yy 10 1) 11, n_ (.store 10 2 11)] .ret)))
theorem Ti : Fits Tryz.prog 104 1 Jy [(.cell true 10 2)] := fk Tryz.func104
theorem Tj (F : Nat) (a0 : aV) (r : aV) (h : qh F a0 = some r) : PC Tryz.prog 104 [S.agg [vi a0.bK, vu a0.jD, vu a0.xL.c0, vu a0.xL.c1, vu a0.xL.c2, vu a0.xL.c3, vi a0.bJ.kP, vu a0.bJ.xW, vi a0.bJ.xN, sl bM a0.xW]] (S.agg [vi r.bK, vu r.jD, vu r.xL.c0, vu r.xL.c1, vu r.xL.c2, vu r.xL.c3, vi r.bJ.kP, vu r.bJ.xW, vi r.bJ.xN, sl bM r.xW]) := by
 unfold qh at h
 refine eu Ti rfl rfl ?_
 intro C hP
 unfold Jy; dsimp
 apply Eso
 refine W1 dbx ?_
 refine W1 dnv ?_
 refine Wk [1, 2] [1, 2] ?_
 obtain ⟨k2, k2d, h⟩ := eX h
 refine dJ (fun (i : Int) => ⟨[(1, S.one (.ptr 1 0)), (2, S.one (.ptr 2 0))], [(1, ⟨true, [vi i, vu a0.jD, vu a0.xL.c0, vu a0.xL.c1, vu a0.xL.c2, vu a0.xL.c3, vi a0.bJ.kP, vu a0.bJ.xW, vi a0.bJ.xN, sl bM a0.xW]⟩), (2, ⟨true, [vi (0 : Int), vu (0 : Int), vu (0 : Int), vu (0 : Int), vu (0 : Int), vu (0 : Int), vi (0 : Int), vu (0 : Int), vi (0 : Int), .nil]⟩)]⟩) (fun i => k2 i = some r) (fun i h => ?_) ?_
 let iv := i; change k2 i = some r at h; generalize i = v1 at h ⊢
 rw [k2d] at h; dsimp only at h
 apply Eso
 refine WQ qlA ?_
 refine W1 dst ?_
 refine Wk [2] [2] ?_
 apply bD
 cases h
 exact fe
 apply Eso
 refine WQ qap ?_
 refine WQ ql1 ?_
 refine Wk [1, 2, 4] [1, 2] ?_
 apply bT
 apply Eso
 refine WQ qi ?_
 apply WM
 refine Wk [1, 2, 4, 5] [1, 2] ?_
 refine Ec h rfl (fun h hc3 => ?_) (fun h hc3 => ?_)
 apply dO
 refine WQ qap ?_
 refine W1 dst ?_
 apply bW
 refine ⟨(3 : Int), h, ?_⟩
 exact LB
 apply Eso
 refine WQ qi ?_
 apply WM
 refine Wk [1, 2, 8] [1, 2] ?_
 refine Ec h rfl (fun h hc4 => ?_) (fun h hc4 => ?_)
 apply dO
 refine WQ qap ?_
 refine W1 dst ?_
 apply bW
 refine ⟨(4 : Int), h, ?_⟩
 exact LB
 apply bf
 refine ⟨a0.bK, h, ?_⟩
 exact LB
def wW : cO := (q [o (.mv (.const (.int .u64 0))) 2] (.seq (q [w 5 0, o (.len nn 5) 6, o (.bin .lss 3 6 (ci 1)) 7] (.cond 7 (.ops [o .bad 8, n_ .bad]) .skip)) (q [w 9 0, o (.fH 1 9 (ci 0)) 10, o (.load nn 1 10) 11, w 3 11] (.seq (q [o (.mv (ci 1)) 4] (.block 0 (.loop (.seq (q [w 12 4, w 13 0, o (.len nn 13) 14, o (.bin .lss 3 12 14) 15] (.cond 15 .skip (.exit 0))) (.seq (.block 1 (.ops [w 18 3, w 19 0, w 20 4, o (.fH 1 19 20) 21, o (.load nn 1 21) 22, o (.bi .max #[22, 22] 22 #[nn, nn] [18, 22]) 23, w 3 23])) (.ops [w 16 4, o (.bin .add 3 16 (ci 1)) 17, w 4 17])))))) (q [w 24 3, w 2 24] .ret)))))
theorem Ey : Fits Tryz.prog 82 1 wW [(.tmp 2)] := fk Tryz.func82
theorem Ez (F : Nat) (a0 : (List Int)) (r : Int) (h : mY F a0 = some r) : PC Tryz.prog 82 [ss dh a0] (zu_ r) := by
 unfold mY at h
 refine eu Ey rfl rfl ?_
 intro C hP
 unfold wW; dsimp
 apply Eso
 apply WM
 refine Wk [0] [] ?_
 (try dsimp)
 obtain ⟨k1, k1d, h⟩ := eX h
 refine dJ (fun (i : Unit) => ⟨[(0, ss dh a0)], []⟩) (fun i => k1 () = some r) (fun i h => ?_) ?_
 rw [k1d] at h; dsimp only at h
 (try dsimp)
 apply Eso
 apply WM
 obtain ⟨g2, h⟩ := aQ h
 refine WQ (qis g2) ?_
 refine WQ (q1F 1 g2 0) ?_
 apply WM
 refine Wk [0, 3] [] ?_
 (try dsimp)
 obtain ⟨k4, k4d, h⟩ := eX h
 refine dJ (fun (i : Int) => ⟨[(3, zu_ i)], []⟩) (fun i => k4 i = some r) (fun i h => ?_) ?_
 let iv := i; change k4 i = some r at h; generalize i = v3 at h ⊢
 rw [k4d] at h; dsimp only at h
 (try dsimp)
 apply Eso
 apply WM
 apply WM
 refine Wk [2] [] ?_
 (try dsimp)
 apply bD
 cases h
 exact fe
 apply Eso
 apply WM
 apply bW
 (try dsimp)
 apply bT
 (try dsimp)
 refine eG (fun (i : Int × Int) => ⟨[(0, ss dh a0), (3, zu_ i.1), (4, zi_ i.2)], []⟩) (fun n i => jZ F a0 k4 n i.1 i.2 = some r) F ((nth a0 (0 : Int)), (1 : Int)) h ?_ (fun n i h => ?_)
 exact LB
 obtain ⟨v15, v16⟩ := i; dsimp only at h
 obtain _ | n17 := n
 cases h
 unfold jZ at h
 (try dsimp)
 apply bG
 apply Eso
 apply WM
 apply WM
 refine WQ qls ?_
 refine WQ qi ?_
 refine Wk [0, 3, 4, 15] [] ?_
 (try dsimp)
 refine Ec h rfl (fun h hc18 => ?_) (fun h hc18 => ?_)
 apply bf
 refine aX [0, 3, 4] [] ?_
 (try dsimp)
 apply bG
 apply bT
 apply dO
 apply WM
 apply WM
 apply WM
 obtain ⟨g19, h⟩ := aQ h
 refine WQ (qis g19) ?_
 refine WQ (q1F 1 g19 0) ?_
 obtain ⟨x20, ab6, h⟩ := aG h
 refine WQ (Ed (vs := [(.int .u64 v15), (.int .u64 (nth a0 v16))]) hP rfl (X_i ab6) rfl) ?_
 apply WM
 refine Wk [0, 3, 4] [] ?_
 (try dsimp)
 apply dO
 apply WM
 obtain ⟨g21, h⟩ := aQ h
 refine WQ (qad g21) ?_
 apply WM
 apply bW
 refine ⟨n17, (x20, (v16 + (1 : Int))), Nat.lt_succ_self _, h, ?_⟩
 exact LB
 apply gy
 refine ⟨v15, h, ?_⟩
 exact LB
 apply Eso
 apply WM
 refine WQ qls ?_
 refine WQ qi ?_
 refine Wk [0, 7] [] ?_
 (try dsimp)
 refine Ec h rfl (fun h hc22 => ?_) (fun h hc22 => ?_)
 apply dO
 cases h
 apply bf
 refine ⟨(), h, ?_⟩
 exact LB
def Jz : cO := (q [o (.box 44 0) 1, o (.mv (.const (.int .u64 0))) 2] (q [o (.add 0 1) 6, o (.load nn 1 6) 7, o (.jd .u64 7) 8, o (.add 6 1) 9, o (.add 0 9) 10, o (.load nn 1 10) 11, o (.jd .u64 11) 12, o (.add 9 1) 13, o (.load nn 1 13) 14, o (.len nn 14) 15, o (.jd .u64 15) 16, o (.add 1 1) 17, o (.load nn 1 17) 18, o (.iW 1 22 4 [zu, zu, zu, zu] [(0, (1, 8)), (1, (1, 12)), (2, (1, 16)), (3, (1, 18))]) 19, w 3 19] (q [o (.call 81 []) 21, w 22 3, o (.call 80 [21, 22]) 23, w 20 23, o (.ext 0 20) 24, o (.ext 1 20) 25, w 4 24, w 5 25] (.seq (q [w 26 5, o (.un .not 26) 27, w 28 27, g_ (.add 9 1) 29 28 nn, g_ (.load nn 1 29) 30 28 nn, g_ (.len nn 30) 31 28 nn, g_ (.bin .gtr 3 31 (ci 600)) 32 28 nn, o (.pick 28 (cb yy) 32) 33, w 34 33, g_ (.mv 3) 35 34 nn, g_ (.slc 1 35 .none (.some (ci 2)) .none) 36 34 nn, g_ (.call 82 [36]) 37 34 nn, g_ (.bin .gtr 22 37 (.const (.int .u64 255))) 38 34 nn, o (.pick 34 (cb yy) 38) 39] (.cond 39 (q [o (.mv (.const (.int .u64 0))) 2] .ret) .skip)) (q [w 40 4, w 2 40] .ret)))))
theorem Tn : Fits Tryz.prog 45 1 Jz [(.tmp 2)] := fk Tryz.func45
theorem Dt (F : Nat) (a0 : aV) (r : Int) (h : lg F a0 = some r) : PC Tryz.prog 45 [S.agg [vi a0.bK, vu a0.jD, vu a0.xL.c0, vu a0.xL.c1, vu a0.xL.c2, vu a0.xL.c3, vi a0.bJ.kP, vu a0.bJ.xW, vi a0.bJ.xN, sl bM a0.xW]] (zu_ r) := by
 unfold lg at h
 refine eu Tn rfl rfl ?_
 intro C hP
 unfold Jz; dsimp
 apply Eso
 refine W1 dbx ?_
 apply WM
 refine Wk [1] [1] ?_
 (try dsimp)
 apply Eso
 refine WQ qap ?_
 refine WQ ql1 ?_
 refine WQ qcv ?_
 refine WQ qap ?_
 refine WQ qap ?_
 refine WQ ql1 ?_
 refine WQ qcv ?_
 refine WQ qap ?_
 refine WQ ql1 ?_
 refine WQ qls ?_
 refine WQ qcv ?_
 refine WQ qap ?_
 refine WQ ql1 ?_
 refine W1 dbs ?_
 apply WM
 refine Wk [1, 3] [1, 19] ?_
 (try dsimp)
 apply Eso
 obtain ⟨x1, x1h, h⟩ := aG h
 refine W1 (dc1 hP (He F  x1 x1h)) ?_
 apply WM
 obtain ⟨x2, x2h, h⟩ := aG h
 refine W1 (nU hP (vP F x1 ([(IntKind.u64.wrap a0.bK), (IntKind.u64.wrap a0.bJ.kP), (IntKind.u64.wrap ((a0.xW.length : Nat) : Int)), a0.jD] : List Int) x2 x2h) rfl rfl) ?_
 apply WM
 refine WQ qx ?_
 refine WQ qx ?_
 apply WM
 apply WM
 refine Wk [1, 3, 4, 5] [1, 19] ?_
 (try dsimp)
 apply bG
 apply Eso
 apply WM
 refine WQ qno ?_
 apply WM
 apply aF
 rfl
 intro b
 try rw [b]
 exact qap
 apply aF
 rfl
 intro b
 try rw [b]
 exact ql1
 apply aF
 rfl
 intro b
 try rw [b]
 exact qls
 apply aF
 rfl
 intro b
 try rw [b]
 exact qi
 refine WQ qor ?_
 apply WM
 apply aF
 rfl
 intro b
 try rw [b]
 exact qm
 obtain ⟨g3, h⟩ := aQ h
 apply aF
 rfl
 intro b
 try rw [b]
 exact AL rfl rfl rfl rfl (g3 b).1 (g3 b).2.1 (g3 b).2.2
 obtain ⟨x4, x4h, h⟩ := aG h
 apply iM
 rfl
 intro hB; (try rw [hB]); exact nU hP (Zl (m := 2) (cs := [vu (IntKind.u64.wrap a0.bK), vu (IntKind.u64.wrap a0.bJ.kP), vu (IntKind.u64.wrap ((a0.xW.length : Nat) : Int)), vu a0.jD]) (Ez F ([(IntKind.u64.wrap a0.bK), (IntKind.u64.wrap a0.bJ.kP)] : List Int) x4 (jA x4h (bt hB)))) rfl rfl
 apply aF
 rfl
 intro b
 try rw [b]
 exact qi
 refine WQ qor ?_
 refine Wk [4, 39] [] ?_
 (try dsimp)
 refine Ec h rfl (fun h hc5 => ?_) (fun h hc5 => ?_)
 apply Eso
 apply WM
 refine Wk [2] [] ?_
 (try dsimp)
 apply bD
 cases h
 exact fe
 apply bf
 refine aX [4] [] ?_
 (try dsimp)
 apply Eso
 apply WM
 apply WM
 refine Wk [2] [] ?_
 (try dsimp)
 apply bD
 cases h
 exact fe
def MP : cO := (q [o (.box 30 0) 1, o (.mv (ci 0)) 2] (.seq (q [o (.load yy 3 1) 3, o (.call 52 [3]) 4, o (.un .not 4) 5] (.cond 5 (q [o (.mv (ci 0)) 2] .ret) .skip)) (q [o (.mv (ci 8)) 2] .ret)))
theorem Vm : Fits Tryz.prog 47 1 MP [(.tmp 2)] := fk Tryz.func47
theorem AP (F : Nat) (a0 : aJ) (r : Int) (h : ru F a0 = some r) : PC Tryz.prog 47 [S.agg [vi a0.ak, vi a0.ay, vi a0.aA]] (zi_ r) := by
 unfold ru at h
 refine eu Vm rfl rfl ?_
 intro C hP
 unfold MP; dsimp
 apply Eso
 refine W1 dbx ?_
 apply WM
 refine Wk [1] [1] ?_
 apply bG
 apply Eso
 refine WQ qlA ?_
 obtain ⟨x1, x1h, h⟩ := aG h
 refine W1 (dc1 hP (nR F a0 x1 x1h)) ?_
 refine WQ qno ?_
 refine Wk [5] [] ?_
 refine Ec h rfl (fun h hc2 => ?_) (fun h hc2 => ?_)
 apply Eso
 apply WM
 refine Wk [2] [] ?_
 apply bD
 cases h
 exact fe
 apply bf
 refine aX [] [] ?_
 apply Eso
 apply WM
 apply bW
 apply bD
 cases h
 exact fe
def Hf : cO := (q [o (.box 134 0) 2, o (.mv cn) 4] (q [o (.mv cn) 5] (.seq (q [o (.add 0 2) 8, o (.add 0 8) 9, o (.load yy 3 9) 10, o (.add 6 2) 11, o (.load nn 1 11) 12, o (.build [zi, zi, zi, zu] [(0, (3, 10)), (3, (1, 12))]) 13, o (.call 75 [13]) 14, o (.len nn 14) 15, o (.mv (ci 0)) 16] (.block 0 (.loop (q [o (.bin .lss 3 16 15) 17] (.seq (.cond 17 .skip (.exit 0)) (.seq (.block 1 (q [w 18 16, o (.fH 1 14 16) 19, o (.load nn 1 19) 20, w 6 18, w 7 20] (.ops [w 21 5, w 22 1, w 23 6, o (.bin .add 3 22 23) 24, w 25 7, o (.build [zi, zu] [(0, (1, 24)), (1, (1, 25))]) 26, o (.iW 2 172 1 [zi, zu] [(0, (2, 26))]) 27, o (.app 42 172 2 16 21 27) 28, w 5 28]))) (.ops [o (.bin .add 3 16 (ci 1)) 29, w 16 29]))))))) (q [w 30 5, w 4 30] .ret))))
theorem QD : Fits Tryz.prog 105 2 Hf [(.tmp 4)] := fk Tryz.func105
theorem xC (F : Nat) (a0 : gQ) (a1 : Int) (r : (List aB)) (h : kT F a0 a1 = some r) : PC Tryz.prog 105 [S.agg [vi a0.xs.bH.ak, vi a0.xs.bH.ay, vi a0.xs.bH.aA, sl aK a0.xs.ay, sl aS a0.xs.aA, sl jf a0.mG, vu a0.lG, vb a0.lM], (zi_ a1)] (ss bM r) := by
 unfold kT at h
 refine eu QD rfl rfl ?_
 intro C hP
 unfold Hf; dsimp
 apply Eso
 refine W1 dbx ?_
 apply WM
 refine Wk [1, 2] [2] ?_
 (try dsimp)
 apply Eso
 apply WM
 apply bW
 (try dsimp)
 obtain ⟨k2, k2d, h⟩ := eX h
 refine dJ (fun (i : (List aB)) => ⟨[(5, S.one (.own 1028 0 i.length (some (2, 172))))], [(1028, ⟨true, flat bM i⟩)]⟩) (fun i => k2 i = some r) (fun i h => ?_) ?_
 let iv := i; change k2 i = some r at h; generalize i = v1 at h ⊢
 rw [k2d] at h; dsimp only at h
 (try dsimp)
 apply Eso
 apply WM
 apply WM
 refine Wk [4] [1028] ?_
 (try dsimp)
 refine dR (kY (r := 1028) rfl rfl).b ?_
 (try dsimp)
 apply bD
 cases h
 exact fe
 apply Eso
 refine WQ qap ?_
 refine WQ qap ?_
 refine WQ qlA ?_
 refine WQ qap ?_
 refine WQ ql1 ?_
 refine WQ qbu ?_
 obtain ⟨x3, x3h, h⟩ := aG h
 refine W1 (dc1 hP (Dn F (⟨a0.xs.bH, a0.lG⟩ : dK) x3 x3h)) ?_
 refine WQ qls ?_
 apply WM
 refine Wk [1, 5, 14, 15, 16] [] ?_
 (try dsimp)
 apply bT
 (try dsimp)
 refine eG (fun (i : Int × (List aB)) => ⟨[(1, zi_ a1), (5, S.one (.own 1028 0 i.2.length (some (2, 172)))), (14, ss dh x3), (15, (zi_ ((x3.length : Nat) : Int))), (16, zi_ i.1)], [(1028, ⟨true, flat bM i.2⟩)]⟩) (fun n i => mW F a1 k2 x3 n i.1 i.2 = some r) F ((0 : Int), ([] : List aB)) h ?_ (fun n i h => ?_)
 refine fM (nT (i := 5) (r := 1028) 2 172 rfl rfl) ?_
 exact LB
 obtain ⟨v16, v17⟩ := i; dsimp only at h
 obtain _ | n18 := n
 cases h
 unfold mW at h
 (try dsimp)
 apply Eso
 refine WQ qi ?_
 apply bW
 (try dsimp)
 apply bG
 refine Ec h rfl (fun h hc19 => ?_) (fun h hc19 => ?_)
 apply bf
 refine aX [1, 5, 14, 15, 16] [1028] ?_
 (try dsimp)
 apply bG
 apply bT
 apply Eso
 apply WM
 obtain ⟨g20, h⟩ := aQ h
 refine WQ (qis g20) ?_
 refine WQ (q1F 1 g20 0) ?_
 apply WM
 apply WM
 refine Wk [1, 5, 6, 7, 14, 15, 16] [1028] ?_
 (try dsimp)
 apply dO
 apply WM
 apply WM
 apply WM
 obtain ⟨g21, h⟩ := aQ h
 refine WQ (qad g21) ?_
 apply WM
 refine WQ qbu ?_
 refine W1 dbs ?_
 obtain ⟨g22, h⟩ := aQ h
 refine W1 (dY (e := bM) rfl rfl (fun _ => rfl) (fun _ => rfl) rfl (Src.lit (e := bM) ([(⟨(a1 + v16), (nth x3 v16)⟩ : aB)] : List aB) rfl (fun _ => rfl) rfl rfl) g22 rfl) ?_
 apply WM
 refine Wk [1, 5, 14, 15, 16] [1028] ?_
 (try dsimp)
 apply dO
 obtain ⟨g23, h⟩ := aQ h
 refine WQ (qad g23) ?_
 apply WM
 apply bW
 refine ⟨n18, ((v16 + (1 : Int)), (v17 ++ ([(⟨(a1 + v16), (nth x3 v16)⟩ : aB)] : List aB))), Nat.lt_succ_self _, h, ?_⟩
 exact LB
 apply gy
 refine ⟨v17, h, ?_⟩
 exact LB
end Go.V.P
