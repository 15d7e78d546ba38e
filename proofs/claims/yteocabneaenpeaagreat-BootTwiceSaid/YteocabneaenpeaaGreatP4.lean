/- Walks: each function does what its model says: reeve/opd.Get, slices.Clone[[]uint64,uint64], reeve/wset.Do, reeve/tag.Rest, reeve/cap.Get, reeve/thing.Get, reeve/image.Get, reeve/boot.read, reeve/boot.then, slices.Max[[]uint64,uint64], reeve/opd.First, reeve/geo.Lock, reeve/boot.block. Printed by mg.py. No premises. -/
import Derived.Test.YteocabneaenpeaaGreatP3
set_option linter.unusedVariables false
set_option linter.unusedSimpArgs false
set_option maxRecDepth 20000
set_option maxHeartbeats 4000000
namespace Go.V.P
open Go.V Go.Proofs
def Nv : dJ := (.seq (.ops [(o (.box 23 (t 0)) 2), (o (.jR [zi, zu, zu, zu, zu, zu, zi, zu, zi, .nil]) 4), (o (.mv (cb false)) 5)]) (.seq (.ops [(o (.load true 3 (t 2)) 14), (o (.call 30 [(t 14), (ci 0)]) 15), (w 13 15), (o (.ext 0 (t 13)) 16), (o (.ext 1 (t 13)) 17), (w 6 16), (w 7 17)]) (.seq (.seq (.ops [(w 18 7), (o (.bin .eql 3 (t 18) (ci 0)) 19), (w 20 19), (g_ (.mv (t 1)) 21 20 false), (g_ (.len false (t 21)) 22 20 false), (g_ (.mv (t 7)) 23 20 false), (g_ (.bin .neq 3 (t 22) (t 23)) 24 20 false), (o (.pick (t 20) (cb true) (t 24)) 25)]) (.cond (t 25) (.seq (.ops [(o (.build [zi, zu, zu, zu, zu, zu, zi, zu, zi, .nil] []) 26), (n_ (.store 10 (t 4) (t 26))), (o (.mv (cb false)) 5)]) .ret) .skip)) (.seq (.seq (.ops [(w 27 1), (o (.gJ 1 (t 27) (ci 0)) 28), (o (.load false 1 (t 28)) 29), (o (.bin .eql 42 (t 29) (.const (.int .u64 0))) 30)]) (.cond (t 30) (.seq (.draw [((o (.build [zi, zu, zu, zu, zu, zu, zi, zu, zi, .nil] []) 31), []), ((w 32 1), []), ((o (.gJ 1 (t 32) (ci 7)) 33), [1]), ((o (.load false 1 (t 33)) 34), [2]), ((o (.bin .eql 42 (t 34) (.const (.int .u64 0))) 35), [3]), ((n_ (.store 10 (t 4) (t 31))), [0, 0]), ((w 5 35), [4, 5, 0, 1, 2, 3, 4, 5])]) .ret) .skip)) (.seq (.draw [((w 36 1), []), ((o (.gJ 1 (t 36) (ci 0)) 37), [0]), ((o (.load false 1 (t 37)) 38), [1]), ((o (.call 103 []) 39), []), ((o (.call 106 [(t 38), (t 39)]) 40), [2, 3, 3]), ((w 8 40), [4, 4, 0, 1, 2, 3, 4])]) (.seq (.draw [((w 41 8), []), ((o (.gJ 1 (t 41) (ci 0)) 42), [0]), ((o (.load false 1 (t 42)) 43), [1]), ((o (.jF .i64 (t 43)) 44), [2]), ((w 45 8), []), ((o (.gJ 1 (t 45) (ci 3)) 46), [4]), ((o (.load false 1 (t 46)) 47), [5]), ((o (.build [zi, zu, zu, zu, zu, zu, zi, zu, zi, .nil] [(0, (1, (t 44))), (1, (1, (t 47)))]) 48), [3, 6]), ((o (.jR [zi, zu, zu, zu, zu, zu, zi, zu, zi, .nil]) 9), []), ((n_ (.store 10 (t 9) (t 48))), [8, 7, 0, 1, 2, 3, 4, 5, 6, 7, 8])]) (.seq (.draw [((o (.add 2 (t 9)) 49), []), ((o (.QF 1 4 (t 49) .none .none) 50), [0]), ((w 51 1), []), ((o (.slc 1 (t 51) (.some (ci 1)) .none .none) 52), [2]), ((o (.copy 1 (t 50) (t 52)) 53), [1, 3])]) (.seq (.ops [(w 54 8), (o (.gJ 1 (t 54) (ci 1)) 55), (o (.load false 1 (t 55)) 56), (o (.jF .i64 (t 56)) 57), (o (.add 6 (t 9)) 58), (o (.add 0 (t 58)) 59), (n_ (.store 1 (t 59) (t 57)))]) (.seq (.ops [(w 60 8), (o (.gJ 1 (t 60) (ci 2)) 61), (o (.load false 1 (t 61)) 62), (o (.jF .i64 (t 62)) 63), (w 10 63)]) (.seq (.seq (.ops [(w 64 10), (o (.bin .gtr 3 (t 64) (ci 600)) 65)]) (.cond (t 65) (.seq (.ops [(o (.build [zi, zu, zu, zu, zu, zu, zi, zu, zi, .nil] []) 66), (n_ (.store 10 (t 4) (t 66))), (o (.mv (cb false)) 5)]) .ret) .skip)) (.seq (.seq (.ops [(o (.add 0 (t 9)) 67), (o (.load false 1 (t 67)) 68), (o (.bin .neq 3 (t 68) (ci 1)) 69)]) (.cond (t 69) (.seq (.seq (.ops [(w 70 1), (o (.gJ 1 (t 70) (ci 6)) 71), (o (.load false 1 (t 71)) 72), (o (.bin .gtr 42 (t 72) (.const (.int .u64 2147483647))) 73)]) (.cond (t 73) (.seq (.ops [(o (.build [zi, zu, zu, zu, zu, zu, zi, zu, zi, .nil] []) 74), (n_ (.store 10 (t 4) (t 74))), (o (.mv (cb false)) 5)]) .ret) .skip)) (.draw [((w 75 1), []), ((o (.gJ 1 (t 75) (ci 5)) 76), [0]), ((o (.load false 1 (t 76)) 77), [1]), ((w 78 1), []), ((o (.gJ 1 (t 78) (ci 6)) 79), [3]), ((o (.load false 1 (t 79)) 80), [4]), ((o (.jF .i64 (t 80)) 81), [5]), ((o (.add 6 (t 9)) 82), [0, 1, 2, 5]), ((o (.add 1 (t 82)) 83), [7, 0, 1, 2, 5]), ((n_ (.store 1 (t 83) (t 77))), [8, 2, 0, 1, 2, 5]), ((o (.add 6 (t 9)) 84), [0, 1, 2, 3, 4, 5, 6, 7, 8, 9]), ((o (.add 2 (t 84)) 85), [10, 0, 1, 2, 3, 4, 5, 6, 7, 8, 9]), ((n_ (.store 1 (t 85) (t 81))), [11, 6, 9, 0, 1, 2, 3, 4, 5, 6, 7, 8, 9])])) .skip)) (.seq (.seq (.ops [(w 86 10), (o (.mv (ci 0)) 87)]) (.block 0 (.loop (.seq (.ops [(o (.bin .lss 3 (t 87) (t 86)) 88)]) (.seq (.cond (t 88) .skip (.exit 0)) (.seq (.block 1 (.seq (.ops [(w 89 87), (w 11 89)]) (.seq (.ops [(w 90 1), (w 91 11), (o (.bin .mul 3 (ci 2) (t 91)) 92), (o (.bin .add 3 (ci 8) (t 92)) 93), (o (.gJ 1 (t 90) (t 93)) 94), (o (.load false 1 (t 94)) 95), (w 12 95)]) (.seq (.seq (.ops [(w 96 12), (o (.bin .gtr 42 (t 96) (.const (.int .u64 2147483647))) 97)]) (.cond (t 97) (.seq (.ops [(o (.build [zi, zu, zu, zu, zu, zu, zi, zu, zi, .nil] []) 98), (n_ (.store 10 (t 4) (t 98))), (o (.mv (cb false)) 5)]) .ret) .skip)) (.draw [((o (.add 9 (t 9)) 99), []), ((o (.load false 1 (t 99)) 100), [0]), ((w 101 12), []), ((o (.jF .i64 (t 101)) 102), [2]), ((w 103 1), []), ((w 104 11), []), ((o (.bin .mul 3 (ci 2) (t 104)) 105), [5]), ((o (.bin .add 3 (ci 8) (t 105)) 106), [6]), ((o (.bin .add 3 (t 106) (ci 1)) 107), [7]), ((o (.gJ 1 (t 103) (t 107)) 108), [4, 8]), ((o (.load false 1 (t 108)) 109), [9]), ((o (.build [zi, zu] [(0, (1, (t 102))), (1, (1, (t 109)))]) 110), [3, 10]), ((o (.kK 2 154 1 [zi, zu] [(0, (2, (t 110)))]) 111), [11]), ((o (.app 55 154 2 16 (t 100) (t 111)) 112), [1, 12]), ((o (.add 9 (t 9)) 113), [0, 1, 2, 3, 4, 5, 6, 7, 8, 9, 10, 11, 12, 13]), ((n_ (.store 1 (t 113) (t 112))), [14, 13, 13, 0, 1, 2, 3, 4, 5, 6, 7, 8, 9, 10, 11, 12, 13])]))))) (.ops [(o (.bin .add 3 (t 87) (ci 1)) 114), (w 87 114)]))))))) (.seq (.seq (.ops [(o (.load true 3 (t 2)) 115), (o (.load true 10 (t 9)) 116), (o (.call 64 [(t 115), (t 116)]) 117), (o (.un .not (t 117)) 118), (w 119 118), (g_ (.mv (t 1)) 120 119 false), (g_ (.gJ 1 (t 120) (ci 7)) 121 119 false), (g_ (.load false 1 (t 121)) 122 119 false), (g_ (.bin .neq 42 (t 122) (.const (.int .u64 0))) 123 119 false), (o (.pick (t 119) (cb true) (t 123)) 124)]) (.cond (t 124) (.seq (.ops [(o (.build [zi, zu, zu, zu, zu, zu, zi, zu, zi, .nil] []) 125), (n_ (.store 10 (t 4) (t 125))), (o (.mv (cb false)) 5)]) .ret) .skip)) (.seq (.ops [(o (.load true 10 (t 9)) 126), (n_ (.store 10 (t 4) (t 126))), (o (.mv (cb true)) 5)]) .ret))))))))))))))
theorem VB : Fits Tryz.prog 68 2 Nv [(.cell true 10 4), (.tmp 5)] := cu Tryz.func68 (by kernel_rfl) (by kernel_rfl) (by kernel_rfl)
theorem zo (F : Nat) (a0 : bg) (a1 : (List Int)) (r : bC × Bool) (h : lu F a0 a1 = some r) : PC Tryz.prog 68 [S.agg [vi a0.ak, vi a0.au, vi a0.ay], ss cO a1] (S.tup [S.agg [vi r.1.bY, vu r.1.lF, vu r.1.xL.c0, vu r.1.xL.c1, vu r.1.xL.c2, vu r.1.xL.c3, vi r.1.dh.lW, vu r.1.dh.xW, vi r.1.dh.xN, sl bZ r.1.xW], (zb_ r.2)]) := by
 unfold lu at h
 refine fC VB rfl rfl ?_
 intro C hP
 unfold Nv; dsimp
 apply Eso
 refine W1 (eu rfl rfl rfl rfl) ?_
 refine W1 (dw rfl rfl) ?_
 apply WM
 refine Wk [1, 2, 4] [2, 4] ?_
 (try dsimp)
 apply Eso
 refine WQ qlA ?_
 obtain ⟨x1, x1h, h⟩ := aN h
 refine W1 (aF hP (sW F a0 (0 : Int) x1 x1h) rfl rfl rfl) ?_
 apply WM
 refine WQ (bD rfl rfl) ?_
 refine WQ (bD rfl rfl) ?_
 apply WM
 apply WM
 refine Wk [1, 2, 4, 7] [2, 4] ?_
 (try dsimp)
 apply bP
 apply Eso
 apply WM
 refine WQ (aB rfl rfl rfl) ?_
 apply WM
 apply aC
 rfl
 intro hB; (try simp only [hB, bss, ctt]); exact aI rfl
 apply aC
 rfl
 intro hB; (try simp only [hB, bss, ctt]); exact bM rfl
 apply aC
 rfl
 intro hB; (try simp only [hB, bss, ctt]); exact aI rfl
 apply aC
 rfl
 intro hB; (try simp only [hB, bss, ctt]); exact aB rfl rfl rfl
 refine WQ (dS rfl rfl rfl) ?_
 refine Wk [1, 2, 4, 25] [2, 4] ?_
 (try dsimp)
 refine Ec h rfl (fun h hc2 => ?_) (fun h hc2 => ?_)
 apply Eso
 refine WQ (bV rfl rfl) ?_
 refine W1 dst ?_
 apply WM
 refine Wk [4, 5] [4] ?_
 (try dsimp)
 refine fA (oM (q := 4) rfl).b ?_
 (try dsimp)
 apply bI
 cases h
 (try simp only [qt, qb, qn])
 refine aT (xs := _) ⟨_, _, fG rfl (by simp), rfl, rfl, ⟨_, rfl, rfl⟩⟩ ?_
 rfl
 apply bG
 refine bf [1, 2, 4] [2, 4] ?_
 (try dsimp)
 apply bP
 apply Eso
 apply WM
 obtain ⟨g3, h⟩ := aV h
 refine WQ (aX rfl rfl g3.1 g3.2) ?_
 refine WQ (aZ (k := 1) rfl (fun _ => rfl) g3 0 rfl rfl) ?_
 refine WQ (aB rfl rfl rfl) ?_
 refine Wk [1, 2, 4, 30] [2, 4] ?_
 (try dsimp)
 refine Ec h rfl (fun h hc4 => ?_) (fun h hc4 => ?_)
 obtain ⟨k5, k5d, h⟩ := fO h
 refine dV (α := Unit) (fun (i : Unit) => (⟨[(4, S.one (.ptr 4 0)), (5, (zb_ ((nth a1 (7 : Int)) == (0 : Int))))], [(4, (⟨true, [vi (0 : Int), vu (0 : Int), vu (0 : Int), vu (0 : Int), vu (0 : Int), vu (0 : Int), vi (0 : Int), vu (0 : Int), vi (0 : Int), .nil]⟩ : Reg))]⟩ : St)) (fun i => k5 () = some r) (fun i h => ?_) ?_
 rw [k5d] at h; dsimp only at h
 (try dsimp)
 refine fA (oM (q := 4) rfl).b ?_
 (try dsimp)
 apply bI
 cases h
 (try simp only [qt, qb, qn])
 refine aT (xs := _) ⟨_, _, fG rfl (by simp), rfl, rfl, ⟨_, rfl, rfl⟩⟩ ?_
 rfl
 obtain ⟨g6, h⟩ := aV h
 refine iY [0] ?_
 refine XQ 0 rfl rfl rfl (bV rfl rfl) ?_
 refine X2 rfl ?_ ?_
 refine XK rfl ((aI rfl).does) ?_
 refine X2 rfl ?_ ?_
 refine XK rfl ((aX rfl rfl g6.1 g6.2).does) ?_
 refine X2 rfl ?_ ?_
 refine XK rfl ((aZ (k := 1) rfl (fun _ => rfl) g6 0 rfl rfl).does) ?_
 refine X2 rfl ?_ ?_
 refine XK rfl ((aB rfl rfl rfl).does) ?_
 refine X1 rfl (XT rfl rfl dst ?_)
 refine X1 rfl (XT rfl rfl ((aI rfl).does) ?_)
 refine ig rfl ?_
 refine ⟨(), h, ?_⟩
 exact (Le.b (bK ⟨rfl, rfl, trivial⟩ ⟨rfl, trivial⟩))
 refine XT rfl rfl dst ?_
 refine X1 rfl (XT rfl rfl ((aB rfl rfl rfl).does) ?_)
 refine X1 rfl (XT rfl rfl ((aI rfl).does) ?_)
 refine ig rfl ?_
 refine ⟨(), h, ?_⟩
 exact (Le.b (bK ⟨rfl, rfl, trivial⟩ ⟨rfl, trivial⟩))
 refine XT rfl rfl dst ?_
 refine X1 rfl (XT rfl rfl ((aZ (k := 1) rfl (fun _ => rfl) g6 0 rfl rfl).does) ?_)
 refine X1 rfl (XT rfl rfl ((aB rfl rfl rfl).does) ?_)
 refine X1 rfl (XT rfl rfl ((aI rfl).does) ?_)
 refine ig rfl ?_
 refine ⟨(), h, ?_⟩
 exact (Le.b (bK ⟨rfl, rfl, trivial⟩ ⟨rfl, trivial⟩))
 refine XT rfl rfl dst ?_
 refine X1 rfl (XT rfl rfl ((aX rfl rfl g6.1 g6.2).does) ?_)
 refine X1 rfl (XT rfl rfl ((aZ (k := 1) rfl (fun _ => rfl) g6 0 rfl rfl).does) ?_)
 refine X1 rfl (XT rfl rfl ((aB rfl rfl rfl).does) ?_)
 refine X1 rfl (XT rfl rfl ((aI rfl).does) ?_)
 refine ig rfl ?_
 refine ⟨(), h, ?_⟩
 exact (Le.b (bK ⟨rfl, rfl, trivial⟩ ⟨rfl, trivial⟩))
 refine XT rfl rfl dst ?_
 refine X1 rfl (XT rfl rfl ((aI rfl).does) ?_)
 refine X1 rfl (XT rfl rfl ((aX rfl rfl g6.1 g6.2).does) ?_)
 refine X1 rfl (XT rfl rfl ((aZ (k := 1) rfl (fun _ => rfl) g6 0 rfl rfl).does) ?_)
 refine X1 rfl (XT rfl rfl ((aB rfl rfl rfl).does) ?_)
 refine X1 rfl (XT rfl rfl ((aI rfl).does) ?_)
 refine ig rfl ?_
 refine ⟨(), h, ?_⟩
 exact (Le.b (bK ⟨rfl, rfl, trivial⟩ ⟨rfl, trivial⟩))
 apply bG
 refine bf [1, 2, 4] [2, 4] ?_
 (try dsimp)
 apply bP
 obtain ⟨g7, h⟩ := aV h
 obtain ⟨x8, x8h, h⟩ := aN h
 obtain ⟨x9, x9h, h⟩ := aN h
 refine iY [0, 1, 2, 5] ?_
 refine XQ 0 rfl rfl rfl (aI rfl) ?_
 refine XQ 1 rfl rfl rfl (aX rfl rfl g7.1 g7.2) ?_
 refine XQ 2 rfl rfl rfl (aZ (k := 1) rfl (fun _ => rfl) g7 0 rfl rfl) ?_
 refine X1 rfl (XK rfl (aF hP (FW F  x8 x8h) rfl rfl rfl) ?_)
 refine X1 rfl (XK rfl (aF hP (C9 F (nth a1 (0 : Int)) x8 x9 x9h) rfl rfl rfl) ?_)
 refine XQ 5 rfl rfl rfl (aI rfl) ?_
 refine ig rfl ?_
 refine bf [1, 2, 4, 8] [2, 4] ?_
 (try dsimp)
 apply bP
 obtain ⟨g10, h⟩ := aV h
 obtain ⟨g11, h⟩ := aV h
 refine iY [0, 1, 2, 3, 4, 5, 6, 7] ?_
 refine XQ 0 rfl rfl rfl (aI rfl) ?_
 refine XQ 1 rfl rfl rfl (aX rfl rfl g10.1 g10.2) ?_
 refine XQ 2 rfl rfl rfl (aZ (k := 1) rfl (fun _ => rfl) g10 0 rfl rfl) ?_
 refine XQ 3 rfl rfl rfl (dF rfl) ?_
 refine XQ 4 rfl rfl rfl (aI rfl) ?_
 refine XQ 5 rfl rfl rfl (aX rfl rfl g11.1 g11.2) ?_
 refine XQ 6 rfl rfl rfl (aZ (k := 1) rfl (fun _ => rfl) g11 0 rfl rfl) ?_
 refine XQ 7 rfl rfl rfl (bV rfl rfl) ?_
 (try dsimp)
 refine X1 rfl (XK rfl (dw rfl rfl) ?_)
 refine X1 rfl (XT rfl rfl dst ?_)
 refine ig rfl ?_
 refine bf [1, 2, 4, 8, 9] [2, 4, 9] ?_
 (try dsimp)
 apply bP
 obtain ⟨g12, h⟩ := aV h
 obtain ⟨g13, h⟩ := aV h
 refine iY [0, 1, 2, 3] ?_
 refine XQ 0 rfl rfl rfl (ah rfl rfl) ?_
 refine XQ 1 rfl rfl rfl (rX rfl rfl rfl rfl (by decide) (by decide) (by decide) (List.cons_ne_nil _ _)) ?_
 refine XQ 2 rfl rfl rfl (aI rfl) ?_
 refine XQ 3 rfl rfl rfl (nM rfl (fun _ => rfl) rfl rfl g12.1 g12.2.1 g12.2.2) ?_
 refine X1 rfl (XT rfl rfl (KO (lit := [vu (nth (cut a1 (1 : Int) ((a1.length : Nat) : Int)) 0), vu (nth (cut a1 (1 : Int) ((a1.length : Nat) : Int)) 1), vu (nth (cut a1 (1 : Int) ((a1.length : Nat) : Int)) 2), vu (nth (cut a1 (1 : Int) ((a1.length : Nat) : Int)) 3)]) rfl rfl (fun _ => rfl) (fun _ => rfl) rfl (Src.slF (cut a1 (1 : Int) ((a1.length : Nat) : Int)) (fun _ => rfl)) (Nat.le_of_ble_eq_true rfl) g13 rfl) ?_)
 refine ig rfl ?_
 refine bf [1, 2, 4, 8, 9] [2, 4, 9] ?_
 (try dsimp)
 apply Eso
 apply WM
 obtain ⟨g14, h⟩ := aV h
 refine WQ (aX rfl rfl g14.1 g14.2) ?_
 refine WQ (aZ (k := 1) rfl (fun _ => rfl) g14 0 rfl rfl) ?_
 refine WQ (dF rfl) ?_
 refine WQ (ah rfl rfl) ?_
 refine WQ (ah rfl rfl) ?_
 refine W1 dst ?_
 refine Wk [1, 2, 4, 8, 9] [2, 4, 9] ?_
 (try dsimp)
 apply Eso
 apply WM
 obtain ⟨g15, h⟩ := aV h
 refine WQ (aX rfl rfl g15.1 g15.2) ?_
 refine WQ (aZ (k := 1) rfl (fun _ => rfl) g15 0 rfl rfl) ?_
 refine WQ (dF rfl) ?_
 apply WM
 refine Wk [1, 2, 4, 9, 10] [2, 4, 9] ?_
 (try dsimp)
 apply bP
 apply Eso
 apply WM
 refine WQ (aB rfl rfl rfl) ?_
 refine Wk [1, 2, 4, 9, 10, 65] [2, 4, 9] ?_
 (try dsimp)
 refine Ec h rfl (fun h hc16 => ?_) (fun h hc16 => ?_)
 apply Eso
 refine WQ (bV rfl rfl) ?_
 refine W1 dst ?_
 apply WM
 refine Wk [4, 5] [4] ?_
 (try dsimp)
 refine fA (oM (q := 4) rfl).b ?_
 (try dsimp)
 apply bI
 cases h
 (try simp only [qt, qb, qn])
 refine aT (xs := _) ⟨_, _, fG rfl (by simp), rfl, rfl, ⟨_, rfl, rfl⟩⟩ ?_
 rfl
 apply bG
 refine bf [1, 2, 4, 9, 10] [2, 4, 9] ?_
 (try dsimp)
 obtain ⟨k19, adi, h⟩ := fO h
 refine dV (α := Int × Int) (fun (i : Int × Int) => (⟨[(1, ss cO a1), (2, S.one (.ptr 2 0)), (4, S.one (.ptr 4 0)), (9, S.one (.ptr 9 0)), (10, (zi_ (IntKind.i64.wrap (nth x9 (2 : Int)))))], [(2, (⟨true, [vi a0.ak, vi a0.au, vi a0.ay]⟩ : Reg)), (4, (⟨true, [vi (0 : Int), vu (0 : Int), vu (0 : Int), vu (0 : Int), vu (0 : Int), vu (0 : Int), vi (0 : Int), vu (0 : Int), vi (0 : Int), .nil]⟩ : Reg)), (9, (⟨true, [vi (IntKind.i64.wrap (nth x9 (0 : Int))), vu (nth x9 (3 : Int)), vu (nth (cut a1 (1 : Int) ((a1.length : Nat) : Int)) 0), vu (nth (cut a1 (1 : Int) ((a1.length : Nat) : Int)) 1), vu (nth (cut a1 (1 : Int) ((a1.length : Nat) : Int)) 2), vu (nth (cut a1 (1 : Int) ((a1.length : Nat) : Int)) 3), vi (IntKind.i64.wrap (nth x9 (1 : Int))), vu i.1, vi i.2, .nil]⟩ : Reg))]⟩ : St)) (fun i => k19 i.1 i.2 = some r) (fun i h => ?_) ?_
 obtain ⟨v17, v18⟩ := i
 rw [adi] at h; dsimp only at h
 (try dsimp)
 obtain ⟨k21, adk, h⟩ := fO h
 refine dV (α := (List aA)) (fun (i : (List aA)) => (⟨[(1, ss cO a1), (2, S.one (.ptr 2 0)), (4, S.one (.ptr 4 0)), (9, S.one (.ptr 9 0))], [(2, (⟨true, [vi a0.ak, vi a0.au, vi a0.ay]⟩ : Reg)), (4, (⟨true, [vi (0 : Int), vu (0 : Int), vu (0 : Int), vu (0 : Int), vu (0 : Int), vu (0 : Int), vi (0 : Int), vu (0 : Int), vi (0 : Int), .nil]⟩ : Reg)), (9, (⟨false, [vi (IntKind.i64.wrap (nth x9 (0 : Int))), vu (nth x9 (3 : Int)), vu (nth (cut a1 (1 : Int) ((a1.length : Nat) : Int)) 0), vu (nth (cut a1 (1 : Int) ((a1.length : Nat) : Int)) 1), vu (nth (cut a1 (1 : Int) ((a1.length : Nat) : Int)) 2), vu (nth (cut a1 (1 : Int) ((a1.length : Nat) : Int)) 3), vi (IntKind.i64.wrap (nth x9 (1 : Int))), vu v17, vi v18, .own 1112 0 i.length (some (2, 154))]⟩ : Reg)), (1112, (⟨true, flat bZ i⟩ : Reg))]⟩ : St)) (fun i => k21 i = some r) (fun i h => ?_) ?_
 let iv := i; change k21 i = some r at h; generalize i = v20 at h ⊢
 rw [adk] at h; dsimp only at h
 (try dsimp)
 apply bP
 apply Eso
 refine WQ qlA ?_
 refine WQ qlA ?_
 obtain ⟨x22, adl, h⟩ := aN h
 refine W1 (oh hP (KN F a0 (⟨(IntKind.i64.wrap (nth x9 (0 : Int))), (nth x9 (3 : Int)), (⟨(nth (cut a1 (1 : Int) ((a1.length : Nat) : Int)) 0), (nth (cut a1 (1 : Int) ((a1.length : Nat) : Int)) 1), (nth (cut a1 (1 : Int) ((a1.length : Nat) : Int)) 2), (nth (cut a1 (1 : Int) ((a1.length : Nat) : Int)) 3)⟩ : V4 Int), (⟨(IntKind.i64.wrap (nth x9 (1 : Int))), v17, v18⟩ : jf), v20⟩ : bC) x22 adl) rfl rfl) ?_
 refine WQ (dM rfl) ?_
 apply WM
 apply aC
 rfl
 intro hB; (try simp only [hB, bss, ctt]); exact aI rfl
 obtain ⟨g23, h⟩ := aV h
 apply aC
 rfl
 intro hB; (try simp only [hB, bss, ctt]); exact aX rfl rfl (g23 hB).1 (g23 hB).2
 apply aC
 rfl
 intro hB; (try simp only [hB, bss, ctt]); exact aZ (k := 1) rfl (fun _ => rfl) (g23 hB) 0 rfl rfl
 apply aC
 rfl
 intro hB; (try simp only [hB, bss, ctt]); exact aB rfl rfl rfl
 refine WQ (dS rfl rfl rfl) ?_
 refine Wk [4, 9, 124] [4, 9, 1112] ?_
 (try dsimp)
 refine Ec h rfl (fun h hc24 => ?_) (fun h hc24 => ?_)
 apply Eso
 refine WQ (bV rfl rfl) ?_
 refine W1 dst ?_
 apply WM
 refine Wk [4, 5] [4] ?_
 (try dsimp)
 refine fA (oM (q := 4) rfl).b ?_
 (try dsimp)
 apply bI
 cases h
 (try simp only [qt, qb, qn])
 refine aT (xs := _) ⟨_, _, fG rfl (by simp), rfl, rfl, ⟨_, rfl, rfl⟩⟩ ?_
 rfl
 apply bG
 refine bf [4, 9] [4, 9, 1112] ?_
 (try dsimp)
 apply Eso
 refine WQ qlA ?_
 refine W1 dst ?_
 apply WM
 refine Wk [4, 5] [4, 1112] ?_
 (try dsimp)
 refine fA (l7 (r := 1112) rfl rfl).b ?_
 (try dsimp)
 apply bI
 cases h
 (try simp only [qt, qb, qn])
 refine aT (xs := _) ⟨_, _, fG rfl (by simp), rfl, rfl, ⟨_, rfl, rfl⟩⟩ ?_
 rfl
 apply Eso
 apply WM
 apply WM
 refine Wk [1, 2, 4, 9, 86, 87] [2, 4, 9] ?_
 (try dsimp)
 apply bW
 (try dsimp)
 refine fD (α := Int × (List aA)) (fun (i : Int × (List aA)) => (⟨[(1, ss cO a1), (2, S.one (.ptr 2 0)), (4, S.one (.ptr 4 0)), (9, S.one (.ptr 9 0)), (86, (zi_ (IntKind.i64.wrap (nth x9 (2 : Int))))), (87, (zi_ i.1))], [(2, (⟨true, [vi a0.ak, vi a0.au, vi a0.ay]⟩ : Reg)), (4, (⟨true, [vi (0 : Int), vu (0 : Int), vu (0 : Int), vu (0 : Int), vu (0 : Int), vu (0 : Int), vi (0 : Int), vu (0 : Int), vi (0 : Int), .nil]⟩ : Reg)), (9, (⟨false, [vi (IntKind.i64.wrap (nth x9 (0 : Int))), vu (nth x9 (3 : Int)), vu (nth (cut a1 (1 : Int) ((a1.length : Nat) : Int)) 0), vu (nth (cut a1 (1 : Int) ((a1.length : Nat) : Int)) 1), vu (nth (cut a1 (1 : Int) ((a1.length : Nat) : Int)) 2), vu (nth (cut a1 (1 : Int) ((a1.length : Nat) : Int)) 3), vi (IntKind.i64.wrap (nth x9 (1 : Int))), vu v17, vi v18, .own 1112 0 i.2.length (some (2, 154))]⟩ : Reg)), (1112, (⟨true, flat bZ i.2⟩ : Reg))]⟩ : St)) (fun n i => jd F a1 x9 k21 n i.1 i.2 = some r) F ((0 : Int), ([] : List aA)) h ?_ (fun n i h => ?_)
 refine iZ (tN (q := 9) (j := 9) (r := 1112) 2 154 rfl rfl rfl rfl) ?_
 exact (Le.b (bK ⟨rfl, rfl, rfl, rfl, rfl, rfl, trivial⟩ ⟨rfl, rfl, rfl, rfl, trivial⟩))
 obtain ⟨v49, v50⟩ := i; dsimp only at h
 obtain _ | n51 := n
 cases h
 unfold jd at h
 (try dsimp)
 apply Eso
 refine WQ (aB rfl rfl rfl) ?_
 apply dn
 (try dsimp)
 apply bP
 refine Ec h rfl (fun h aaF => ?_) (fun h aaF => ?_)
 apply bG
 refine bf [1, 2, 4, 9, 86, 87] [2, 4, 9, 1112] ?_
 (try dsimp)
 apply bP
 apply bW
 apply Eso
 apply WM
 apply WM
 refine Wk [1, 2, 4, 9, 11, 86, 87] [2, 4, 9, 1112] ?_
 (try dsimp)
 apply Eso
 apply WM
 apply WM
 obtain ⟨g53, h⟩ := aV h
 refine WQ (nC rfl rfl g53.1 g53.2) ?_
 obtain ⟨g54, h⟩ := aV h
 refine WQ (cZ rfl rfl g54.1 g54.2) ?_
 obtain ⟨g55, h⟩ := aV h
 refine WQ (aX rfl rfl g55.1 g55.2) ?_
 refine WQ (aZ (k := 1) rfl (fun _ => rfl) g55 0 rfl rfl) ?_
 apply WM
 refine Wk [1, 2, 4, 9, 11, 12, 86, 87] [2, 4, 9, 1112] ?_
 (try dsimp)
 apply bP
 apply Eso
 apply WM
 refine WQ (aB rfl rfl rfl) ?_
 refine Wk [1, 2, 4, 9, 11, 12, 86, 87, 97] [2, 4, 9, 1112] ?_
 (try dsimp)
 refine Ec h rfl (fun h adn => ?_) (fun h adn => ?_)
 apply Eso
 refine WQ (bV rfl rfl) ?_
 refine W1 dst ?_
 apply WM
 refine Wk [4, 5] [4] ?_
 (try dsimp)
 refine fA (oM (q := 4) rfl).b ?_
 (try dsimp)
 apply bI
 cases h
 (try simp only [qt, qb, qn])
 refine aT (xs := _) ⟨_, _, fG rfl (by simp), rfl, rfl, ⟨_, rfl, rfl⟩⟩ ?_
 rfl
 apply bG
 refine bf [1, 2, 4, 9, 11, 12, 86, 87] [2, 4, 9, 1112] ?_
 (try dsimp)
 obtain ⟨g57, h⟩ := aV h
 obtain ⟨g58, h⟩ := aV h
 obtain ⟨g59, h⟩ := aV h
 obtain ⟨g60, h⟩ := aV h
 obtain ⟨g61, h⟩ := aV h
 refine iY [0, 1, 2, 3, 4, 7, 8, 9, 10, 11] ?_
 refine XQ 0 rfl rfl rfl (ah rfl rfl) ?_
 refine XQ 1 rfl rfl rfl (aj rfl rfl rfl) ?_
 refine XQ 2 rfl rfl rfl (aI rfl) ?_
 refine XQ 3 rfl rfl rfl (dF rfl) ?_
 refine XQ 4 rfl rfl rfl (aI rfl) ?_
 refine X1 rfl (XK rfl ((aI rfl).does) ?_)
 refine X1 rfl (XK rfl ((nC rfl rfl g57.1 g57.2).does) ?_)
 refine XQ 7 rfl rfl rfl (cZ rfl rfl g58.1 g58.2) ?_
 refine XQ 8 rfl rfl rfl (cZ rfl rfl g59.1 g59.2) ?_
 refine XQ 9 rfl rfl rfl (aX rfl rfl g60.1 g60.2) ?_
 refine XQ 10 rfl rfl rfl (aZ (k := 1) rfl (fun _ => rfl) g60 0 rfl rfl) ?_
 refine XQ 11 rfl rfl rfl (bV rfl rfl) ?_
 refine X1 rfl (XK rfl (dY rfl rfl rfl rfl) ?_)
 refine X1 rfl (XT rfl rfl (jc (e := bZ) rfl rfl (fun _ => rfl) (fun _ => rfl) rfl (Src.lit (e := bZ) ([(⟨(IntKind.i64.wrap (nth a1 ((8 : Int) + ((2 : Int) * v49)))), (nth a1 (((8 : Int) + ((2 : Int) * v49)) + (1 : Int)))⟩ : aA)] : List aA) rfl (fun _ => rfl) rfl rfl) g61 rfl) ?_)
 refine X1 rfl (XT rfl rfl ((ah rfl rfl).does) ?_)
 refine X1 rfl (XT rfl rfl dst ?_)
 refine ig rfl ?_
 refine bf [1, 2, 4, 9, 86, 87] [2, 4, 9, 1112] ?_
 (try dsimp)
 apply eP
 obtain ⟨g62, h⟩ := aV h
 refine WQ (cZ rfl rfl g62.1 g62.2) ?_
 apply WM
 apply dn
 refine ⟨n51, ((v49 + (1 : Int)), (v50 ++ ([(⟨(IntKind.i64.wrap (nth a1 ((8 : Int) + ((2 : Int) * v49)))), (nth a1 (((8 : Int) + ((2 : Int) * v49)) + (1 : Int)))⟩ : aA)] : List aA))), Nat.lt_succ_self _, h, ?_⟩
 exact (Le.b (bK ⟨rfl, rfl, rfl, rfl, rfl, rfl, trivial⟩ ⟨rfl, rfl, rfl, rfl, trivial⟩))
 apply gV
 refine ⟨v50, h, ?_⟩
 exact (Le.b (bK ⟨rfl, rfl, rfl, rfl, trivial⟩ ⟨rfl, rfl, rfl, rfl, trivial⟩))
 apply Eso
 refine WQ (ah rfl rfl) ?_
 refine WQ (aj rfl rfl rfl) ?_
 refine WQ (aB rfl rfl rfl) ?_
 refine Wk [1, 2, 4, 9, 10, 69] [2, 4, 9] ?_
 (try dsimp)
 refine Ec h rfl (fun h hc63 => ?_) (fun h hc63 => ?_)
 apply bP
 apply Eso
 apply WM
 obtain ⟨g64, h⟩ := aV h
 refine WQ (aX rfl rfl g64.1 g64.2) ?_
 refine WQ (aZ (k := 1) rfl (fun _ => rfl) g64 0 rfl rfl) ?_
 refine WQ (aB rfl rfl rfl) ?_
 refine Wk [1, 2, 4, 9, 10, 73] [2, 4, 9] ?_
 (try dsimp)
 refine Ec h rfl (fun h ado => ?_) (fun h ado => ?_)
 apply Eso
 refine WQ (bV rfl rfl) ?_
 refine W1 dst ?_
 apply WM
 refine Wk [4, 5] [4] ?_
 (try dsimp)
 refine fA (oM (q := 4) rfl).b ?_
 (try dsimp)
 apply bI
 cases h
 (try simp only [qt, qb, qn])
 refine aT (xs := _) ⟨_, _, fG rfl (by simp), rfl, rfl, ⟨_, rfl, rfl⟩⟩ ?_
 rfl
 apply bG
 refine bf [1, 2, 4, 9, 10] [2, 4, 9] ?_
 (try dsimp)
 obtain ⟨g66, h⟩ := aV h
 obtain ⟨g67, h⟩ := aV h
 refine iY [0, 1, 2, 3, 4, 5, 7, 8] ?_
 refine XQ 0 rfl rfl rfl (aI rfl) ?_
 refine XQ 1 rfl rfl rfl (aX rfl rfl g66.1 g66.2) ?_
 refine XQ 2 rfl rfl rfl (aZ (k := 1) rfl (fun _ => rfl) g66 0 rfl rfl) ?_
 refine XQ 3 rfl rfl rfl (aI rfl) ?_
 refine XQ 4 rfl rfl rfl (aX rfl rfl g67.1 g67.2) ?_
 refine XQ 5 rfl rfl rfl (aZ (k := 1) rfl (fun _ => rfl) g67 0 rfl rfl) ?_
 refine XQ 7 rfl rfl rfl (ah rfl rfl) ?_
 refine XQ 8 rfl rfl rfl (ah rfl rfl) ?_
 (try dsimp)
 refine X2 rfl ?_ ?_
 refine XK rfl ((dF rfl).does) ?_
 refine X1 rfl (XT rfl rfl dst ?_)
 refine X1 rfl (XT rfl rfl ((ah rfl rfl).does) ?_)
 refine X1 rfl (XT rfl rfl ((ah rfl rfl).does) ?_)
 refine X1 rfl (XT rfl rfl dst ?_)
 refine ig rfl ?_
 refine ⟨((nth a1 (5 : Int)), (IntKind.i64.wrap (nth a1 (6 : Int)))), h, ?_⟩
 exact (Le.b (bK ⟨rfl, rfl, rfl, rfl, rfl, trivial⟩ ⟨rfl, rfl, rfl, trivial⟩))
 refine XT rfl rfl dst ?_
 refine X1 rfl (XT rfl rfl ((dF rfl).does) ?_)
 refine X1 rfl (XT rfl rfl ((ah rfl rfl).does) ?_)
 refine X1 rfl (XT rfl rfl ((ah rfl rfl).does) ?_)
 refine X1 rfl (XT rfl rfl dst ?_)
 refine ig rfl ?_
 refine ⟨((nth a1 (5 : Int)), (IntKind.i64.wrap (nth a1 (6 : Int)))), h, ?_⟩
 exact (Le.b (bK ⟨rfl, rfl, rfl, rfl, rfl, trivial⟩ ⟨rfl, rfl, rfl, trivial⟩))
 apply bG
 refine ⟨((0 : Int), (0 : Int)), h, ?_⟩
 exact (Le.b (bK ⟨rfl, rfl, rfl, rfl, rfl, trivial⟩ ⟨rfl, rfl, rfl, trivial⟩))
def uN : dJ := (.seq (.ops [(o (.mv cn) 2)]) (.seq (.seq (.ops [(w 3 0), (o (.bin .eql 36 (t 3) cn) 4)]) (.cond (t 4) (.seq (.ops [(o (.mv cn) 2)]) .ret) .skip)) (.seq (.ops [(o (.kK 1 42 0 [] []) 5), (w 6 0), (o (.app 36 42 1 8 (t 5) (t 6)) 7), (w 2 7)]) .ret)))
theorem AX : Fits Tryz.prog 83 1 uN [(.tmp 2)] := cu Tryz.func83 (by kernel_rfl) (by kernel_rfl) (by kernel_rfl)
theorem zQ (l : List Int) (g : l.length * 8 ≤ 140737488355328) : OC Tryz.prog 83 [S.one (.sl (flat cO l) l.length)] 1 42 l.length (flat cO l) := by
 unfold OC
 refine qW AX rfl ?_
 intro C hP
 unfold uN; dsimp
 refine bP ?_
 refine eP ?_
 refine WQ (aI rfl) ?_
 refine dn ?_
 dsimp only [zq, yX, Nat.reduceBEq, cond_true, cond_false]
 refine bf [0] [] ?_
 dsimp
 refine bP ?_
 refine bP ?_
 refine eP ?_
 refine WQ (aI rfl) ?_
 refine YT (TI (e := 42) (by rw [hP]; exact Tryz.underlying36) rfl rfl) ?_
 rintro s' ⟨b, rfl, hb⟩
 refine dn ?_
 dsimp only [zq, yX, Nat.reduceBEq, cond_true, cond_false]
 refine bf [0, 4] [] ?_
 dsimp
 refine Kv rfl (fun hc => ?_) (fun hc => ?_)
 refine bP ?_
 refine eP ?_
 refine WQ (aI rfl) ?_
 refine dn ?_
 dsimp only [zq, yX, Nat.reduceBEq, cond_true, cond_false]
 refine bf [2] [] ?_
 dsimp
 obtain rfl : l = [] := List.eq_nil_of_length_eq_zero (hb hc)
 refine fA (sV (i := 2) (r := 5) 1 42 rfl rfl) ?_
 dsimp
 refine bI ?_
 (try dsimp only [zq, yX, Nat.reduceBEq, cond_true, cond_false])
 refine aT (xs := _) ⟨_, rfl, rfl⟩ ?_
 exact ⟨5, rfl, rfl⟩
 refine bG ?_
 dsimp only [zq, yX, Nat.reduceBEq, cond_true, cond_false]
 refine bf [0] [] ?_
 dsimp
 refine bP ?_
 refine eP ?_
 refine W1 (dY rfl rfl rfl rfl) ?_
 refine WQ (aI rfl) ?_
 refine YV (mM (r := 5) (g' := ⟨true, flat cO ([] : List Int)⟩) rfl rfl).b ?_
 dsimp
 refine W1 (jc (e := cO) (l := ([] : List Int)) rfl rfl (fun _ => rfl) (fun _ => rfl) rfl (Src.slF l (fun _ => rfl)) (by simpa using g) rfl) ?_
 refine WQ (aI rfl) ?_
 refine dn ?_
 dsimp only [zq, yX, Nat.reduceBEq, cond_true, cond_false]
 refine bf [2] [5] ?_
 dsimp
 refine bI ?_
 (try dsimp only [zq, yX, Nat.reduceBEq, cond_true, cond_false])
 refine aT (xs := _) ⟨_, rfl, rfl⟩ ?_
 exact ⟨5, rfl, rfl⟩
def Nw : dJ := (.seq (.ops [(o (.mv cn) 4)]) (.seq (.ops [(w 8 0), (o (.call 83 [(t 8)]) 9), (w 5 9)]) (.seq (.seq (.ops [(w 10 1), (o (.len false (t 10)) 11), (o (.mv (ci 0)) 12)]) (.block 0 (.loop (.seq (.ops [(o (.bin .lss 3 (t 12) (t 11)) 13)]) (.seq (.cond (t 13) .skip (.exit 0)) (.seq (.block 1 (.seq (.ops [(o (.gJ 2 (t 10) (t 12)) 14), (o (.load true 2 (t 14)) 15), (o (.jR [zi, zu]) 7), (n_ (.store 2 (t 7) (t 15)))]) (.seq (.ops [(o (.add 0 (t 7)) 16), (o (.load false 1 (t 16)) 17), (o (.bin .geq 3 (t 17) (ci 0)) 18), (w 19 18), (g_ (.add 0 (t 7)) 20 19 true), (g_ (.load false 1 (t 20)) 21 19 true), (g_ (.mv (t 5)) 22 19 true), (g_ (.len false (t 22)) 23 19 true), (g_ (.bin .lss 3 (t 21) (t 23)) 24 19 true), (o (.pick (t 19) (t 24) (cb false)) 25)]) (.cond (t 25) (.ops [(w 26 5), (o (.add 0 (t 7)) 27), (o (.load false 1 (t 27)) 28), (o (.add 1 (t 7)) 29), (o (.load false 1 (t 29)) 30), (o (.gJ 1 (t 26) (t 28)) 31), (n_ (.store 1 (t 31) (t 30)))]) .skip)))) (.ops [(o (.bin .add 3 (t 12) (ci 1)) 32), (w 12 32)]))))))) (.seq (.ops [(w 33 5), (w 4 33)]) .ret))))
theorem VD : Fits Tryz.prog 53 2 Nw [(.tmp 4)] := cu Tryz.func53 (by kernel_rfl) (by kernel_rfl) (by kernel_rfl)
theorem Ny (F : Nat) (a0 : (List Int)) (a1 : (List aA)) (r : (List Int)) (h : uT F a0 a1 = some r) : PC Tryz.prog 53 [ss cO a0, ss bZ a1] (ss cO r) := by
 unfold uT at h
 refine fC VD rfl rfl ?_
 intro C hP
 unfold Nw; dsimp
 apply Eso
 apply WM
 refine Wk [0, 1] [] ?_
 (try dsimp)
 apply Eso
 apply WM
 obtain ⟨g1, h⟩ := aV h
 refine W1 (TJ hP (zQ a0 g1) rfl rfl rfl) ?_
 apply WM
 refine Wk [1, 5] [9] ?_
 (try dsimp)
 obtain ⟨k3, k3d, h⟩ := fO h
 refine dV (α := (List Int)) (fun (i : (List Int)) => (⟨[(5, S.one (.own 9 0 i.length (some (1, 42))))], [(9, (⟨true, flat cO i⟩ : Reg))]⟩ : St)) (fun i => k3 i = some r) (fun i h => ?_) ?_
 let iv := i; change k3 i = some r at h; generalize i = v2 at h ⊢
 rw [k3d] at h; dsimp only at h
 (try dsimp)
 apply Eso
 apply WM
 apply WM
 refine Wk [4] [9] ?_
 (try dsimp)
 refine fA (l7 (r := 9) rfl rfl).b ?_
 (try dsimp)
 apply bI
 cases h
 (try simp only [qt, qb, qn])
 refine aT (xs := _) ⟨_, rfl, rfl⟩ ?_
 rfl
 apply Eso
 apply WM
 refine WQ (bM rfl) ?_
 apply WM
 refine Wk [5, 10, 11, 12] [9] ?_
 (try dsimp)
 apply bW
 (try dsimp)
 refine fD (α := Int × (List Int)) (fun (i : Int × (List Int)) => (⟨[(5, S.one (.own 9 0 i.2.length (some (1, 42)))), (10, ss bZ a1), (11, (zi_ ((a1.length : Nat) : Int))), (12, (zi_ i.1))], [(9, (⟨true, flat cO i.2⟩ : Reg))]⟩ : St)) (fun n i => nI F a1 k3 n i.1 i.2 = some r) F ((0 : Int), a0) h ?_ (fun n i h => ?_)
 exact (Le.b (bK ⟨rfl, rfl, rfl, rfl, trivial⟩ ⟨rfl, trivial⟩))
 obtain ⟨v20, v21⟩ := i; dsimp only at h
 obtain _ | n22 := n
 cases h
 unfold nI at h
 (try dsimp)
 apply Eso
 refine WQ (aB rfl rfl rfl) ?_
 apply dn
 (try dsimp)
 apply bP
 refine Ec h rfl (fun h aaE => ?_) (fun h aaE => ?_)
 apply bG
 refine bf [5, 10, 11, 12] [9] ?_
 (try dsimp)
 obtain ⟨k25, adp, h⟩ := fO h
 refine dV (α := (List Int)) (fun (i : (List Int)) => (⟨[(5, S.one (.own 9 0 i.length (some (1, 42)))), (10, ss bZ a1), (11, (zi_ ((a1.length : Nat) : Int))), (12, (zi_ v20))], [(9, (⟨true, flat cO i⟩ : Reg))]⟩ : St)) (fun i => k25 i = some r) (fun i h => ?_) ?_
 let iv := i; change k25 i = some r at h; generalize i = v24 at h ⊢
 rw [adp] at h; dsimp only at h
 (try dsimp)
 apply eP
 obtain ⟨g26, h⟩ := aV h
 refine WQ (cZ rfl rfl g26.1 g26.2) ?_
 apply WM
 apply dn
 refine ⟨n22, ((v20 + (1 : Int)), v24), Nat.lt_succ_self _, h, ?_⟩
 exact (Le.b (bK ⟨rfl, rfl, rfl, rfl, trivial⟩ ⟨rfl, trivial⟩))
 apply bW
 apply Eso
 obtain ⟨g27, h⟩ := aV h
 refine WQ (aX rfl rfl g27.1 g27.2) ?_
 refine WQ (dX (k := 2) rfl (fun _ => rfl) g27 0 rfl rfl rfl) ?_
 refine W1 (dw rfl rfl) ?_
 refine W1 dst ?_
 refine Wk [5, 7, 10, 11, 12] [7, 9] ?_
 (try dsimp)
 apply Eso
 refine WQ (ah rfl rfl) ?_
 refine WQ (aj rfl rfl rfl) ?_
 refine WQ (aB rfl rfl rfl) ?_
 apply WM
 apply aC
 rfl
 intro hB; (try simp only [hB, bss, ctt]); exact ah rfl rfl
 apply aC
 rfl
 intro hB; (try simp only [hB, bss, ctt]); exact aj rfl rfl rfl
 apply aC
 rfl
 intro hB; (try simp only [hB, bss, ctt]); exact aI rfl
 apply aC
 rfl
 intro hB; (try simp only [hB, bss, ctt]); exact kE rfl rfl
 apply aC
 rfl
 intro hB; (try simp only [hB, bss, ctt]); exact aB rfl rfl rfl
 refine WQ (dK rfl rfl rfl) ?_
 refine Wk [5, 7, 10, 11, 12, 25] [7, 9] ?_
 (try dsimp)
 refine Ec h rfl (fun h hc28 => ?_) (fun h hc28 => ?_)
 apply eP
 apply WM
 refine WQ (ah rfl rfl) ?_
 refine WQ (aj rfl rfl rfl) ?_
 refine WQ (ah rfl rfl) ?_
 refine WQ (aj rfl rfl rfl) ?_
 obtain ⟨g29, h⟩ := aV h
 refine WQ (fZ rfl rfl rfl g29.1 g29.2) ?_
 refine W1 (eU (e := cO) (n := 1) (k := 1) rfl rfl (fun _ => rfl) g29 0 (by omega) rfl rfl rfl (by decide) ((nth a1 v20).xV) rfl (by decide) rfl) ?_
 apply dn
 refine ⟨(jl v21 ((nth a1 v20).xAt) ((nth a1 v20).xV)), h, ?_⟩
 refine iZ (mV (i := 5) _ rfl (by simp [aG, aP, aH] : v21.length = (jl v21 ((nth a1 v20).xAt) ((nth a1 v20).xV)).length)).b ?_
 exact (Le.b (bK ⟨rfl, rfl, rfl, rfl, trivial⟩ ⟨rfl, trivial⟩))
 apply bG
 refine ⟨v21, h, ?_⟩
 exact (Le.b (bK ⟨rfl, rfl, rfl, rfl, trivial⟩ ⟨rfl, trivial⟩))
 apply gV
 refine ⟨v21, h, ?_⟩
 exact (Le.b (bK ⟨rfl, trivial⟩ ⟨rfl, trivial⟩))
def KP : dJ := (.seq (.ops [(o (.mv (.const (.int .u64 0))) 4)]) (.seq (.ops [(w 8 1), (o (.call 159 [(t 8)]) 9), (w 7 9), (o (.ext 0 (t 7)) 10), (o (.ext 1 (t 7)) 11), (w 5 10), (w 6 11)]) (.seq (.ops [(w 12 0), (w 13 5), (o (.bin .andNot 42 (t 12) (t 13)) 14), (w 4 14)]) .ret)))
theorem TK : Fits Tryz.prog 124 2 KP [(.tmp 4)] := cu Tryz.func124 (by kernel_rfl) (by kernel_rfl) (by kernel_rfl)
theorem TL (F : Nat) (a0 : Int) (a1 : (List aU)) (r : Int) (h : xJ F a0 a1 = some r) : PC Tryz.prog 124 [(zu_ a0), ss iH a1] (zu_ r) := by
 unfold xJ at h
 refine fC TK rfl rfl ?_
 intro C hP
 unfold KP; dsimp
 apply Eso
 apply WM
 refine Wk [0, 1] [] ?_
 (try dsimp)
 apply Eso
 apply WM
 obtain ⟨x1, x1h, h⟩ := aN h
 refine W1 (aF hP (Np F a1 x1 x1h) rfl rfl rfl) ?_
 apply WM
 refine WQ (bD rfl rfl) ?_
 refine WQ (bD rfl rfl) ?_
 apply WM
 apply WM
 refine Wk [0, 5] [] ?_
 (try dsimp)
 apply Eso
 apply WM
 apply WM
 refine WQ (aB rfl rfl rfl) ?_
 apply WM
 refine Wk [4] [] ?_
 (try dsimp)
 apply bI
 cases h
 (try simp only [qt, qb, qn])
 refine aT (xs := _) ⟨_, rfl, rfl⟩ ?_
 rfl
def Nz : dJ := (.seq (.ops [(o (.jR [zi, zi, zi, zi]) 2), (o (.mv (cb false)) 3)]) (.seq (.ops [(w 6 0), (o (.call 99 []) 7), (o (.call 106 [(t 6), (t 7)]) 8), (w 4 8)]) (.seq (.draw [((w 9 4), []), ((o (.gJ 1 (t 9) (ci 0)) 10), [0]), ((o (.load false 1 (t 10)) 11), [1]), ((o (.jF .i64 (t 11)) 12), [2]), ((w 13 4), []), ((o (.gJ 1 (t 13) (ci 3)) 14), [4]), ((o (.load false 1 (t 14)) 15), [5]), ((o (.jF .i64 (t 15)) 16), [6]), ((w 17 4), []), ((o (.gJ 1 (t 17) (ci 1)) 18), [8]), ((o (.load false 1 (t 18)) 19), [9]), ((o (.jF .i64 (t 19)) 20), [10]), ((w 21 4), []), ((o (.gJ 1 (t 21) (ci 2)) 22), [12]), ((o (.load false 1 (t 22)) 23), [13]), ((o (.jF .i64 (t 23)) 24), [14]), ((o (.build [zi, zi, zi, zi] [(0, (1, (t 12))), (1, (1, (t 16))), (2, (1, (t 20))), (3, (1, (t 24)))]) 25), [3, 7, 11, 15]), ((o (.jR [zi, zi, zi, zi]) 5), []), ((n_ (.store 4 (t 5) (t 25))), [17, 16, 0, 1, 2, 3, 4, 5, 6, 7, 8, 9, 10, 11, 12, 13, 14, 15, 16, 17])]) (.seq (.seq (.ops [(w 26 0), (o (.call 99 []) 27), (o (.call 124 [(t 26), (t 27)]) 28), (o (.bin .neq 42 (t 28) (.const (.int .u64 0))) 29), (w 30 29), (g_ (.load true 4 (t 5)) 31 30 false), (g_ (.call 97 [(t 31)]) 32 30 false), (g_ (.un .not (t 32)) 33 30 false), (o (.pick (t 30) (cb true) (t 33)) 34)]) (.cond (t 34) (.seq (.ops [(o (.build [zi, zi, zi, zi] []) 35), (n_ (.store 4 (t 2) (t 35))), (o (.mv (cb false)) 3)]) .ret) .skip)) (.seq (.ops [(o (.load true 4 (t 5)) 36), (n_ (.store 4 (t 2) (t 36))), (o (.mv (cb true)) 3)]) .ret)))))
theorem VE : Fits Tryz.prog 84 1 Nz [(.cell true 4 2), (.tmp 3)] := cu Tryz.func84 (by kernel_rfl) (by kernel_rfl) (by kernel_rfl)
theorem VF (F : Nat) (a0 : Int) (r : eG × Bool) (h : ru F a0 = some r) : PC Tryz.prog 84 [(zu_ a0)] (S.tup [S.agg [vi r.1.xType, vi r.1.iO, vi r.1.kL, vi r.1.gX], (zb_ r.2)]) := by
 unfold ru at h
 refine fC VE rfl rfl ?_
 intro C hP
 unfold Nz; dsimp
 apply Eso
 refine W1 (dw rfl rfl) ?_
 apply WM
 refine Wk [0, 2] [2] ?_
 (try dsimp)
 apply Eso
 apply WM
 obtain ⟨x1, x1h, h⟩ := aN h
 refine W1 (aF hP (wV F  x1 x1h) rfl rfl rfl) ?_
 obtain ⟨x2, x2h, h⟩ := aN h
 refine W1 (aF hP (C9 F a0 x1 x2 x2h) rfl rfl rfl) ?_
 apply WM
 refine Wk [0, 2, 4] [2] ?_
 (try dsimp)
 apply bP
 obtain ⟨g3, h⟩ := aV h
 obtain ⟨g4, h⟩ := aV h
 obtain ⟨g5, h⟩ := aV h
 obtain ⟨g6, h⟩ := aV h
 refine iY [0, 1, 2, 3, 4, 5, 6, 7, 8, 9, 10, 11, 12, 13, 14, 15, 16] ?_
 refine XQ 0 rfl rfl rfl (aI rfl) ?_
 refine XQ 1 rfl rfl rfl (aX rfl rfl g3.1 g3.2) ?_
 refine XQ 2 rfl rfl rfl (aZ (k := 1) rfl (fun _ => rfl) g3 0 rfl rfl) ?_
 refine XQ 3 rfl rfl rfl (dF rfl) ?_
 refine XQ 4 rfl rfl rfl (aI rfl) ?_
 refine XQ 5 rfl rfl rfl (aX rfl rfl g4.1 g4.2) ?_
 refine XQ 6 rfl rfl rfl (aZ (k := 1) rfl (fun _ => rfl) g4 0 rfl rfl) ?_
 refine XQ 7 rfl rfl rfl (dF rfl) ?_
 refine XQ 8 rfl rfl rfl (aI rfl) ?_
 refine XQ 9 rfl rfl rfl (aX rfl rfl g5.1 g5.2) ?_
 refine XQ 10 rfl rfl rfl (aZ (k := 1) rfl (fun _ => rfl) g5 0 rfl rfl) ?_
 refine XQ 11 rfl rfl rfl (dF rfl) ?_
 refine XQ 12 rfl rfl rfl (aI rfl) ?_
 refine XQ 13 rfl rfl rfl (aX rfl rfl g6.1 g6.2) ?_
 refine XQ 14 rfl rfl rfl (aZ (k := 1) rfl (fun _ => rfl) g6 0 rfl rfl) ?_
 refine XQ 15 rfl rfl rfl (dF rfl) ?_
 refine XQ 16 rfl rfl rfl (bV rfl rfl) ?_
 (try dsimp)
 refine X1 rfl (XK rfl (dw rfl rfl) ?_)
 refine X1 rfl (XT rfl rfl dst ?_)
 refine ig rfl ?_
 refine bf [0, 2, 5] [2, 5] ?_
 (try dsimp)
 apply bP
 apply Eso
 apply WM
 obtain ⟨x7, x7h, h⟩ := aN h
 refine W1 (aF hP (wV F  x7 x7h) rfl rfl rfl) ?_
 obtain ⟨x8, x8h, h⟩ := aN h
 refine W1 (aF hP (TL F a0 x7 x8 x8h) rfl rfl rfl) ?_
 refine WQ (aB rfl rfl rfl) ?_
 apply WM
 apply aC
 rfl
 intro hB; (try simp only [hB, bss, ctt]); exact qlA
 obtain ⟨x9, x9h, h⟩ := aN h
 apply jk
 rfl
 intro hB; (try simp only [hB, bss, ctt]); exact aF hP (Ef F (⟨(IntKind.i64.wrap (nth x2 (0 : Int))), (IntKind.i64.wrap (nth x2 (3 : Int))), (IntKind.i64.wrap (nth x2 (1 : Int))), (IntKind.i64.wrap (nth x2 (2 : Int)))⟩ : eG) x9 (jW x9h (bt hB))) rfl rfl rfl
 apply aC
 rfl
 intro hB; (try simp only [hB, bss, ctt]); exact dM rfl
 refine WQ (dS rfl rfl rfl) ?_
 refine Wk [2, 5, 34] [2, 5] ?_
 (try dsimp)
 refine Ec h rfl (fun h TD => ?_) (fun h TD => ?_)
 apply Eso
 refine WQ (bV rfl rfl) ?_
 refine W1 dst ?_
 apply WM
 refine Wk [2, 3] [2] ?_
 (try dsimp)
 apply bI
 cases h
 (try simp only [qt, qb, qn])
 refine aT (xs := _) ⟨_, _, fG rfl (by simp), rfl, rfl, ⟨_, rfl, rfl⟩⟩ ?_
 rfl
 apply bG
 refine bf [2, 5] [2, 5] ?_
 (try dsimp)
 apply Eso
 refine WQ qlA ?_
 refine W1 dst ?_
 apply WM
 refine Wk [2, 3] [2] ?_
 (try dsimp)
 apply bI
 cases h
 (try simp only [qt, qb, qn])
 refine aT (xs := _) ⟨_, _, fG rfl (by simp), rfl, rfl, ⟨_, rfl, rfl⟩⟩ ?_
 rfl
def Io : dJ := (.seq (.ops [(o (.jR [zi, zi, zi, zi, zi, zi, zi, zb, zu, zu, zu, zu, zu]) 2), (o (.mv (cb false)) 3)]) (.seq (.seq (.ops [(w 7 0), (o (.len false (t 7)) 8), (o (.bin .neq 3 (t 8) (ci 8)) 9)]) (.cond (t 9) (.seq (.ops [(o (.build [zi, zi, zi, zi, zi, zi, zi, zb, zu, zu, zu, zu, zu] []) 10), (n_ (.store 13 (t 2) (t 10))), (o (.mv (cb false)) 3)]) .ret) .skip)) (.seq (.draw [((w 11 0), []), ((o (.gJ 1 (t 11) (ci 0)) 12), [0]), ((o (.load false 1 (t 12)) 13), [1]), ((o (.call 100 []) 14), []), ((o (.call 106 [(t 13), (t 14)]) 15), [2, 3, 3]), ((w 16 0), []), ((o (.gJ 1 (t 16) (ci 1)) 17), [5]), ((o (.load false 1 (t 17)) 18), [6]), ((o (.call 101 []) 19), [4]), ((o (.call 106 [(t 18), (t 19)]) 20), [7, 8, 8]), ((w 4 15), [4, 9, 0, 1, 2, 3, 4]), ((w 5 20), [9, 10, 0, 1, 2, 3, 4, 5, 6, 7, 8, 9, 10])]) (.seq (.draw [((w 21 4), []), ((o (.gJ 1 (t 21) (ci 0)) 22), [0]), ((o (.load false 1 (t 22)) 23), [1]), ((o (.jF .i64 (t 23)) 24), [2]), ((w 25 4), []), ((o (.gJ 1 (t 25) (ci 1)) 26), [4]), ((o (.load false 1 (t 26)) 27), [5]), ((o (.jF .i64 (t 27)) 28), [6]), ((w 29 4), []), ((o (.gJ 1 (t 29) (ci 2)) 30), [8]), ((o (.load false 1 (t 30)) 31), [9]), ((o (.jF .i64 (t 31)) 32), [10]), ((w 33 4), []), ((o (.gJ 1 (t 33) (ci 3)) 34), [12]), ((o (.load false 1 (t 34)) 35), [13]), ((o (.bin .eql 42 (t 35) (.const (.int .u64 1))) 36), [14]), ((w 37 4), []), ((o (.gJ 1 (t 37) (ci 4)) 38), [16]), ((o (.load false 1 (t 38)) 39), [17]), ((o (.jF .i64 (t 39)) 40), [18]), ((w 41 5), []), ((o (.gJ 1 (t 41) (ci 0)) 42), [20]), ((o (.load false 1 (t 42)) 43), [21]), ((o (.jF .i64 (t 43)) 44), [22]), ((w 45 5), []), ((o (.gJ 1 (t 45) (ci 1)) 46), [24]), ((o (.load false 1 (t 46)) 47), [25]), ((o (.jF .i64 (t 47)) 48), [26]), ((w 49 5), []), ((o (.gJ 1 (t 49) (ci 2)) 50), [28]), ((o (.load false 1 (t 50)) 51), [29]), ((o (.jF .i64 (t 51)) 52), [30]), ((w 53 0), []), ((o (.gJ 1 (t 53) (ci 2)) 54), [32]), ((o (.load false 1 (t 54)) 55), [33]), ((o (.build [zi, zi, zi, zi, zi, zi, zi, zb, zu, zu, zu, zu, zu] [(0, (1, (t 24))), (1, (1, (t 28))), (2, (1, (t 32))), (7, (1, (t 36))), (5, (1, (t 40))), (3, (1, (t 44))), (4, (1, (t 48))), (6, (1, (t 52))), (8, (1, (t 55)))]) 56), [3, 7, 11, 15, 19, 23, 27, 31, 34]), ((o (.jR [zi, zi, zi, zi, zi, zi, zi, zb, zu, zu, zu, zu, zu]) 6), []), ((n_ (.store 13 (t 6) (t 56))), [36, 35, 0, 1, 2, 3, 4, 5, 6, 7, 8, 9, 10, 11, 12, 13, 14, 15, 16, 17, 18, 19, 20, 21, 22, 23, 24, 25, 26, 27, 28, 29, 30, 31, 32, 33, 34, 35, 36])]) (.seq (.draw [((o (.add 9 (t 6)) 57), []), ((o (.QF 1 4 (t 57) .none .none) 58), [0]), ((w 59 0), []), ((o (.slc 1 (t 59) (.some (ci 3)) .none .none) 60), [2]), ((o (.copy 1 (t 58) (t 60)) 61), [1, 3])]) (.seq (.seq (.ops [(o (.load true 13 (t 6)) 62), (o (.call 62 [(t 62)]) 63), (w 64 0), (o (.call 105 [(t 63), (t 64)]) 65), (o (.un .not (t 65)) 66)]) (.cond (t 66) (.seq (.ops [(o (.build [zi, zi, zi, zi, zi, zi, zi, zb, zu, zu, zu, zu, zu] []) 67), (n_ (.store 13 (t 2) (t 67))), (o (.mv (cb false)) 3)]) .ret) .skip)) (.seq (.ops [(o (.load true 13 (t 6)) 68), (n_ (.store 13 (t 2) (t 68))), (o (.mv (cb true)) 3)]) .ret)))))))
theorem QN : Fits Tryz.prog 85 1 Io [(.cell true 13 2), (.tmp 3)] := cu Tryz.func85 (by kernel_rfl) (by kernel_rfl) (by kernel_rfl)
theorem QO (F : Nat) (a0 : (List Int)) (r : aJ × Bool) (h : kM F a0 = some r) : PC Tryz.prog 85 [ss cO a0] (S.tup [S.agg [vi r.1.xType, vi r.1.jw, vi r.1.jJ, vi r.1.mQ, vi r.1.nT, vi r.1.fE, vi r.1.gX, vb r.1.qC, vu r.1.lH, vu r.1.dH.c0, vu r.1.dH.c1, vu r.1.dH.c2, vu r.1.dH.c3], (zb_ r.2)]) := by
 unfold kM at h
 refine fC QN rfl rfl ?_
 intro C hP
 unfold Io; dsimp
 apply Eso
 refine W1 (dw rfl rfl) ?_
 apply WM
 refine Wk [0, 2] [2] ?_
 (try dsimp)
 apply bP
 apply Eso
 apply WM
 refine WQ (bM rfl) ?_
 refine WQ (aB rfl rfl rfl) ?_
 refine Wk [0, 2, 9] [2] ?_
 (try dsimp)
 refine Ec h rfl (fun h hc1 => ?_) (fun h hc1 => ?_)
 apply Eso
 refine WQ (bV rfl rfl) ?_
 refine W1 dst ?_
 apply WM
 refine Wk [2, 3] [2] ?_
 (try dsimp)
 apply bI
 cases h
 (try simp only [qt, qb, qn])
 refine aT (xs := _) ⟨_, _, fG rfl (by simp), rfl, rfl, ⟨_, rfl, rfl⟩⟩ ?_
 rfl
 apply bG
 refine bf [0, 2] [2] ?_
 (try dsimp)
 apply bP
 obtain ⟨g2, h⟩ := aV h
 obtain ⟨x3, x3h, h⟩ := aN h
 obtain ⟨x4, x4h, h⟩ := aN h
 obtain ⟨g5, h⟩ := aV h
 obtain ⟨x6, x6h, h⟩ := aN h
 obtain ⟨x7, x7h, h⟩ := aN h
 refine iY [0, 1, 2, 5, 6, 7, 10, 11] ?_
 refine XQ 0 rfl rfl rfl (aI rfl) ?_
 refine XQ 1 rfl rfl rfl (aX rfl rfl g2.1 g2.2) ?_
 refine XQ 2 rfl rfl rfl (aZ (k := 1) rfl (fun _ => rfl) g2 0 rfl rfl) ?_
 refine XQ 5 rfl rfl rfl (aI rfl) ?_
 refine XQ 6 rfl rfl rfl (aX rfl rfl g5.1 g5.2) ?_
 refine XQ 7 rfl rfl rfl (aZ (k := 1) rfl (fun _ => rfl) g5 0 rfl rfl) ?_
 refine X1 rfl (XK rfl (aF hP (yS F  x3 x3h) rfl rfl rfl) ?_)
 refine X1 rfl (XK rfl (aF hP (C9 F (nth a0 (0 : Int)) x3 x4 x4h) rfl rfl rfl) ?_)
 refine X1 rfl (XK rfl (aF hP (yT F  x6 x6h) rfl rfl rfl) ?_)
 refine X1 rfl (XK rfl (aF hP (C9 F (nth a0 (1 : Int)) x6 x7 x7h) rfl rfl rfl) ?_)
 refine XQ 10 rfl rfl rfl (aI rfl) ?_
 refine XQ 11 rfl rfl rfl (aI rfl) ?_
 refine ig rfl ?_
 refine bf [0, 2, 4, 5] [2] ?_
 (try dsimp)
 apply bP
 obtain ⟨g8, h⟩ := aV h
 obtain ⟨g9, h⟩ := aV h
 obtain ⟨g10, h⟩ := aV h
 obtain ⟨g11, h⟩ := aV h
 obtain ⟨g12, h⟩ := aV h
 obtain ⟨g13, h⟩ := aV h
 obtain ⟨g14, h⟩ := aV h
 obtain ⟨g15, h⟩ := aV h
 obtain ⟨g16, h⟩ := aV h
 refine iY [0, 1, 2, 3, 4, 5, 6, 7, 8, 9, 10, 11, 12, 13, 14, 15, 16, 17, 18, 19, 20, 21, 22, 23, 24, 25, 26, 27, 28, 29, 30, 31, 32, 33, 34, 35] ?_
 refine XQ 0 rfl rfl rfl (aI rfl) ?_
 refine XQ 1 rfl rfl rfl (aX rfl rfl g8.1 g8.2) ?_
 refine XQ 2 rfl rfl rfl (aZ (k := 1) rfl (fun _ => rfl) g8 0 rfl rfl) ?_
 refine XQ 3 rfl rfl rfl (dF rfl) ?_
 refine XQ 4 rfl rfl rfl (aI rfl) ?_
 refine XQ 5 rfl rfl rfl (aX rfl rfl g9.1 g9.2) ?_
 refine XQ 6 rfl rfl rfl (aZ (k := 1) rfl (fun _ => rfl) g9 0 rfl rfl) ?_
 refine XQ 7 rfl rfl rfl (dF rfl) ?_
 refine XQ 8 rfl rfl rfl (aI rfl) ?_
 refine XQ 9 rfl rfl rfl (aX rfl rfl g10.1 g10.2) ?_
 refine XQ 10 rfl rfl rfl (aZ (k := 1) rfl (fun _ => rfl) g10 0 rfl rfl) ?_
 refine XQ 11 rfl rfl rfl (dF rfl) ?_
 refine XQ 12 rfl rfl rfl (aI rfl) ?_
 refine XQ 13 rfl rfl rfl (aX rfl rfl g11.1 g11.2) ?_
 refine XQ 14 rfl rfl rfl (aZ (k := 1) rfl (fun _ => rfl) g11 0 rfl rfl) ?_
 refine XQ 15 rfl rfl rfl (aB rfl rfl rfl) ?_
 refine XQ 16 rfl rfl rfl (aI rfl) ?_
 refine XQ 17 rfl rfl rfl (aX rfl rfl g12.1 g12.2) ?_
 refine XQ 18 rfl rfl rfl (aZ (k := 1) rfl (fun _ => rfl) g12 0 rfl rfl) ?_
 refine XQ 19 rfl rfl rfl (dF rfl) ?_
 refine XQ 20 rfl rfl rfl (aI rfl) ?_
 refine XQ 21 rfl rfl rfl (aX rfl rfl g13.1 g13.2) ?_
 refine XQ 22 rfl rfl rfl (aZ (k := 1) rfl (fun _ => rfl) g13 0 rfl rfl) ?_
 refine XQ 23 rfl rfl rfl (dF rfl) ?_
 refine XQ 24 rfl rfl rfl (aI rfl) ?_
 refine XQ 25 rfl rfl rfl (aX rfl rfl g14.1 g14.2) ?_
 refine XQ 26 rfl rfl rfl (aZ (k := 1) rfl (fun _ => rfl) g14 0 rfl rfl) ?_
 refine XQ 27 rfl rfl rfl (dF rfl) ?_
 refine XQ 28 rfl rfl rfl (aI rfl) ?_
 refine XQ 29 rfl rfl rfl (aX rfl rfl g15.1 g15.2) ?_
 refine XQ 30 rfl rfl rfl (aZ (k := 1) rfl (fun _ => rfl) g15 0 rfl rfl) ?_
 refine XQ 31 rfl rfl rfl (dF rfl) ?_
 refine XQ 32 rfl rfl rfl (aI rfl) ?_
 refine XQ 33 rfl rfl rfl (aX rfl rfl g16.1 g16.2) ?_
 refine XQ 34 rfl rfl rfl (aZ (k := 1) rfl (fun _ => rfl) g16 0 rfl rfl) ?_
 refine XQ 35 rfl rfl rfl (bV rfl rfl) ?_
 (try dsimp)
 refine X1 rfl (XK rfl (dw rfl rfl) ?_)
 refine X1 rfl (XT rfl rfl dst ?_)
 refine ig rfl ?_
 refine bf [0, 2, 6] [2, 6] ?_
 (try dsimp)
 apply bP
 obtain ⟨g17, h⟩ := aV h
 obtain ⟨g18, h⟩ := aV h
 refine iY [0, 1, 2, 3] ?_
 refine XQ 0 rfl rfl rfl (ah rfl rfl) ?_
 refine XQ 1 rfl rfl rfl (rX rfl rfl rfl rfl (by decide) (by decide) (by decide) (List.cons_ne_nil _ _)) ?_
 refine XQ 2 rfl rfl rfl (aI rfl) ?_
 refine XQ 3 rfl rfl rfl (nM rfl (fun _ => rfl) rfl rfl g17.1 g17.2.1 g17.2.2) ?_
 refine X1 rfl (XT rfl rfl (KO (lit := [vu (nth (cut a0 (3 : Int) ((a0.length : Nat) : Int)) 0), vu (nth (cut a0 (3 : Int) ((a0.length : Nat) : Int)) 1), vu (nth (cut a0 (3 : Int) ((a0.length : Nat) : Int)) 2), vu (nth (cut a0 (3 : Int) ((a0.length : Nat) : Int)) 3)]) rfl rfl (fun _ => rfl) (fun _ => rfl) rfl (Src.slF (cut a0 (3 : Int) ((a0.length : Nat) : Int)) (fun _ => rfl)) (Nat.le_of_ble_eq_true rfl) g18 rfl) ?_)
 refine ig rfl ?_
 refine bf [0, 2, 6] [2, 6] ?_
 (try dsimp)
 apply bP
 apply Eso
 refine WQ qlA ?_
 obtain ⟨x19, adq, h⟩ := aN h
 refine W1 (aF hP (Ie F (⟨(IntKind.i64.wrap (nth x4 (0 : Int))), (IntKind.i64.wrap (nth x4 (1 : Int))), (IntKind.i64.wrap (nth x4 (2 : Int))), (IntKind.i64.wrap (nth x7 (0 : Int))), (IntKind.i64.wrap (nth x7 (1 : Int))), (IntKind.i64.wrap (nth x4 (4 : Int))), (IntKind.i64.wrap (nth x7 (2 : Int))), ((nth x4 (3 : Int)) == (1 : Int)), (nth a0 (2 : Int)), (⟨(nth (cut a0 (3 : Int) ((a0.length : Nat) : Int)) 0), (nth (cut a0 (3 : Int) ((a0.length : Nat) : Int)) 1), (nth (cut a0 (3 : Int) ((a0.length : Nat) : Int)) 2), (nth (cut a0 (3 : Int) ((a0.length : Nat) : Int)) 3)⟩ : V4 Int)⟩ : aJ) x19 adq) rfl rfl rfl) ?_
 apply WM
 obtain ⟨x20, aaG, h⟩ := aN h
 refine W1 (aF hP (uM F x19 a0 x20 aaG) rfl rfl rfl) ?_
 refine WQ (dM rfl) ?_
 refine Wk [2, 6, 66] [2, 6] ?_
 (try dsimp)
 refine Ec h rfl (fun h hc21 => ?_) (fun h hc21 => ?_)
 apply Eso
 refine WQ (bV rfl rfl) ?_
 refine W1 dst ?_
 apply WM
 refine Wk [2, 3] [2] ?_
 (try dsimp)
 apply bI
 cases h
 (try simp only [qt, qb, qn])
 refine aT (xs := _) ⟨_, _, fG rfl (by simp), rfl, rfl, ⟨_, rfl, rfl⟩⟩ ?_
 rfl
 apply bG
 refine bf [2, 6] [2, 6] ?_
 (try dsimp)
 apply Eso
 refine WQ qlA ?_
 refine W1 dst ?_
 apply WM
 refine Wk [2, 3] [2] ?_
 (try dsimp)
 apply bI
 cases h
 (try simp only [qt, qb, qn])
 refine aT (xs := _) ⟨_, _, fG rfl (by simp), rfl, rfl, ⟨_, rfl, rfl⟩⟩ ?_
 rfl
def Ip : dJ := (.seq (.ops [(o (.jR [zi, zi, zi, .nil, .nil]) 2), (o (.mv (ci 0)) 3)]) (.seq (.ops [(w 18 0), (o (.call 66 [(t 18)]) 19), (w 17 19), (o (.ext 0 (t 17)) 20), (o (.ext 1 (t 17)) 21), (o (.ext 2 (t 17)) 22), (o (.jR [zi, zi, zi, zu]) 4), (n_ (.store 4 (t 4) (t 20))), (w 5 21), (w 6 22)]) (.seq (.seq (.ops [(w 23 5), (o (.un .not (t 23)) 24), (w 25 24), (g_ (.mv (t 6)) 26 25 true), (g_ (.un .not (t 26)) 27 25 true), (o (.pick (t 25) (t 27) (cb false)) 28)]) (.cond (t 28) (.seq (.ops [(o (.build [zi, zi, zi, .nil, .nil] []) 29), (n_ (.store 5 (t 2) (t 29))), (o (.mv (ci 2)) 3)]) .ret) .skip)) (.seq (.ops [(o (.add 0 (t 4)) 30), (o (.load true 3 (t 30)) 31), (o (.jR [zi, zi, zi]) 7), (n_ (.store 3 (t 7) (t 31)))]) (.seq (.ops [(o (.load true 3 (t 7)) 32), (o (.build [zi, zi, zi, .nil, .nil] [(0, (3, (t 32)))]) 33), (o (.jR [zi, zi, zi, .nil, .nil]) 8), (n_ (.store 5 (t 8) (t 33)))]) (.seq (.seq (.ops [(o (.add 1 (t 7)) 34), (o (.load false 1 (t 34)) 35), (o (.mv (ci 0)) 36)]) (.block 0 (.loop (.seq (.ops [(o (.bin .lss 3 (t 36) (t 35)) 37)]) (.seq (.cond (t 37) .skip (.exit 0)) (.seq (.block 1 (.seq (.ops [(w 38 36), (w 9 38)]) (.seq (.ops [(o (.load true 3 (t 7)) 39), (w 40 9), (o (.call 59 [(t 39), (t 40)]) 41), (w 10 41)]) (.seq (.ops [(w 43 0), (w 44 10), (o (.gJ 1 (t 43) (t 44)) 45), (o (.load false 1 (t 45)) 46), (o (.call 84 [(t 46)]) 47), (w 42 47), (o (.ext 0 (t 42)) 48), (o (.ext 1 (t 42)) 49), (o (.jR [zi, zi, zi, zi]) 11), (n_ (.store 4 (t 11) (t 48))), (w 12 49)]) (.seq (.seq (.ops [(w 50 12), (o (.un .not (t 50)) 51), (w 52 51), (g_ (.mv (t 0)) 53 52 false), (g_ (.mv (t 10)) 54 52 false), (g_ (.bin .add 3 (t 54) (ci 1)) 55 52 false), (g_ (.gJ 1 (t 53) (t 55)) 56 52 false), (g_ (.load false 1 (t 56)) 57 52 false), (g_ (.bin .gtr 42 (t 57) (.const (.int .u64 96))) 58 52 false), (o (.pick (t 52) (cb true) (t 58)) 59)]) (.cond (t 59) (.seq (.ops [(o (.build [zi, zi, zi, .nil, .nil] []) 60), (n_ (.store 5 (t 2) (t 60))), (o (.mv (ci 2)) 3)]) .ret) .skip)) (.draw [((o (.add 3 (t 8)) 61), []), ((o (.load false 1 (t 61)) 62), [0]), ((o (.load true 4 (t 11)) 63), []), ((w 64 0), []), ((w 65 10), []), ((o (.bin .add 3 (t 65) (ci 1)) 66), [4]), ((o (.gJ 1 (t 64) (t 66)) 67), [3, 5]), ((o (.load false 1 (t 67)) 68), [6]), ((o (.jF .i64 (t 68)) 69), [7]), ((o (.bin .sub 3 (t 69) (ci 1)) 70), [8]), ((o (.build [zi, zi, zi, zi, zi] [(0, (4, (t 63))), (4, (1, (t 70)))]) 71), [2, 9]), ((o (.kK 5 111 1 [zi, zi, zi, zi, zi] [(0, (5, (t 71)))]) 72), [10]), ((o (.app 24 111 5 40 (t 62) (t 72)) 73), [1, 11]), ((o (.add 3 (t 8)) 74), [0, 1, 2, 3, 4, 5, 6, 7, 8, 9, 10, 11, 12]), ((n_ (.store 1 (t 74) (t 73))), [13, 12, 12, 0, 1, 2, 3, 4, 5, 6, 7, 8, 9, 10, 11, 12])])))))) (.ops [(o (.bin .add 3 (t 36) (ci 1)) 75), (w 36 75)]))))))) (.seq (.seq (.ops [(o (.add 2 (t 7)) 76), (o (.load false 1 (t 76)) 77), (o (.mv (ci 0)) 78)]) (.block 2 (.loop (.seq (.ops [(o (.bin .lss 3 (t 78) (t 77)) 79)]) (.seq (.cond (t 79) .skip (.exit 2)) (.seq (.block 3 (.seq (.ops [(w 80 78), (w 13 80)]) (.seq (.ops [(o (.load true 3 (t 7)) 81), (w 82 13), (o (.call 61 [(t 81), (t 82)]) 83), (w 14 83)]) (.seq (.ops [(w 85 0), (w 86 14), (w 87 14), (o (.bin .add 3 (t 87) (ci 8)) 88), (o (.slc 1 (t 85) (.some (t 86)) (.some (t 88)) .none) 89), (o (.call 85 [(t 89)]) 90), (w 84 90), (o (.ext 0 (t 84)) 91), (o (.ext 1 (t 84)) 92), (o (.jR [zi, zi, zi, zi, zi, zi, zi, zb, zu, zu, zu, zu, zu]) 15), (n_ (.store 13 (t 15) (t 91))), (w 16 92)]) (.seq (.seq (.ops [(w 93 16), (o (.un .not (t 93)) 94)]) (.cond (t 94) (.seq (.ops [(o (.build [zi, zi, zi, .nil, .nil] []) 95), (n_ (.store 5 (t 2) (t 95))), (o (.mv (ci 2)) 3)]) .ret) .skip)) (.ops [(o (.add 4 (t 8)) 96), (o (.load false 1 (t 96)) 97), (o (.load true 13 (t 15)) 98), (o (.kK 13 104 1 [zi, zi, zi, zi, zi, zi, zi, zb, zu, zu, zu, zu, zu] [(0, (13, (t 98)))]) 99), (o (.app 25 104 13 104 (t 97) (t 99)) 100), (o (.add 4 (t 8)) 101), (n_ (.store 1 (t 101) (t 100)))])))))) (.ops [(o (.bin .add 3 (t 78) (ci 1)) 102), (w 78 102)]))))))) (.seq (.seq (.ops [(o (.load true 5 (t 8)) 103), (o (.call 55 [(t 103)]) 104), (o (.un .not (t 104)) 105)]) (.cond (t 105) (.seq (.ops [(o (.build [zi, zi, zi, .nil, .nil] []) 106), (n_ (.store 5 (t 2) (t 106))), (o (.mv (ci 2)) 3)]) .ret) .skip)) (.seq (.ops [(o (.load true 5 (t 8)) 107), (n_ (.store 5 (t 2) (t 107))), (o (.mv (ci 0)) 3)]) .ret)))))))))
theorem QS : Fits Tryz.prog 54 1 Ip [(.cell true 5 2), (.tmp 3)] := cu Tryz.func54 (by kernel_rfl) (by kernel_rfl) (by kernel_rfl)
theorem BK (F : Nat) (a0 : (List Int)) (r : aK × Int) (h : jU F a0 = some r) : PC Tryz.prog 54 [ss cO a0] (S.tup [S.agg [vi r.1.bH.ak, vi r.1.bH.au, vi r.1.bH.ay, sl aQ r.1.au, sl aS r.1.ay], (zi_ r.2)]) := by
 unfold jU at h
 refine fC QS rfl rfl ?_
 intro C hP
 unfold Ip; dsimp
 apply Eso
 refine W1 (dw rfl rfl) ?_
 apply WM
 refine Wk [0, 2] [2] ?_
 (try dsimp)
 apply Eso
 apply WM
 obtain ⟨x1, x1h, h⟩ := aN h
 refine W1 (aF hP (FU F a0 x1 x1h) rfl rfl rfl) ?_
 apply WM
 refine WQ (bD rfl rfl) ?_
 refine WQ (bD rfl rfl) ?_
 refine WQ (bD rfl rfl) ?_
 refine W1 (dw rfl rfl) ?_
 refine W1 dst ?_
 apply WM
 apply WM
 refine Wk [0, 2, 4, 5, 6] [2, 4] ?_
 (try dsimp)
 apply bP
 apply Eso
 apply WM
 refine WQ (dM rfl) ?_
 apply WM
 apply aC
 rfl
 intro hB; (try simp only [hB, bss, ctt]); exact aI rfl
 apply aC
 rfl
 intro hB; (try simp only [hB, bss, ctt]); exact dM rfl
 refine WQ (dK rfl rfl rfl) ?_
 refine Wk [0, 2, 4, 28] [2, 4] ?_
 (try dsimp)
 refine Ec h rfl (fun h hc2 => ?_) (fun h hc2 => ?_)
 apply Eso
 refine WQ (bV rfl rfl) ?_
 refine W1 dst ?_
 apply WM
 refine Wk [2, 3] [2] ?_
 (try dsimp)
 refine fA (oM (q := 2) rfl).b ?_
 (try dsimp)
 apply bI
 cases h
 (try simp only [qt, qb, qn])
 refine aT (xs := _) ⟨_, _, fG rfl (by simp), rfl, rfl, ⟨_, rfl, rfl⟩⟩ ?_
 rfl
 apply bG
 refine bf [0, 2, 4] [2, 4] ?_
 (try dsimp)
 apply Eso
 refine WQ (ah rfl rfl) ?_
 refine WQ qlA ?_
 refine W1 (dw rfl rfl) ?_
 refine W1 dst ?_
 refine Wk [0, 2, 7] [2, 7] ?_
 (try dsimp)
 apply Eso
 refine WQ qlA ?_
 refine WQ (bV rfl rfl) ?_
 refine W1 (dw rfl rfl) ?_
 refine W1 dst ?_
 refine Wk [0, 2, 7, 8] [2, 7, 8] ?_
 (try dsimp)
 obtain ⟨k4, k4d, h⟩ := fO h
 refine dV (α := (List aY)) (fun (i : (List aY)) => (⟨[(0, ss cO a0), (2, S.one (.ptr 2 0)), (7, S.one (.ptr 7 0)), (8, S.one (.ptr 8 0))], [(2, (⟨true, [vi (0 : Int), vi (0 : Int), vi (0 : Int), .nil, .nil]⟩ : Reg)), (7, (⟨true, [vi x1.1.bH.ak, vi x1.1.bH.au, vi x1.1.bH.ay]⟩ : Reg)), (8, (⟨false, [vi x1.1.bH.ak, vi x1.1.bH.au, vi x1.1.bH.ay, .own 1073 0 i.length (some (5, 111)), .nil]⟩ : Reg)), (1073, (⟨true, flat aQ i⟩ : Reg))]⟩ : St)) (fun i => k4 i = some r) (fun i h => ?_) ?_
 let iv := i; change k4 i = some r at h; generalize i = v3 at h ⊢
 rw [k4d] at h; dsimp only at h
 (try dsimp)
 obtain ⟨k6, k6d, h⟩ := fO h
 refine dV (α := (List aJ)) (fun (i : (List aJ)) => (⟨[(2, S.one (.ptr 2 0)), (8, S.one (.ptr 8 0))], [(2, (⟨true, [vi (0 : Int), vi (0 : Int), vi (0 : Int), .nil, .nil]⟩ : Reg)), (8, (⟨false, [vi x1.1.bH.ak, vi x1.1.bH.au, vi x1.1.bH.ay, .own 1073 0 v3.length (some (5, 111)), .own 1100 0 i.length (some (13, 104))]⟩ : Reg)), (1073, (⟨true, flat aQ v3⟩ : Reg)), (1100, (⟨true, flat aS i⟩ : Reg))]⟩ : St)) (fun i => k6 i = some r) (fun i h => ?_) ?_
 let iv := i; change k6 i = some r at h; generalize i = v5 at h ⊢
 rw [k6d] at h; dsimp only at h
 (try dsimp)
 apply bP
 apply Eso
 refine WQ qlA ?_
 obtain ⟨x7, x7h, h⟩ := aN h
 refine W1 (oh hP (Fz F (⟨x1.1.bH, v3, v5⟩ : aK) x7 x7h) rfl rfl) ?_
 refine WQ (dM rfl) ?_
 refine Wk [2, 8, 105] [2, 8, 1073, 1100] ?_
 (try dsimp)
 refine Ec h rfl (fun h hc8 => ?_) (fun h hc8 => ?_)
 apply Eso
 refine WQ (bV rfl rfl) ?_
 refine W1 dst ?_
 apply WM
 refine Wk [2, 3] [2] ?_
 (try dsimp)
 refine fA (oM (q := 2) rfl).b ?_
 (try dsimp)
 apply bI
 cases h
 (try simp only [qt, qb, qn])
 refine aT (xs := _) ⟨_, _, fG rfl (by simp), rfl, rfl, ⟨_, rfl, rfl⟩⟩ ?_
 rfl
 apply bG
 refine bf [2, 8] [2, 8, 1073, 1100] ?_
 (try dsimp)
 apply Eso
 refine WQ qlA ?_
 refine W1 dst ?_
 apply WM
 refine Wk [2, 3] [2, 1073, 1100] ?_
 (try dsimp)
 refine fA (l7 (r := 1073) rfl rfl).b ?_
 (try dsimp)
 refine fA (l7 (r := 1100) rfl rfl).b ?_
 (try dsimp)
 apply bI
 cases h
 (try simp only [qt, qb, qn])
 refine aT (xs := _) ⟨_, _, fG rfl (by simp), rfl, rfl, ⟨_, rfl, rfl⟩⟩ ?_
 rfl
 apply Eso
 refine WQ (ah rfl rfl) ?_
 refine WQ (aj rfl rfl rfl) ?_
 apply WM
 refine Wk [0, 2, 7, 8, 77, 78] [2, 7, 8, 1073] ?_
 (try dsimp)
 apply bW
 (try dsimp)
 refine fD (α := Int × (List aJ)) (fun (i : Int × (List aJ)) => (⟨[(0, ss cO a0), (2, S.one (.ptr 2 0)), (7, S.one (.ptr 7 0)), (8, S.one (.ptr 8 0)), (77, (zi_ x1.1.bH.ay)), (78, (zi_ i.1))], [(2, (⟨true, [vi (0 : Int), vi (0 : Int), vi (0 : Int), .nil, .nil]⟩ : Reg)), (7, (⟨true, [vi x1.1.bH.ak, vi x1.1.bH.au, vi x1.1.bH.ay]⟩ : Reg)), (8, (⟨false, [vi x1.1.bH.ak, vi x1.1.bH.au, vi x1.1.bH.ay, .own 1073 0 v3.length (some (5, 111)), .own 1100 0 i.2.length (some (13, 104))]⟩ : Reg)), (1073, (⟨true, flat aQ v3⟩ : Reg)), (1100, (⟨true, flat aS i.2⟩ : Reg))]⟩ : St)) (fun n i => iV F a0 x1 k6 n i.1 i.2 = some r) F ((0 : Int), ([] : List aJ)) h ?_ (fun n i h => ?_)
 refine iZ (tN (q := 8) (j := 4) (r := 1100) 13 104 rfl rfl rfl rfl) ?_
 exact (Le.b (bK ⟨rfl, rfl, rfl, rfl, rfl, rfl, trivial⟩ ⟨rfl, rfl, rfl, rfl, rfl, trivial⟩))
 obtain ⟨v27, v28⟩ := i; dsimp only at h
 obtain _ | n29 := n
 cases h
 unfold iV at h
 (try dsimp)
 apply Eso
 refine WQ (aB rfl rfl rfl) ?_
 apply dn
 (try dsimp)
 apply bP
 refine Ec h rfl (fun h XF => ?_) (fun h XF => ?_)
 apply bG
 refine bf [0, 2, 7, 8, 77, 78] [2, 7, 8, 1073, 1100] ?_
 (try dsimp)
 apply bP
 apply bW
 apply Eso
 apply WM
 apply WM
 refine Wk [0, 2, 7, 8, 13, 77, 78] [2, 7, 8, 1073, 1100] ?_
 (try dsimp)
 apply Eso
 refine WQ qlA ?_
 apply WM
 obtain ⟨x31, aaB, h⟩ := aN h
 refine W1 (aF hP (Ib F x1.1.bH v27 x31 aaB) rfl rfl rfl) ?_
 apply WM
 refine Wk [0, 2, 7, 8, 14, 77, 78] [2, 7, 8, 1073, 1100] ?_
 (try dsimp)
 apply Eso
 apply WM
 apply WM
 apply WM
 obtain ⟨g32, h⟩ := aV h
 refine WQ (cZ rfl rfl g32.1 g32.2) ?_
 obtain ⟨g33, h⟩ := aV h
 refine WQ (nM rfl (fun _ => rfl) rfl rfl g33.1 g33.2.1 g33.2.2) ?_
 obtain ⟨x34, OJ, h⟩ := aN h
 refine W1 (aF hP (QO F (cut a0 x31 (x31 + (8 : Int))) x34 OJ) rfl rfl rfl) ?_
 apply WM
 refine WQ (bD rfl rfl) ?_
 refine WQ (bD rfl rfl) ?_
 refine W1 (dw rfl rfl) ?_
 refine W1 dst ?_
 apply WM
 refine Wk [0, 2, 7, 8, 15, 16, 77, 78] [2, 7, 8, 15, 1073, 1100] ?_
 (try dsimp)
 apply bP
 apply Eso
 apply WM
 refine WQ (dM rfl) ?_
 refine Wk [0, 2, 7, 8, 15, 77, 78, 94] [2, 7, 8, 15, 1073, 1100] ?_
 (try dsimp)
 refine Ec h rfl (fun h SN => ?_) (fun h SN => ?_)
 apply Eso
 refine WQ (bV rfl rfl) ?_
 refine W1 dst ?_
 apply WM
 refine Wk [2, 3] [2] ?_
 (try dsimp)
 refine fA (oM (q := 2) rfl).b ?_
 (try dsimp)
 apply bI
 cases h
 (try simp only [qt, qb, qn])
 refine aT (xs := _) ⟨_, _, fG rfl (by simp), rfl, rfl, ⟨_, rfl, rfl⟩⟩ ?_
 rfl
 apply bG
 refine bf [0, 2, 7, 8, 15, 77, 78] [2, 7, 8, 15, 1073, 1100] ?_
 (try dsimp)
 apply eP
 refine WQ (ah rfl rfl) ?_
 refine WQ (aj rfl rfl rfl) ?_
 refine WQ qlA ?_
 refine W1 (dY rfl rfl rfl rfl) ?_
 obtain ⟨g36, h⟩ := aV h
 refine W1 (jc (e := aS) rfl rfl (fun _ => rfl) (fun _ => rfl) rfl (Src.lit (e := aS) ([x34.1] : List aJ) rfl (fun _ => rfl) rfl rfl) g36 rfl) ?_
 refine WQ (ah rfl rfl) ?_
 refine W1 dst ?_
 refine Wk [0, 2, 7, 8, 77, 78] [2, 7, 8, 1073, 1100] ?_
 (try dsimp)
 apply eP
 obtain ⟨g37, h⟩ := aV h
 refine WQ (cZ rfl rfl g37.1 g37.2) ?_
 apply WM
 apply dn
 refine ⟨n29, ((v27 + (1 : Int)), (v28 ++ ([x34.1] : List aJ))), Nat.lt_succ_self _, h, ?_⟩
 exact (Le.b (bK ⟨rfl, rfl, rfl, rfl, rfl, rfl, trivial⟩ ⟨rfl, rfl, rfl, rfl, rfl, trivial⟩))
 apply gV
 refine ⟨v28, h, ?_⟩
 exact (Le.b (bK ⟨rfl, rfl, trivial⟩ ⟨rfl, rfl, rfl, rfl, trivial⟩))
 apply Eso
 refine WQ (ah rfl rfl) ?_
 refine WQ (aj rfl rfl rfl) ?_
 apply WM
 refine Wk [0, 2, 7, 8, 35, 36] [2, 7, 8] ?_
 (try dsimp)
 apply bW
 (try dsimp)
 refine fD (α := Int × (List aY)) (fun (i : Int × (List aY)) => (⟨[(0, ss cO a0), (2, S.one (.ptr 2 0)), (7, S.one (.ptr 7 0)), (8, S.one (.ptr 8 0)), (35, (zi_ x1.1.bH.au)), (36, (zi_ i.1))], [(2, (⟨true, [vi (0 : Int), vi (0 : Int), vi (0 : Int), .nil, .nil]⟩ : Reg)), (7, (⟨true, [vi x1.1.bH.ak, vi x1.1.bH.au, vi x1.1.bH.ay]⟩ : Reg)), (8, (⟨false, [vi x1.1.bH.ak, vi x1.1.bH.au, vi x1.1.bH.ay, .own 1073 0 i.2.length (some (5, 111)), .nil]⟩ : Reg)), (1073, (⟨true, flat aQ i.2⟩ : Reg))]⟩ : St)) (fun n i => iU F a0 x1 k4 n i.1 i.2 = some r) F ((0 : Int), ([] : List aY)) h ?_ (fun n i h => ?_)
 refine iZ (tN (q := 8) (j := 3) (r := 1073) 5 111 rfl rfl rfl rfl) ?_
 exact (Le.b (bK ⟨rfl, rfl, rfl, rfl, rfl, rfl, trivial⟩ ⟨rfl, rfl, rfl, rfl, trivial⟩))
 obtain ⟨v68, v69⟩ := i; dsimp only at h
 obtain _ | n70 := n
 cases h
 unfold iU at h
 (try dsimp)
 apply Eso
 refine WQ (aB rfl rfl rfl) ?_
 apply dn
 (try dsimp)
 apply bP
 refine Ec h rfl (fun h aae => ?_) (fun h aae => ?_)
 apply bG
 refine bf [0, 2, 7, 8, 35, 36] [2, 7, 8, 1073] ?_
 (try dsimp)
 obtain ⟨k73, adr, h⟩ := fO h
 refine dV (α := (List aY)) (fun (i : (List aY)) => (⟨[(0, ss cO a0), (2, S.one (.ptr 2 0)), (7, S.one (.ptr 7 0)), (8, S.one (.ptr 8 0)), (35, (zi_ x1.1.bH.au)), (36, (zi_ v68))], [(2, (⟨true, [vi (0 : Int), vi (0 : Int), vi (0 : Int), .nil, .nil]⟩ : Reg)), (7, (⟨true, [vi x1.1.bH.ak, vi x1.1.bH.au, vi x1.1.bH.ay]⟩ : Reg)), (8, (⟨false, [vi x1.1.bH.ak, vi x1.1.bH.au, vi x1.1.bH.ay, .own 1073 0 i.length (some (5, 111)), .nil]⟩ : Reg)), (1073, (⟨true, flat aQ i⟩ : Reg))]⟩ : St)) (fun i => k73 i = some r) (fun i h => ?_) ?_
 let iv := i; change k73 i = some r at h; generalize i = v72 at h ⊢
 rw [adr] at h; dsimp only at h
 (try dsimp)
 apply eP
 obtain ⟨g74, h⟩ := aV h
 refine WQ (cZ rfl rfl g74.1 g74.2) ?_
 apply WM
 apply dn
 refine ⟨n70, ((v68 + (1 : Int)), v72), Nat.lt_succ_self _, h, ?_⟩
 exact (Le.b (bK ⟨rfl, rfl, rfl, rfl, rfl, rfl, trivial⟩ ⟨rfl, rfl, rfl, rfl, trivial⟩))
 apply bW
 apply Eso
 apply WM
 apply WM
 refine Wk [0, 2, 7, 8, 9, 35, 36] [2, 7, 8, 1073] ?_
 (try dsimp)
 apply Eso
 refine WQ qlA ?_
 apply WM
 obtain ⟨x75, ads, h⟩ := aN h
 refine W1 (aF hP (Ep F x1.1.bH v68 x75 ads) rfl rfl rfl) ?_
 apply WM
 refine Wk [0, 2, 7, 8, 10, 35, 36] [2, 7, 8, 1073] ?_
 (try dsimp)
 apply Eso
 apply WM
 apply WM
 obtain ⟨g76, h⟩ := aV h
 refine WQ (aX rfl rfl g76.1 g76.2) ?_
 refine WQ (aZ (k := 1) rfl (fun _ => rfl) g76 0 rfl rfl) ?_
 obtain ⟨x77, YW, h⟩ := aN h
 refine W1 (aF hP (VF F (nth a0 x75) x77 YW) rfl rfl rfl) ?_
 apply WM
 refine WQ (bD rfl rfl) ?_
 refine WQ (bD rfl rfl) ?_
 refine W1 (dw rfl rfl) ?_
 refine W1 dst ?_
 apply WM
 refine Wk [0, 2, 7, 8, 10, 11, 12, 35, 36] [2, 7, 8, 11, 1073] ?_
 (try dsimp)
 apply bP
 apply Eso
 apply WM
 refine WQ (dM rfl) ?_
 apply WM
 apply aC
 rfl
 intro hB; (try simp only [hB, bss, ctt]); exact aI rfl
 apply aC
 rfl
 intro hB; (try simp only [hB, bss, ctt]); exact aI rfl
 obtain ⟨g78, h⟩ := aV h
 apply aC
 rfl
 intro hB; (try simp only [hB, bss, ctt]); exact cZ rfl rfl (g78 hB).1 (g78 hB).2
 obtain ⟨g79, h⟩ := aV h
 apply aC
 rfl
 intro hB; (try simp only [hB, bss, ctt]); exact aX rfl rfl (g79 hB).1 (g79 hB).2
 apply aC
 rfl
 intro hB; (try simp only [hB, bss, ctt]); exact aZ (k := 1) rfl (fun _ => rfl) (g79 hB) 0 rfl rfl
 apply aC
 rfl
 intro hB; (try simp only [hB, bss, ctt]); exact aB rfl rfl rfl
 refine WQ (dS rfl rfl rfl) ?_
 refine Wk [0, 2, 7, 8, 10, 11, 35, 36, 59] [2, 7, 8, 11, 1073] ?_
 (try dsimp)
 refine Ec h rfl (fun h aax => ?_) (fun h aax => ?_)
 apply Eso
 refine WQ (bV rfl rfl) ?_
 refine W1 dst ?_
 apply WM
 refine Wk [2, 3] [2] ?_
 (try dsimp)
 refine fA (oM (q := 2) rfl).b ?_
 (try dsimp)
 apply bI
 cases h
 (try simp only [qt, qb, qn])
 refine aT (xs := _) ⟨_, _, fG rfl (by simp), rfl, rfl, ⟨_, rfl, rfl⟩⟩ ?_
 rfl
 apply bG
 refine bf [0, 2, 7, 8, 10, 11, 35, 36] [2, 7, 8, 11, 1073] ?_
 (try dsimp)
 obtain ⟨g81, h⟩ := aV h
 obtain ⟨g82, h⟩ := aV h
 obtain ⟨g83, h⟩ := aV h
 obtain ⟨g84, h⟩ := aV h
 refine iY [0, 1, 2, 6, 7, 8, 9, 10] ?_
 refine XQ 0 rfl rfl rfl (ah rfl rfl) ?_
 refine XQ 1 rfl rfl rfl (aj rfl rfl rfl) ?_
 refine XQ 2 rfl rfl rfl qlA ?_
 refine X2 rfl ?_ ?_
 refine XK rfl ((aI rfl).does) ?_
 refine X1 rfl (XK rfl ((aI rfl).does) ?_)
 refine X1 rfl (XK rfl ((cZ rfl rfl g81.1 g81.2).does) ?_)
 refine XQ 6 rfl rfl rfl (aX rfl rfl g82.1 g82.2) ?_
 refine XQ 7 rfl rfl rfl (aZ (k := 1) rfl (fun _ => rfl) g82 0 rfl rfl) ?_
 refine XQ 8 rfl rfl rfl (dF rfl) ?_
 refine XQ 9 rfl rfl rfl (lK rfl rfl g83.1 g83.2) ?_
 refine XQ 10 rfl rfl rfl (bV rfl rfl) ?_
 refine X1 rfl (XK rfl (dY rfl rfl rfl rfl) ?_)
 refine X1 rfl (XT rfl rfl (jc (e := aQ) rfl rfl (fun _ => rfl) (fun _ => rfl) rfl (Src.lit (e := aQ) ([(⟨x77.1, ((IntKind.i64.wrap (nth a0 (x75 + (1 : Int)))) - (1 : Int))⟩ : aY)] : List aY) rfl (fun _ => rfl) rfl rfl) g84 rfl) ?_)
 refine X1 rfl (XT rfl rfl ((ah rfl rfl).does) ?_)
 refine X1 rfl (XT rfl rfl dst ?_)
 refine ig rfl ?_
 refine ⟨(v69 ++ ([(⟨x77.1, ((IntKind.i64.wrap (nth a0 (x75 + (1 : Int)))) - (1 : Int))⟩ : aY)] : List aY)), h, ?_⟩
 exact (Le.b (bK ⟨rfl, rfl, rfl, rfl, rfl, rfl, trivial⟩ ⟨rfl, rfl, rfl, rfl, trivial⟩))
 refine XK rfl ((aI rfl).does) ?_
 refine X2 rfl ?_ ?_
 refine XK rfl ((aI rfl).does) ?_
 refine X1 rfl (XK rfl ((cZ rfl rfl g81.1 g81.2).does) ?_)
 refine XQ 6 rfl rfl rfl (aX rfl rfl g82.1 g82.2) ?_
 refine XQ 7 rfl rfl rfl (aZ (k := 1) rfl (fun _ => rfl) g82 0 rfl rfl) ?_
 refine XQ 8 rfl rfl rfl (dF rfl) ?_
 refine XQ 9 rfl rfl rfl (lK rfl rfl g83.1 g83.2) ?_
 refine XQ 10 rfl rfl rfl (bV rfl rfl) ?_
 refine X1 rfl (XK rfl (dY rfl rfl rfl rfl) ?_)
 refine X1 rfl (XT rfl rfl (jc (e := aQ) rfl rfl (fun _ => rfl) (fun _ => rfl) rfl (Src.lit (e := aQ) ([(⟨x77.1, ((IntKind.i64.wrap (nth a0 (x75 + (1 : Int)))) - (1 : Int))⟩ : aY)] : List aY) rfl (fun _ => rfl) rfl rfl) g84 rfl) ?_)
 refine X1 rfl (XT rfl rfl ((ah rfl rfl).does) ?_)
 refine X1 rfl (XT rfl rfl dst ?_)
 refine ig rfl ?_
 refine ⟨(v69 ++ ([(⟨x77.1, ((IntKind.i64.wrap (nth a0 (x75 + (1 : Int)))) - (1 : Int))⟩ : aY)] : List aY)), h, ?_⟩
 exact (Le.b (bK ⟨rfl, rfl, rfl, rfl, rfl, rfl, trivial⟩ ⟨rfl, rfl, rfl, rfl, trivial⟩))
 refine XK rfl ((cZ rfl rfl g81.1 g81.2).does) ?_
 refine X1 rfl (XK rfl ((aI rfl).does) ?_)
 refine XQ 6 rfl rfl rfl (aX rfl rfl g82.1 g82.2) ?_
 refine XQ 7 rfl rfl rfl (aZ (k := 1) rfl (fun _ => rfl) g82 0 rfl rfl) ?_
 refine XQ 8 rfl rfl rfl (dF rfl) ?_
 refine XQ 9 rfl rfl rfl (lK rfl rfl g83.1 g83.2) ?_
 refine XQ 10 rfl rfl rfl (bV rfl rfl) ?_
 refine X1 rfl (XK rfl (dY rfl rfl rfl rfl) ?_)
 refine X1 rfl (XT rfl rfl (jc (e := aQ) rfl rfl (fun _ => rfl) (fun _ => rfl) rfl (Src.lit (e := aQ) ([(⟨x77.1, ((IntKind.i64.wrap (nth a0 (x75 + (1 : Int)))) - (1 : Int))⟩ : aY)] : List aY) rfl (fun _ => rfl) rfl rfl) g84 rfl) ?_)
 refine X1 rfl (XT rfl rfl ((ah rfl rfl).does) ?_)
 refine X1 rfl (XT rfl rfl dst ?_)
 refine ig rfl ?_
 refine ⟨(v69 ++ ([(⟨x77.1, ((IntKind.i64.wrap (nth a0 (x75 + (1 : Int)))) - (1 : Int))⟩ : aY)] : List aY)), h, ?_⟩
 exact (Le.b (bK ⟨rfl, rfl, rfl, rfl, rfl, rfl, trivial⟩ ⟨rfl, rfl, rfl, rfl, trivial⟩))
 apply gV
 refine ⟨v69, h, ?_⟩
 exact (Le.b (bK ⟨rfl, rfl, rfl, rfl, trivial⟩ ⟨rfl, rfl, rfl, rfl, trivial⟩))
def Iq : dJ := (.seq (.ops [(o (.jR [zi, zi, zi, .nil, .nil, .nil, zu, zb]) 2), (o (.mv (cb false)) 3)]) (.seq (.ops [(w 20 0), (o (.call 66 [(t 20)]) 21), (w 19 21), (o (.ext 0 (t 19)) 22), (o (.ext 1 (t 19)) 23), (o (.ext 2 (t 19)) 24), (o (.jR [zi, zi, zi, zu]) 4), (n_ (.store 4 (t 4) (t 22))), (w 5 23), (w 6 24)]) (.seq (.seq (.ops [(w 25 5), (o (.un .not (t 25)) 26), (w 27 26), (g_ (.mv (t 6)) 28 27 true), (g_ (.un .not (t 28)) 29 27 true), (o (.pick (t 27) (t 29) (cb false)) 30)]) (.cond (t 30) (.seq (.ops [(o (.build [zi, zi, zi, .nil, .nil, .nil, zu, zb] []) 31), (n_ (.store 8 (t 2) (t 31))), (o (.mv (cb false)) 3)]) .ret) .skip)) (.seq (.ops [(o (.add 3 (t 4)) 32), (o (.load false 1 (t 32)) 33), (w 34 5), (o (.build [zi, zi, zi, .nil, .nil, .nil, zu, zb] [(6, (1, (t 33))), (7, (1, (t 34)))]) 35), (o (.jR [zi, zi, zi, .nil, .nil, .nil, zu, zb]) 7), (n_ (.store 8 (t 7) (t 35)))]) (.seq (.seq (.ops [(w 37 0), (w 38 0), (o (.len false (t 38)) 39), (o (.bin .sub 3 (t 39) (ci 8)) 40), (o (.slc 1 (t 37) (.some (t 40)) .none .none) 41), (o (.call 67 [(t 41)]) 42), (w 36 42), (o (.ext 0 (t 36)) 43), (o (.ext 1 (t 36)) 44), (o (.jR [zi, zi, zi, zu]) 8), (n_ (.store 4 (t 8) (t 43))), (w 9 44)]) (.seq (.ops [(w 45 9), (w 46 45), (g_ (.mv (t 6)) 47 46 true), (o (.pick (t 46) (t 47) (cb false)) 48)]) (.cond (t 48) (.ops [(o (.add 6 (t 7)) 49), (o (.load false 1 (t 49)) 50), (o (.add 3 (t 8)) 51), (o (.load false 1 (t 51)) 52), (o (.bi .max #[42, 42] 42 #[false, false] [(t 50), (t 52)]) 53), (o (.add 6 (t 7)) 54), (n_ (.store 1 (t 54) (t 53)))]) .skip))) (.seq (.seq (.ops [(o (.add 6 (t 7)) 55), (o (.load false 1 (t 55)) 56), (o (.bin .geq 42 (t 56) (.const (.int .u64 4611686018427387904))) 57)]) (.cond (t 57) (.seq (.ops [(o (.build [zi, zi, zi, .nil, .nil, .nil, zu, zb] []) 58), (n_ (.store 8 (t 2) (t 58))), (o (.mv (cb false)) 3)]) .ret) .skip)) (.seq (.ops [(o (.add 6 (t 7)) 59), (o (.load false 1 (t 59)) 60), (o (.bin .add 42 (t 60) (.const (.int .u64 1))) 61), (o (.add 6 (t 7)) 62), (n_ (.store 1 (t 62) (t 61)))]) (.seq (.ops [(o (.add 0 (t 4)) 63), (o (.load true 3 (t 63)) 64), (o (.jR [zi, zi, zi]) 10), (n_ (.store 3 (t 10) (t 64)))]) (.seq (.ops [(o (.mv (ci 0)) 11)]) (.seq (.seq (.ops [(o (.add 0 (t 10)) 65), (o (.load false 1 (t 65)) 66), (o (.mv (ci 0)) 67)]) (.block 0 (.loop (.seq (.ops [(o (.bin .lss 3 (t 67) (t 66)) 68)]) (.seq (.cond (t 68) .skip (.exit 0)) (.seq (.block 1 (.seq (.ops [(w 69 67), (w 12 69)]) (.seq (.ops [(o (.load true 3 (t 10)) 71), (w 72 12), (o (.call 30 [(t 71), (t 72)]) 73), (w 70 73), (o (.ext 0 (t 70)) 74), (o (.ext 1 (t 70)) 75), (w 13 74), (w 14 75)]) (.seq (.draw [((o (.load true 3 (t 10)) 77), []), ((w 78 0), []), ((w 79 13), []), ((w 80 13), []), ((w 81 14), []), ((o (.bin .add 3 (t 80) (t 81)) 82), [3, 4]), ((o (.slc 1 (t 78) (.some (t 79)) (.some (t 82)) .none) 83), [1, 2, 5]), ((o (.call 68 [(t 77), (t 83)]) 84), [0, 6]), ((w 76 84), [7]), ((o (.ext 0 (t 76)) 85), [8]), ((o (.ext 1 (t 76)) 86), [8]), ((o (.jR [zi, zu, zu, zu, zu, zu, zi, zu, zi, .nil]) 15), []), ((n_ (.store 10 (t 15) (t 85))), [11, 9, 7, 0, 1, 2, 3, 4, 5, 6, 7, 8, 9, 11]), ((w 16 86), [10, 12, 0, 1, 2, 3, 4, 5, 6, 7, 8, 9, 10, 11, 12])]) (.seq (.seq (.ops [(w 87 16), (o (.un .not (t 87)) 88)]) (.cond (t 88) (.seq (.ops [(o (.build [zi, zi, zi, .nil, .nil, .nil, zu, zb] []) 89), (n_ (.store 8 (t 2) (t 89))), (o (.mv (cb false)) 3)]) .ret) .skip)) (.seq (.seq (.ops [(o (.add 0 (t 15)) 90), (o (.load false 1 (t 90)) 91), (o (.bin .eql 3 (t 91) (ci 2)) 92)]) (.cond (t 92) (.seq (.ops [(w 93 11), (o (.bin .add 3 (t 93) (ci 1)) 94), (w 11 94)]) (.ops [(w 95 0), (o (.add 9 (t 15)) 96), (o (.load false 1 (t 96)) 97), (o (.call 53 [(t 95), (t 97)]) 98), (w 0 98)])) .skip)) (.ops [(o (.add 5 (t 7)) 99), (o (.load false 1 (t 99)) 100), (o (.load true 10 (t 15)) 101), (o (.kK 10 57 1 [zi, zu, zu, zu, zu, zu, zi, zu, zi, .nil] [(0, (10, (t 101)))]) 102), (o (.app 28 57 10 96 (t 100) (t 102)) 103), (o (.add 5 (t 7)) 104), (n_ (.store 1 (t 104) (t 103)))]))))))) (.ops [(o (.bin .add 3 (t 67) (ci 1)) 105), (w 67 105)]))))))) (.seq (.ops [(w 107 0), (o (.call 54 [(t 107)]) 108), (w 106 108), (o (.ext 0 (t 106)) 109), (o (.ext 1 (t 106)) 110), (o (.jR [zi, zi, zi, .nil, .nil]) 17), (n_ (.store 5 (t 17) (t 109))), (w 18 110)]) (.seq (.ops [(o (.load true 5 (t 17)) 111), (o (.add 0 (t 7)) 112), (n_ (.store 5 (t 112) (t 111)))]) (.seq (.ops [(o (.load true 8 (t 7)) 113), (w 114 11), (o (.bin .leq 3 (t 114) (ci 1)) 115), (w 116 115), (g_ (.mv (t 18)) 117 116 true), (g_ (.bin .eql 33 (t 117) (ci 0)) 118 116 true), (o (.pick (t 116) (t 118) (cb false)) 119), (n_ (.store 8 (t 2) (t 113))), (w 3 119)]) .ret)))))))))))))
theorem QT : Fits Tryz.prog 33 1 Iq [(.cell true 8 2), (.tmp 3)] := cu Tryz.func33 (by kernel_rfl) (by kernel_rfl) (by kernel_rfl)
theorem Ir (F : Nat) (a0 : (List Int)) (r : iJ × Bool) (h : lM F a0 = some r) : PC Tryz.prog 33 [ss cO a0] (S.tup [S.agg [vi r.1.xs.bH.ak, vi r.1.xs.bH.au, vi r.1.xs.bH.ay, sl aQ r.1.xs.au, sl aS r.1.xs.ay, sl gI r.1.mO, vu r.1.lQ, vb r.1.mZ], (zb_ r.2)]) := by
 unfold lM at h
 refine fC QT rfl rfl ?_
 intro C hP
 unfold Iq; dsimp
 apply Eso
 refine W1 (dw rfl rfl) ?_
 apply WM
 refine Wk [0, 2] [2] ?_
 (try dsimp)
 apply Eso
 apply WM
 obtain ⟨x1, x1h, h⟩ := aN h
 refine W1 (aF hP (FU F a0 x1 x1h) rfl rfl rfl) ?_
 apply WM
 refine WQ (bD rfl rfl) ?_
 refine WQ (bD rfl rfl) ?_
 refine WQ (bD rfl rfl) ?_
 refine W1 (dw rfl rfl) ?_
 refine W1 dst ?_
 apply WM
 apply WM
 refine Wk [0, 2, 4, 5, 6] [2, 4] ?_
 (try dsimp)
 apply bP
 apply Eso
 apply WM
 refine WQ (dM rfl) ?_
 apply WM
 apply aC
 rfl
 intro hB; (try simp only [hB, bss, ctt]); exact aI rfl
 apply aC
 rfl
 intro hB; (try simp only [hB, bss, ctt]); exact dM rfl
 refine WQ (dK rfl rfl rfl) ?_
 refine Wk [0, 2, 4, 5, 6, 30] [2, 4] ?_
 (try dsimp)
 refine Ec h rfl (fun h hc2 => ?_) (fun h hc2 => ?_)
 apply Eso
 refine WQ (bV rfl rfl) ?_
 refine W1 dst ?_
 apply WM
 refine Wk [2, 3] [2] ?_
 (try dsimp)
 refine fA (oM (q := 2) rfl).b ?_
 (try dsimp)
 apply bI
 cases h
 (try simp only [qt, qb, qn])
 refine aT (xs := _) ⟨_, _, fG rfl (by simp), rfl, rfl, ⟨_, rfl, rfl⟩⟩ ?_
 rfl
 apply bG
 refine bf [0, 2, 4, 5, 6] [2, 4] ?_
 (try dsimp)
 apply Eso
 refine WQ (ah rfl rfl) ?_
 refine WQ (aj rfl rfl rfl) ?_
 apply WM
 refine WQ (bV rfl rfl) ?_
 refine W1 (dw rfl rfl) ?_
 refine W1 dst ?_
 refine Wk [0, 2, 4, 6, 7] [2, 4, 7] ?_
 (try dsimp)
 obtain ⟨k4, k4d, h⟩ := fO h
 refine dV (α := Int) (fun (i : Int) => (⟨[(0, ss cO a0), (2, S.one (.ptr 2 0)), (4, S.one (.ptr 4 0)), (7, S.one (.ptr 7 0))], [(2, (⟨true, [vi (0 : Int), vi (0 : Int), vi (0 : Int), .nil, .nil, .nil, vu (0 : Int), vb false]⟩ : Reg)), (4, (⟨true, [vi x1.1.bH.ak, vi x1.1.bH.au, vi x1.1.bH.ay, vu x1.1.tq]⟩ : Reg)), (7, (⟨true, [vi (0 : Int), vi (0 : Int), vi (0 : Int), .nil, .nil, .nil, vu i, vb x1.2.1]⟩ : Reg))]⟩ : St)) (fun i => k4 i = some r) (fun i h => ?_) ?_
 let iv := i; change k4 i = some r at h; generalize i = v3 at h ⊢
 rw [k4d] at h; dsimp only at h
 (try dsimp)
 apply bP
 apply Eso
 refine WQ (ah rfl rfl) ?_
 refine WQ (aj rfl rfl rfl) ?_
 refine WQ (aB rfl rfl rfl) ?_
 refine Wk [0, 2, 4, 7, 57] [2, 4, 7] ?_
 (try dsimp)
 refine Ec h rfl (fun h hc5 => ?_) (fun h hc5 => ?_)
 apply Eso
 refine WQ (bV rfl rfl) ?_
 refine W1 dst ?_
 apply WM
 refine Wk [2, 3] [2] ?_
 (try dsimp)
 refine fA (oM (q := 2) rfl).b ?_
 (try dsimp)
 apply bI
 cases h
 (try simp only [qt, qb, qn])
 refine aT (xs := _) ⟨_, _, fG rfl (by simp), rfl, rfl, ⟨_, rfl, rfl⟩⟩ ?_
 rfl
 apply bG
 refine bf [0, 2, 4, 7] [2, 4, 7] ?_
 (try dsimp)
 apply Eso
 refine WQ (ah rfl rfl) ?_
 refine WQ (aj rfl rfl rfl) ?_
 refine WQ (aB rfl rfl rfl) ?_
 refine WQ (ah rfl rfl) ?_
 refine W1 dst ?_
 refine Wk [0, 2, 4, 7] [2, 4, 7] ?_
 (try dsimp)
 apply Eso
 refine WQ (ah rfl rfl) ?_
 refine WQ qlA ?_
 refine W1 (dw rfl rfl) ?_
 refine W1 dst ?_
 refine Wk [0, 2, 7, 10] [2, 7, 10] ?_
 (try dsimp)
 apply Eso
 apply WM
 apply dn
 (try dsimp)
 obtain ⟨k9, k9d, h⟩ := fO h
 refine dV (α := (List Int) × Int × (List bC)) (fun (i : (List Int) × Int × (List bC)) => (⟨[(0, ss cO i.1), (2, S.one (.ptr 2 0)), (7, S.one (.ptr 7 0)), (11, (zi_ i.2.1))], [(2, (⟨true, [vi (0 : Int), vi (0 : Int), vi (0 : Int), .nil, .nil, .nil, vu (0 : Int), vb false]⟩ : Reg)), (7, (⟨false, [vi (0 : Int), vi (0 : Int), vi (0 : Int), .nil, .nil, .own 1103 0 i.2.2.length (some (10, 57)), vu (IntKind.u64.wrap (v3 + (1 : Int))), vb x1.2.1]⟩ : Reg)), (1103, (⟨true, flat gI i.2.2⟩ : Reg))]⟩ : St)) (fun i => k9 i.1 i.2.1 i.2.2 = some r) (fun i h => ?_) ?_
 obtain ⟨v6, v7, v8⟩ := i
 rw [k9d] at h; dsimp only at h
 (try dsimp)
 apply Eso
 apply WM
 obtain ⟨x10, Fg, h⟩ := aN h
 refine W1 (aF hP (BK F v6 x10 Fg) rfl rfl rfl) ?_
 apply WM
 refine WQ (bD rfl rfl) ?_
 refine WQ (bD rfl rfl) ?_
 refine W1 (dw rfl rfl) ?_
 refine W1 dst ?_
 apply WM
 refine Wk [2, 7, 11, 17, 18] [2, 7, 17, 1103] ?_
 (try dsimp)
 apply Eso
 refine WQ qlA ?_
 refine WQ (ah rfl rfl) ?_
 refine W1 dst ?_
 refine Wk [2, 7, 11, 18] [2, 7, 1103] ?_
 (try dsimp)
 apply Eso
 refine WQ qlA ?_
 apply WM
 refine WQ (aB rfl rfl rfl) ?_
 apply WM
 apply aC
 rfl
 intro hB; (try simp only [hB, bss, ctt]); exact aI rfl
 apply aC
 rfl
 intro hB; (try simp only [hB, bss, ctt]); exact aB rfl rfl rfl
 refine WQ (dK rfl rfl rfl) ?_
 refine W1 dst ?_
 apply WM
 refine Wk [2, 3] [2, 1103] ?_
 (try dsimp)
 refine fA (l7 (r := 1103) rfl rfl).b ?_
 (try dsimp)
 apply bI
 cases h
 (try simp only [qt, qb, qn])
 refine aT (xs := _) ⟨_, _, fG rfl (by simp), rfl, rfl, ⟨_, rfl, rfl⟩⟩ ?_
 rfl
 apply Eso
 refine WQ (ah rfl rfl) ?_
 refine WQ (aj rfl rfl rfl) ?_
 apply WM
 refine Wk [0, 2, 7, 10, 11, 66, 67] [2, 7, 10] ?_
 (try dsimp)
 apply bW
 (try dsimp)
 refine fD (α := (List Int) × Int × Int × (List bC)) (fun (i : (List Int) × Int × Int × (List bC)) => (⟨[(0, ss cO i.1), (2, S.one (.ptr 2 0)), (7, S.one (.ptr 7 0)), (10, S.one (.ptr 10 0)), (11, (zi_ i.2.1)), (66, (zi_ x1.1.bH.ak)), (67, (zi_ i.2.2.1))], [(2, (⟨true, [vi (0 : Int), vi (0 : Int), vi (0 : Int), .nil, .nil, .nil, vu (0 : Int), vb false]⟩ : Reg)), (7, (⟨false, [vi (0 : Int), vi (0 : Int), vi (0 : Int), .nil, .nil, .own 1103 0 i.2.2.2.length (some (10, 57)), vu (IntKind.u64.wrap (v3 + (1 : Int))), vb x1.2.1]⟩ : Reg)), (10, (⟨true, [vi x1.1.bH.ak, vi x1.1.bH.au, vi x1.1.bH.ay]⟩ : Reg)), (1103, (⟨true, flat gI i.2.2.2⟩ : Reg))]⟩ : St)) (fun n i => jh F x1 k9 n i.1 i.2.1 i.2.2.1 i.2.2.2 = some r) F (a0, (0 : Int), (0 : Int), ([] : List bC)) h ?_ (fun n i h => ?_)
 refine iZ (tN (q := 7) (j := 5) (r := 1103) 10 57 rfl rfl rfl rfl) ?_
 exact (Le.b (bK ⟨rfl, rfl, rfl, rfl, rfl, rfl, rfl, trivial⟩ ⟨rfl, rfl, rfl, rfl, trivial⟩))
 obtain ⟨v67, v68, v69, v70⟩ := i; dsimp only at h
 obtain _ | n71 := n
 cases h
 unfold jh at h
 (try dsimp)
 apply Eso
 refine WQ (aB rfl rfl rfl) ?_
 apply dn
 (try dsimp)
 apply bP
 refine Ec h rfl (fun h aau => ?_) (fun h aau => ?_)
 apply bG
 refine bf [0, 2, 7, 10, 11, 66, 67] [2, 7, 10, 1103] ?_
 (try dsimp)
 apply bP
 apply bW
 apply Eso
 apply WM
 apply WM
 refine Wk [0, 2, 7, 10, 11, 12, 66, 67] [2, 7, 10, 1103] ?_
 (try dsimp)
 apply Eso
 refine WQ qlA ?_
 apply WM
 obtain ⟨x73, adt, h⟩ := aN h
 refine W1 (aF hP (sW F x1.1.bH v69 x73 adt) rfl rfl rfl) ?_
 apply WM
 refine WQ (bD rfl rfl) ?_
 refine WQ (bD rfl rfl) ?_
 apply WM
 apply WM
 refine Wk [0, 2, 7, 10, 11, 13, 14, 66, 67] [2, 7, 10, 1103] ?_
 (try dsimp)
 obtain ⟨k85, adu, h⟩ := fO h
 refine dV (α := Bool × Int × Int × Int × Int × Int × Int × Int × Int × Int × (List aA)) (fun (i : Bool × Int × Int × Int × Int × Int × Int × Int × Int × Int × (List aA)) => (⟨[(0, ss cO v67), (2, S.one (.ptr 2 0)), (7, S.one (.ptr 7 0)), (10, S.one (.ptr 10 0)), (11, (zi_ v68)), (15, S.one (.ptr 15 0)), (16, (zb_ i.1)), (66, (zi_ x1.1.bH.ak)), (67, (zi_ v69))], [(2, (⟨true, [vi (0 : Int), vi (0 : Int), vi (0 : Int), .nil, .nil, .nil, vu (0 : Int), vb false]⟩ : Reg)), (7, (⟨false, [vi (0 : Int), vi (0 : Int), vi (0 : Int), .nil, .nil, .own 1103 0 v70.length (some (10, 57)), vu (IntKind.u64.wrap (v3 + (1 : Int))), vb x1.2.1]⟩ : Reg)), (10, (⟨true, [vi x1.1.bH.ak, vi x1.1.bH.au, vi x1.1.bH.ay]⟩ : Reg)), (15, (⟨true, [vi i.2.1, vu i.2.2.1, vu i.2.2.2.1, vu i.2.2.2.2.1, vu i.2.2.2.2.2.1, vu i.2.2.2.2.2.2.1, vi i.2.2.2.2.2.2.2.1, vu i.2.2.2.2.2.2.2.2.1, vi i.2.2.2.2.2.2.2.2.2.1, sl bZ i.2.2.2.2.2.2.2.2.2.2]⟩ : Reg)), (1103, (⟨true, flat gI v70⟩ : Reg))]⟩ : St)) (fun i => k85 i.1 i.2.1 i.2.2.1 i.2.2.2.1 i.2.2.2.2.1 i.2.2.2.2.2.1 i.2.2.2.2.2.2.1 i.2.2.2.2.2.2.2.1 i.2.2.2.2.2.2.2.2.1 i.2.2.2.2.2.2.2.2.2.1 i.2.2.2.2.2.2.2.2.2.2 = some r) (fun i h => ?_) ?_
 obtain ⟨v74, v75, v76, v77, v78, v79, v80, v81, v82, v83, v84⟩ := i
 rw [adu] at h; dsimp only at h
 (try dsimp)
 apply bP
 apply Eso
 apply WM
 refine WQ (dM rfl) ?_
 refine Wk [0, 2, 7, 10, 11, 15, 66, 67, 88] [2, 7, 10, 15, 1103] ?_
 (try dsimp)
 refine Ec h rfl (fun h adv => ?_) (fun h adv => ?_)
 apply Eso
 refine WQ (bV rfl rfl) ?_
 refine W1 dst ?_
 apply WM
 refine Wk [2, 3] [2] ?_
 (try dsimp)
 refine fA (oM (q := 2) rfl).b ?_
 (try dsimp)
 apply bI
 cases h
 (try simp only [qt, qb, qn])
 refine aT (xs := _) ⟨_, _, fG rfl (by simp), rfl, rfl, ⟨_, rfl, rfl⟩⟩ ?_
 rfl
 apply bG
 refine bf [0, 2, 7, 10, 11, 15, 66, 67] [2, 7, 10, 15, 1103] ?_
 (try dsimp)
 obtain ⟨k89, adw, h⟩ := fO h
 refine dV (α := (List Int) × Int) (fun (i : (List Int) × Int) => (⟨[(0, ss cO i.1), (2, S.one (.ptr 2 0)), (7, S.one (.ptr 7 0)), (10, S.one (.ptr 10 0)), (11, (zi_ i.2)), (15, S.one (.ptr 15 0)), (66, (zi_ x1.1.bH.ak)), (67, (zi_ v69))], [(2, (⟨true, [vi (0 : Int), vi (0 : Int), vi (0 : Int), .nil, .nil, .nil, vu (0 : Int), vb false]⟩ : Reg)), (7, (⟨false, [vi (0 : Int), vi (0 : Int), vi (0 : Int), .nil, .nil, .own 1103 0 v70.length (some (10, 57)), vu (IntKind.u64.wrap (v3 + (1 : Int))), vb x1.2.1]⟩ : Reg)), (10, (⟨true, [vi x1.1.bH.ak, vi x1.1.bH.au, vi x1.1.bH.ay]⟩ : Reg)), (15, (⟨true, [vi v75, vu v76, vu v77, vu v78, vu v79, vu v80, vi v81, vu v82, vi v83, sl bZ v84]⟩ : Reg)), (1103, (⟨true, flat gI v70⟩ : Reg))]⟩ : St)) (fun i => k89 i.1 i.2 = some r) (fun i h => ?_) ?_
 obtain ⟨v87, v88⟩ := i
 rw [adw] at h; dsimp only at h
 (try dsimp)
 apply eP
 refine WQ (ah rfl rfl) ?_
 refine WQ (aj rfl rfl rfl) ?_
 refine WQ qlA ?_
 refine W1 (dY rfl rfl rfl rfl) ?_
 obtain ⟨g90, h⟩ := aV h
 refine W1 (jc (e := gI) rfl rfl (fun _ => rfl) (fun _ => rfl) rfl (Src.lit (e := gI) ([(⟨v75, v76, (⟨v77, v78, v79, v80⟩ : V4 Int), (⟨v81, v82, v83⟩ : jf), v84⟩ : bC)] : List bC) rfl (fun _ => rfl) rfl rfl) g90 rfl) ?_
 refine WQ (ah rfl rfl) ?_
 refine W1 dst ?_
 refine Wk [0, 2, 7, 10, 11, 66, 67] [2, 7, 10, 1103] ?_
 (try dsimp)
 apply eP
 obtain ⟨g91, h⟩ := aV h
 refine WQ (cZ rfl rfl g91.1 g91.2) ?_
 apply WM
 apply dn
 refine ⟨n71, (v87, v88, (v69 + (1 : Int)), (v70 ++ ([(⟨v75, v76, (⟨v77, v78, v79, v80⟩ : V4 Int), (⟨v81, v82, v83⟩ : jf), v84⟩ : bC)] : List bC))), Nat.lt_succ_self _, h, ?_⟩
 exact (Le.b (bK ⟨rfl, rfl, rfl, rfl, rfl, rfl, rfl, trivial⟩ ⟨rfl, rfl, rfl, rfl, trivial⟩))
 apply Eso
 refine WQ (ah rfl rfl) ?_
 refine WQ (aj rfl rfl rfl) ?_
 refine WQ (aB rfl rfl rfl) ?_
 refine Wk [0, 2, 7, 10, 11, 15, 66, 67, 92] [2, 7, 10, 15, 1103] ?_
 (try dsimp)
 refine Ec h rfl (fun h aaw => ?_) (fun h aaw => ?_)
 apply Eso
 apply WM
 obtain ⟨g93, h⟩ := aV h
 refine WQ (cZ rfl rfl g93.1 g93.2) ?_
 apply WM
 refine Wk [0, 2, 7, 10, 11, 15, 66, 67] [2, 7, 10, 15, 1103] ?_
 (try dsimp)
 apply eP
 apply WM
 refine WQ (ah rfl rfl) ?_
 refine WQ (aj rfl rfl rfl) ?_
 obtain ⟨x94, aaH, h⟩ := aN h
 refine W1 (aF hP (Ny F v67 v84 x94 aaH) rfl rfl rfl) ?_
 apply WM
 apply dn
 refine ⟨(x94, (v68 + (1 : Int))), h, ?_⟩
 exact (Le.b (bK ⟨rfl, rfl, rfl, rfl, rfl, rfl, rfl, rfl, trivial⟩ ⟨rfl, rfl, rfl, rfl, rfl, trivial⟩))
 apply bG
 refine ⟨(v67, v68), h, ?_⟩
 exact (Le.b (bK ⟨rfl, rfl, rfl, rfl, rfl, rfl, rfl, rfl, trivial⟩ ⟨rfl, rfl, rfl, rfl, rfl, trivial⟩))
 obtain ⟨g95, h⟩ := aV h
 obtain ⟨g96, h⟩ := aV h
 obtain ⟨x97, abx, h⟩ := aN h
 refine iY [0, 1, 2, 3, 4, 5, 6, 8, 9] ?_
 refine XQ 0 rfl rfl rfl qlA ?_
 refine XQ 1 rfl rfl rfl (aI rfl) ?_
 refine XQ 2 rfl rfl rfl (aI rfl) ?_
 refine XQ 3 rfl rfl rfl (aI rfl) ?_
 refine XQ 4 rfl rfl rfl (aI rfl) ?_
 refine XQ 5 rfl rfl rfl (cZ rfl rfl g95.1 g95.2) ?_
 refine XQ 6 rfl rfl rfl (nM rfl (fun _ => rfl) rfl rfl g96.1 g96.2.1 g96.2.2) ?_
 (try dsimp)
 refine X2 rfl ?_ ?_
 refine XK rfl (aF hP (zo F x1.1.bH (cut v67 x73.1 (x73.1 + x73.2)) x97 abx) rfl rfl rfl) ?_
 refine XQ 8 rfl rfl rfl (aI rfl) ?_
 refine XQ 9 rfl rfl rfl (bD rfl rfl) ?_
 refine X2 rfl ?_ ?_
 refine XK rfl ((bD rfl rfl).does) ?_
 refine X1 rfl (XK rfl (dw rfl rfl) ?_)
 refine X1 rfl (XT rfl rfl dst ?_)
 refine X1 rfl (XT rfl rfl ((aI rfl).does) ?_)
 refine ig rfl ?_
 refine ⟨(x97.2, x97.1.bY, x97.1.lF, x97.1.xL.c0, x97.1.xL.c1, x97.1.xL.c2, x97.1.xL.c3, x97.1.dh.lW, x97.1.dh.xW, x97.1.dh.xN, x97.1.xW), h, ?_⟩
 exact (Le.b (bK ⟨rfl, rfl, rfl, rfl, rfl, rfl, rfl, rfl, rfl, trivial⟩ ⟨rfl, rfl, rfl, rfl, rfl, trivial⟩))
 refine XK rfl (dw rfl rfl) ?_
 refine X2 rfl ?_ ?_
 refine XK rfl ((bD rfl rfl).does) ?_
 refine X1 rfl (XT rfl rfl dst ?_)
 refine X1 rfl (XT rfl rfl ((aI rfl).does) ?_)
 refine ig rfl ?_
 refine ⟨(x97.2, x97.1.bY, x97.1.lF, x97.1.xL.c0, x97.1.xL.c1, x97.1.xL.c2, x97.1.xL.c3, x97.1.dh.lW, x97.1.dh.xW, x97.1.dh.xN, x97.1.xW), h, ?_⟩
 exact (Le.b (bK ⟨rfl, rfl, rfl, rfl, rfl, rfl, rfl, rfl, rfl, trivial⟩ ⟨rfl, rfl, rfl, rfl, rfl, trivial⟩))
 refine XT rfl rfl dst ?_
 refine X1 rfl (XT rfl rfl ((bD rfl rfl).does) ?_)
 refine X1 rfl (XT rfl rfl ((aI rfl).does) ?_)
 refine ig rfl ?_
 refine ⟨(x97.2, x97.1.bY, x97.1.lF, x97.1.xL.c0, x97.1.xL.c1, x97.1.xL.c2, x97.1.xL.c3, x97.1.dh.lW, x97.1.dh.xW, x97.1.dh.xN, x97.1.xW), h, ?_⟩
 exact (Le.b (bK ⟨rfl, rfl, rfl, rfl, rfl, rfl, rfl, rfl, rfl, trivial⟩ ⟨rfl, rfl, rfl, rfl, rfl, trivial⟩))
 refine XK rfl (dw rfl rfl) ?_
 refine X1 rfl (XK rfl (aF hP (zo F x1.1.bH (cut v67 x73.1 (x73.1 + x73.2)) x97 abx) rfl rfl rfl) ?_)
 refine XQ 8 rfl rfl rfl (aI rfl) ?_
 refine XQ 9 rfl rfl rfl (bD rfl rfl) ?_
 refine X2 rfl ?_ ?_
 refine XK rfl ((bD rfl rfl).does) ?_
 refine X1 rfl (XT rfl rfl dst ?_)
 refine X1 rfl (XT rfl rfl ((aI rfl).does) ?_)
 refine ig rfl ?_
 refine ⟨(x97.2, x97.1.bY, x97.1.lF, x97.1.xL.c0, x97.1.xL.c1, x97.1.xL.c2, x97.1.xL.c3, x97.1.dh.lW, x97.1.dh.xW, x97.1.dh.xN, x97.1.xW), h, ?_⟩
 exact (Le.b (bK ⟨rfl, rfl, rfl, rfl, rfl, rfl, rfl, rfl, rfl, trivial⟩ ⟨rfl, rfl, rfl, rfl, rfl, trivial⟩))
 refine XT rfl rfl dst ?_
 refine X1 rfl (XT rfl rfl ((bD rfl rfl).does) ?_)
 refine X1 rfl (XT rfl rfl ((aI rfl).does) ?_)
 refine ig rfl ?_
 refine ⟨(x97.2, x97.1.bY, x97.1.lF, x97.1.xL.c0, x97.1.xL.c1, x97.1.xL.c2, x97.1.xL.c3, x97.1.dh.lW, x97.1.dh.xW, x97.1.dh.xN, x97.1.xW), h, ?_⟩
 exact (Le.b (bK ⟨rfl, rfl, rfl, rfl, rfl, rfl, rfl, rfl, rfl, trivial⟩ ⟨rfl, rfl, rfl, rfl, rfl, trivial⟩))
 apply gV
 refine ⟨(v67, v68, v70), h, ?_⟩
 exact (Le.b (bK ⟨rfl, rfl, rfl, rfl, trivial⟩ ⟨rfl, rfl, rfl, trivial⟩))
 apply Eso
 apply WM
 apply WM
 refine WQ (bM rfl) ?_
 obtain ⟨g98, h⟩ := aV h
 refine WQ (lK rfl rfl g98.1 g98.2) ?_
 obtain ⟨g99, h⟩ := aV h
 refine WQ (nM rfl (fun _ => rfl) rfl rfl g99.1 g99.2.1 g99.2.2) ?_
 obtain ⟨x100, aby, h⟩ := aN h
 refine W1 (aF hP (BJ F (cut a0 (((a0.length : Nat) : Int) - (8 : Int)) ((a0.length : Nat) : Int)) x100 aby) rfl rfl rfl) ?_
 apply WM
 refine WQ (bD rfl rfl) ?_
 refine WQ (bD rfl rfl) ?_
 refine W1 (dw rfl rfl) ?_
 refine W1 dst ?_
 apply WM
 refine Wk [0, 2, 4, 6, 7, 8, 9] [2, 4, 7, 8] ?_
 (try dsimp)
 apply Eso
 apply WM
 apply WM
 apply aC
 rfl
 intro hB; (try simp only [hB, bss, ctt]); exact aI rfl
 refine WQ (dK rfl rfl rfl) ?_
 refine Wk [0, 2, 4, 7, 8, 48] [2, 4, 7, 8] ?_
 (try dsimp)
 refine Ec h rfl (fun h hc101 => ?_) (fun h hc101 => ?_)
 apply eP
 refine WQ (ah rfl rfl) ?_
 refine WQ (aj rfl rfl rfl) ?_
 refine WQ (ah rfl rfl) ?_
 refine WQ (aj rfl rfl rfl) ?_
 obtain ⟨x102, abz, h⟩ := aN h
 refine WQ (CZ (vs := [(.int .u64 x1.1.tq), (.int .u64 x100.1.tq)]) hP rfl (X_i abz) rfl) ?_
 refine WQ (ah rfl rfl) ?_
 refine W1 dst ?_
 apply dn
 refine ⟨x102, h, ?_⟩
 exact (Le.b (bK ⟨rfl, rfl, rfl, rfl, trivial⟩ ⟨rfl, rfl, rfl, trivial⟩))
 apply bG
 refine ⟨x1.1.tq, h, ?_⟩
 exact (Le.b (bK ⟨rfl, rfl, rfl, rfl, trivial⟩ ⟨rfl, rfl, rfl, trivial⟩))
def Iu : dJ := (.seq (.ops [(o (.box 57 (t 0)) 1), (o (.jR [zi, zu, zu, zu, zu, zu, zi, zu, zi, .nil]) 2)]) (.seq (.seq (.ops [(o (.add 0 (t 1)) 3), (o (.load false 1 (t 3)) 4)]) (.block 0 (.seq (.ops [(o (.bin .eql 3 (t 4) (ci 2)) 6), (w 5 6)]) (.cond (t 5) (.ops [(o (.add 0 (t 1)) 7), (n_ (.store 1 (t 7) (ci 3)))]) (.seq (.ops [(o (.bin .eql 3 (t 4) (ci 1)) 9), (w 8 9)]) (.cond (t 8) (.ops [(o (.add 0 (t 1)) 10), (n_ (.store 1 (t 10) (ci 4)))]) .skip)))))) (.seq (.ops [(o (.load true 10 (t 1)) 11), (n_ (.store 10 (t 2) (t 11)))]) .ret)))
theorem QU : Fits Tryz.prog 40 1 Iu [(.cell true 10 2)] := cu Tryz.func40 (by kernel_rfl) (by kernel_rfl) (by kernel_rfl)
theorem QV (F : Nat) (a0 : bC) (r : bC) (h : pY F a0 = some r) : PC Tryz.prog 40 [S.agg [vi a0.bY, vu a0.lF, vu a0.xL.c0, vu a0.xL.c1, vu a0.xL.c2, vu a0.xL.c3, vi a0.dh.lW, vu a0.dh.xW, vi a0.dh.xN, sl bZ a0.xW]] (S.agg [vi r.bY, vu r.lF, vu r.xL.c0, vu r.xL.c1, vu r.xL.c2, vu r.xL.c3, vi r.dh.lW, vu r.dh.xW, vi r.dh.xN, sl bZ r.xW]) := by
 unfold pY at h
 refine fC QU rfl rfl ?_
 intro C hP
 unfold Iu; dsimp
 apply Eso
 refine W1 (eu rfl rfl rfl rfl) ?_
 refine W1 (dw rfl rfl) ?_
 refine Wk [1, 2] [1, 2] ?_
 (try dsimp)
 obtain ⟨k2, k2d, h⟩ := fO h
 refine dV (α := Int) (fun (i : Int) => (⟨[(1, S.one (.ptr 1 0)), (2, S.one (.ptr 2 0))], [(1, (⟨true, [vi i, vu a0.lF, vu a0.xL.c0, vu a0.xL.c1, vu a0.xL.c2, vu a0.xL.c3, vi a0.dh.lW, vu a0.dh.xW, vi a0.dh.xN, sl bZ a0.xW]⟩ : Reg)), (2, (⟨true, [vi (0 : Int), vu (0 : Int), vu (0 : Int), vu (0 : Int), vu (0 : Int), vu (0 : Int), vi (0 : Int), vu (0 : Int), vi (0 : Int), .nil]⟩ : Reg))]⟩ : St)) (fun i => k2 i = some r) (fun i h => ?_) ?_
 let iv := i; change k2 i = some r at h; generalize i = v1 at h ⊢
 rw [k2d] at h; dsimp only at h
 (try dsimp)
 apply Eso
 refine WQ qlA ?_
 refine W1 dst ?_
 refine Wk [2] [2] ?_
 (try dsimp)
 apply bI
 cases h
 (try simp only [qt, qb, qn])
 refine aT (xs := _) ⟨_, _, fG rfl (by simp), rfl, rfl, rfl⟩ ?_
 rfl
 apply Eso
 refine WQ (ah rfl rfl) ?_
 refine WQ (aj rfl rfl rfl) ?_
 refine Wk [1, 2, 4] [1, 2] ?_
 (try dsimp)
 apply bW
 apply Eso
 refine WQ (aB rfl rfl rfl) ?_
 apply WM
 refine Wk [1, 2, 4, 5] [1, 2] ?_
 (try dsimp)
 refine Ec h rfl (fun h hc3 => ?_) (fun h hc3 => ?_)
 apply eP
 refine WQ (ah rfl rfl) ?_
 refine W1 dst ?_
 apply dn
 refine ⟨(3 : Int), h, ?_⟩
 exact (Le.b (bK ⟨rfl, rfl, trivial⟩ ⟨rfl, rfl, trivial⟩))
 apply Eso
 refine WQ (aB rfl rfl rfl) ?_
 apply WM
 refine Wk [1, 2, 8] [1, 2] ?_
 (try dsimp)
 refine Ec h rfl (fun h hc4 => ?_) (fun h hc4 => ?_)
 apply eP
 refine WQ (ah rfl rfl) ?_
 refine W1 dst ?_
 apply dn
 refine ⟨(4 : Int), h, ?_⟩
 exact (Le.b (bK ⟨rfl, rfl, trivial⟩ ⟨rfl, rfl, trivial⟩))
 apply bG
 refine ⟨a0.bY, h, ?_⟩
 exact (Le.b (bK ⟨rfl, rfl, trivial⟩ ⟨rfl, rfl, trivial⟩))
def wI : dJ := (.seq (.ops [(o (.mv (.const (.int .u64 0))) 2)]) (.seq (.seq (.ops [(w 5 0), (o (.len false (t 5)) 6), (o (.bin .lss 3 (t 6) (ci 1)) 7)]) (.cond (t 7) (.ops [(o .bad 8), (n_ .bad)]) .skip)) (.seq (.ops [(w 9 0), (o (.gJ 1 (t 9) (ci 0)) 10), (o (.load false 1 (t 10)) 11), (w 3 11)]) (.seq (.seq (.ops [(o (.mv (ci 1)) 4)]) (.block 0 (.loop (.seq (.seq (.ops [(w 12 4), (w 13 0), (o (.len false (t 13)) 14), (o (.bin .lss 3 (t 12) (t 14)) 15)]) (.cond (t 15) .skip (.exit 0))) (.seq (.block 1 (.ops [(w 18 3), (w 19 0), (w 20 4), (o (.gJ 1 (t 19) (t 20)) 21), (o (.load false 1 (t 21)) 22), (o (.bi .max #[42, 42] 42 #[false, false] [(t 18), (t 22)]) 23), (w 3 23)])) (.ops [(w 16 4), (o (.bin .add 3 (t 16) (ci 1)) 17), (w 4 17)])))))) (.seq (.ops [(w 24 3), (w 2 24)]) .ret)))))
theorem Dt : Fits Tryz.prog 104 1 wI [(.tmp 2)] := cu Tryz.func104 (by kernel_rfl) (by kernel_rfl) (by kernel_rfl)
theorem Du (F : Nat) (a0 : (List Int)) (r : Int) (h : ni F a0 = some r) : PC Tryz.prog 104 [ss cO a0] (zu_ r) := by
 unfold ni at h
 refine fC Dt rfl rfl ?_
 intro C hP
 unfold wI; dsimp
 apply Eso
 apply WM
 refine Wk [0] [] ?_
 (try dsimp)
 obtain ⟨k1, k1d, h⟩ := fO h
 refine dV (α := Unit) (fun (i : Unit) => (⟨[(0, ss cO a0)], []⟩ : St)) (fun i => k1 () = some r) (fun i h => ?_) ?_
 rw [k1d] at h; dsimp only at h
 (try dsimp)
 apply Eso
 apply WM
 obtain ⟨g2, h⟩ := aV h
 refine WQ (aX rfl rfl g2.1 g2.2) ?_
 refine WQ (aZ (k := 1) rfl (fun _ => rfl) g2 0 rfl rfl) ?_
 apply WM
 refine Wk [0, 3] [] ?_
 (try dsimp)
 obtain ⟨k4, k4d, h⟩ := fO h
 refine dV (α := Int) (fun (i : Int) => (⟨[(3, (zu_ i))], []⟩ : St)) (fun i => k4 i = some r) (fun i h => ?_) ?_
 let iv := i; change k4 i = some r at h; generalize i = v3 at h ⊢
 rw [k4d] at h; dsimp only at h
 (try dsimp)
 apply Eso
 apply WM
 apply WM
 refine Wk [2] [] ?_
 (try dsimp)
 apply bI
 cases h
 (try simp only [qt, qb, qn])
 refine aT (xs := _) ⟨_, rfl, rfl⟩ ?_
 rfl
 apply Eso
 apply WM
 apply dn
 (try dsimp)
 apply bW
 (try dsimp)
 refine fD (α := Int × Int) (fun (i : Int × Int) => (⟨[(0, ss cO a0), (3, (zu_ i.1)), (4, (zi_ i.2))], []⟩ : St)) (fun n i => kD F a0 k4 n i.1 i.2 = some r) F ((nth a0 (0 : Int)), (1 : Int)) h ?_ (fun n i h => ?_)
 exact (Le.b (bK ⟨rfl, rfl, rfl, trivial⟩ trivial))
 obtain ⟨v15, v16⟩ := i; dsimp only at h
 obtain _ | n17 := n
 cases h
 unfold kD at h
 (try dsimp)
 apply bP
 apply Eso
 apply WM
 apply WM
 refine WQ (bM rfl) ?_
 refine WQ (aB rfl rfl rfl) ?_
 refine Wk [0, 3, 4, 15] [] ?_
 (try dsimp)
 refine Ec h rfl (fun h hc18 => ?_) (fun h hc18 => ?_)
 apply bG
 refine bf [0, 3, 4] [] ?_
 (try dsimp)
 apply bP
 apply bW
 apply eP
 apply WM
 apply WM
 apply WM
 obtain ⟨g19, h⟩ := aV h
 refine WQ (aX rfl rfl g19.1 g19.2) ?_
 refine WQ (aZ (k := 1) rfl (fun _ => rfl) g19 0 rfl rfl) ?_
 obtain ⟨x20, aaG, h⟩ := aN h
 refine WQ (CZ (vs := [(.int .u64 v15), (.int .u64 (nth a0 v16))]) hP rfl (X_i aaG) rfl) ?_
 apply WM
 refine Wk [0, 3, 4] [] ?_
 (try dsimp)
 apply eP
 apply WM
 obtain ⟨g21, h⟩ := aV h
 refine WQ (cZ rfl rfl g21.1 g21.2) ?_
 apply WM
 apply dn
 refine ⟨n17, (x20, (v16 + (1 : Int))), Nat.lt_succ_self _, h, ?_⟩
 exact (Le.b (bK ⟨rfl, rfl, rfl, trivial⟩ trivial))
 apply gV
 refine ⟨v15, h, ?_⟩
 exact (Le.b (bK ⟨rfl, trivial⟩ trivial))
 apply Eso
 apply WM
 refine WQ (bM rfl) ?_
 refine WQ (aB rfl rfl rfl) ?_
 refine Wk [0, 7] [] ?_
 (try dsimp)
 refine Ec h rfl (fun h hc22 => ?_) (fun h hc22 => ?_)
 apply eP
 cases h
 apply bG
 refine ⟨(), h, ?_⟩
 exact (Le.b (bK ⟨rfl, trivial⟩ trivial))
def Iw : dJ := (.seq (.ops [(o (.box 57 (t 0)) 1), (o (.mv (.const (.int .u64 0))) 2)]) (.seq (.ops [(o (.add 0 (t 1)) 6), (o (.load false 1 (t 6)) 7), (o (.jF .u64 (t 7)) 8), (o (.add 6 (t 1)) 9), (o (.add 0 (t 9)) 10), (o (.load false 1 (t 10)) 11), (o (.jF .u64 (t 11)) 12), (o (.add 9 (t 1)) 13), (o (.load false 1 (t 13)) 14), (o (.len false (t 14)) 15), (o (.jF .u64 (t 15)) 16), (o (.add 1 (t 1)) 17), (o (.load false 1 (t 17)) 18), (o (.kK 1 42 4 [zu, zu, zu, zu] [(0, (1, (t 8))), (1, (1, (t 12))), (2, (1, (t 16))), (3, (1, (t 18)))]) 19), (w 3 19)]) (.seq (.ops [(o (.call 103 []) 21), (w 22 3), (o (.call 98 [(t 21), (t 22)]) 23), (w 20 23), (o (.ext 0 (t 20)) 24), (o (.ext 1 (t 20)) 25), (w 4 24), (w 5 25)]) (.seq (.seq (.ops [(w 26 5), (o (.un .not (t 26)) 27), (w 28 27), (g_ (.add 9 (t 1)) 29 28 false), (g_ (.load false 1 (t 29)) 30 28 false), (g_ (.len false (t 30)) 31 28 false), (g_ (.bin .gtr 3 (t 31) (ci 600)) 32 28 false), (o (.pick (t 28) (cb true) (t 32)) 33), (w 34 33), (g_ (.mv (t 3)) 35 34 false), (g_ (.slc 1 (t 35) .none (.some (ci 2)) .none) 36 34 false), (g_ (.call 104 [(t 36)]) 37 34 false), (g_ (.bin .gtr 42 (t 37) (.const (.int .u64 255))) 38 34 false), (o (.pick (t 34) (cb true) (t 38)) 39)]) (.cond (t 39) (.seq (.ops [(o (.mv (.const (.int .u64 0))) 2)]) .ret) .skip)) (.seq (.ops [(w 40 4), (w 2 40)]) .ret)))))
theorem QW : Fits Tryz.prog 65 1 Iw [(.tmp 2)] := cu Tryz.func65 (by kernel_rfl) (by kernel_rfl) (by kernel_rfl)
theorem Iy (F : Nat) (a0 : bC) (r : Int) (h : lN F a0 = some r) : PC Tryz.prog 65 [S.agg [vi a0.bY, vu a0.lF, vu a0.xL.c0, vu a0.xL.c1, vu a0.xL.c2, vu a0.xL.c3, vi a0.dh.lW, vu a0.dh.xW, vi a0.dh.xN, sl bZ a0.xW]] (zu_ r) := by
 unfold lN at h
 refine fC QW rfl rfl ?_
 intro C hP
 unfold Iw; dsimp
 apply Eso
 refine W1 (eu rfl rfl rfl rfl) ?_
 apply WM
 refine Wk [1] [1] ?_
 (try dsimp)
 apply Eso
 refine WQ (ah rfl rfl) ?_
 refine WQ (aj rfl rfl rfl) ?_
 refine WQ (dF rfl) ?_
 refine WQ (ah rfl rfl) ?_
 refine WQ (ah rfl rfl) ?_
 refine WQ (aj rfl rfl rfl) ?_
 refine WQ (dF rfl) ?_
 refine WQ (ah rfl rfl) ?_
 refine WQ (aj rfl rfl rfl) ?_
 refine WQ (bM rfl) ?_
 refine WQ (dF rfl) ?_
 refine WQ (ah rfl rfl) ?_
 refine WQ (aj rfl rfl rfl) ?_
 refine W1 (dY rfl rfl rfl rfl) ?_
 apply WM
 refine Wk [1, 3] [1, 19] ?_
 (try dsimp)
 apply Eso
 obtain ⟨x1, x1h, h⟩ := aN h
 refine W1 (aF hP (FW F  x1 x1h) rfl rfl rfl) ?_
 apply WM
 obtain ⟨x2, x2h, h⟩ := aN h
 refine W1 (oh hP (uZ F x1 ([(IntKind.u64.wrap a0.bY), (IntKind.u64.wrap a0.dh.lW), (IntKind.u64.wrap ((a0.xW.length : Nat) : Int)), a0.lF] : List Int) x2 x2h) rfl rfl) ?_
 apply WM
 refine WQ (bD rfl rfl) ?_
 refine WQ (bD rfl rfl) ?_
 apply WM
 apply WM
 refine Wk [1, 3, 4, 5] [1, 19] ?_
 (try dsimp)
 apply bP
 apply Eso
 apply WM
 refine WQ (dM rfl) ?_
 apply WM
 apply aC
 rfl
 intro hB; (try simp only [hB, bss, ctt]); exact ah rfl rfl
 apply aC
 rfl
 intro hB; (try simp only [hB, bss, ctt]); exact aj rfl rfl rfl
 apply aC
 rfl
 intro hB; (try simp only [hB, bss, ctt]); exact bM rfl
 apply aC
 rfl
 intro hB; (try simp only [hB, bss, ctt]); exact aB rfl rfl rfl
 refine WQ (dS rfl rfl rfl) ?_
 apply WM
 apply aC
 rfl
 intro hB; (try simp only [hB, bss, ctt]); exact aI rfl
 obtain ⟨g3, h⟩ := aV h
 apply aC
 rfl
 intro hB; (try simp only [hB, bss, ctt]); exact wW rfl rfl rfl rfl (g3 hB).1 (g3 hB).2.1 (g3 hB).2.2
 obtain ⟨x4, x4h, h⟩ := aN h
 apply jk
 rfl
 intro hB; (try simp only [hB, bss, ctt]); exact oh hP (XU (m := 2) (cs := [vu (IntKind.u64.wrap a0.bY), vu (IntKind.u64.wrap a0.dh.lW), vu (IntKind.u64.wrap ((a0.xW.length : Nat) : Int)), vu a0.lF]) (Du F ([(IntKind.u64.wrap a0.bY), (IntKind.u64.wrap a0.dh.lW)] : List Int) x4 (jW x4h (bt hB)))) rfl rfl
 apply aC
 rfl
 intro hB; (try simp only [hB, bss, ctt]); exact aB rfl rfl rfl
 refine WQ (dS rfl rfl rfl) ?_
 refine Wk [4, 39] [] ?_
 (try dsimp)
 refine Ec h rfl (fun h hc5 => ?_) (fun h hc5 => ?_)
 apply Eso
 apply WM
 refine Wk [2] [] ?_
 (try dsimp)
 apply bI
 cases h
 (try simp only [qt, qb, qn])
 refine aT (xs := _) ⟨_, rfl, rfl⟩ ?_
 rfl
 apply bG
 refine bf [4] [] ?_
 (try dsimp)
 apply Eso
 apply WM
 apply WM
 refine Wk [2] [] ?_
 (try dsimp)
 apply bI
 cases h
 (try simp only [qt, qb, qn])
 refine aT (xs := _) ⟨_, rfl, rfl⟩ ?_
 rfl
def KQ : dJ := (.seq (.ops [(o (.box 23 (t 0)) 1), (o (.mv (ci 0)) 2)]) (.seq (.seq (.ops [(o (.load true 3 (t 1)) 3), (o (.call 38 [(t 3)]) 4), (o (.un .not (t 4)) 5)]) (.cond (t 5) (.seq (.ops [(o (.mv (ci 0)) 2)]) .ret) .skip)) (.seq (.ops [(o (.mv (ci 8)) 2)]) .ret)))
theorem TM : Fits Tryz.prog 69 1 KQ [(.tmp 2)] := cu Tryz.func69 (by kernel_rfl) (by kernel_rfl) (by kernel_rfl)
theorem KR (F : Nat) (a0 : bg) (r : Int) (h : uQ F a0 = some r) : PC Tryz.prog 69 [S.agg [vi a0.ak, vi a0.au, vi a0.ay]] (zi_ r) := by
 unfold uQ at h
 refine fC TM rfl rfl ?_
 intro C hP
 unfold KQ; dsimp
 apply Eso
 refine W1 (eu rfl rfl rfl rfl) ?_
 apply WM
 refine Wk [1] [1] ?_
 (try dsimp)
 apply bP
 apply Eso
 refine WQ qlA ?_
 obtain ⟨x1, x1h, h⟩ := aN h
 refine W1 (aF hP (nZ F a0 x1 x1h) rfl rfl rfl) ?_
 refine WQ (dM rfl) ?_
 refine Wk [5] [] ?_
 (try dsimp)
 refine Ec h rfl (fun h hc2 => ?_) (fun h hc2 => ?_)
 apply Eso
 apply WM
 refine Wk [2] [] ?_
 (try dsimp)
 apply bI
 cases h
 (try simp only [qt, qb, qn])
 refine aT (xs := _) ⟨_, rfl, rfl⟩ ?_
 rfl
 apply bG
 refine bf [] [] ?_
 (try dsimp)
 apply Eso
 apply WM
 apply dn
 (try dsimp)
 apply bI
 cases h
 (try simp only [qt, qb, qn])
 refine aT (xs := _) ⟨_, rfl, rfl⟩ ?_
 rfl
def FX : dJ := (.seq (.ops [(o (.box 97 (t 0)) 2), (o (.mv cn) 4)]) (.seq (.ops [(o (.mv cn) 5)]) (.seq (.seq (.ops [(o (.add 0 (t 2)) 8), (o (.add 0 (t 8)) 9), (o (.load true 3 (t 9)) 10), (o (.add 6 (t 2)) 11), (o (.load false 1 (t 11)) 12), (o (.build [zi, zi, zi, zu] [(0, (3, (t 10))), (3, (1, (t 12)))]) 13), (o (.call 57 [(t 13)]) 14), (o (.len false (t 14)) 15), (o (.mv (ci 0)) 16)]) (.block 0 (.loop (.seq (.ops [(o (.bin .lss 3 (t 16) (t 15)) 17)]) (.seq (.cond (t 17) .skip (.exit 0)) (.seq (.block 1 (.seq (.ops [(w 18 16), (o (.gJ 1 (t 14) (t 16)) 19), (o (.load false 1 (t 19)) 20), (w 6 18), (w 7 20)]) (.ops [(w 21 5), (w 22 1), (w 23 6), (o (.bin .add 3 (t 22) (t 23)) 24), (w 25 7), (o (.build [zi, zu] [(0, (1, (t 24))), (1, (1, (t 25)))]) 26), (o (.kK 2 154 1 [zi, zu] [(0, (2, (t 26)))]) 27), (o (.app 55 154 2 16 (t 21) (t 27)) 28), (w 5 28)]))) (.ops [(o (.bin .add 3 (t 16) (ci 1)) 29), (w 16 29)]))))))) (.seq (.ops [(w 30 5), (w 4 30)]) .ret))))
theorem Ph : Fits Tryz.prog 70 2 FX [(.tmp 4)] := cu Tryz.func70 (by kernel_rfl) (by kernel_rfl) (by kernel_rfl)
theorem xg (F : Nat) (a0 : iJ) (a1 : Int) (r : (List aA)) (h : kW F a0 a1 = some r) : PC Tryz.prog 70 [S.agg [vi a0.xs.bH.ak, vi a0.xs.bH.au, vi a0.xs.bH.ay, sl aQ a0.xs.au, sl aS a0.xs.ay, sl gI a0.mO, vu a0.lQ, vb a0.mZ], (zi_ a1)] (ss bZ r) := by
 unfold kW at h
 refine fC Ph rfl rfl ?_
 intro C hP
 unfold FX; dsimp
 apply Eso
 refine W1 (eu rfl rfl rfl rfl) ?_
 apply WM
 refine Wk [1, 2] [2] ?_
 (try dsimp)
 apply Eso
 apply WM
 apply dn
 (try dsimp)
 obtain ⟨k2, k2d, h⟩ := fO h
 refine dV (α := (List aA)) (fun (i : (List aA)) => (⟨[(5, S.one (.own 1028 0 i.length (some (2, 154))))], [(1028, (⟨true, flat bZ i⟩ : Reg))]⟩ : St)) (fun i => k2 i = some r) (fun i h => ?_) ?_
 let iv := i; change k2 i = some r at h; generalize i = v1 at h ⊢
 rw [k2d] at h; dsimp only at h
 (try dsimp)
 apply Eso
 apply WM
 apply WM
 refine Wk [4] [1028] ?_
 (try dsimp)
 refine fA (l7 (r := 1028) rfl rfl).b ?_
 (try dsimp)
 apply bI
 cases h
 (try simp only [qt, qb, qn])
 refine aT (xs := _) ⟨_, rfl, rfl⟩ ?_
 rfl
 apply Eso
 refine WQ (ah rfl rfl) ?_
 refine WQ (ah rfl rfl) ?_
 refine WQ qlA ?_
 refine WQ (ah rfl rfl) ?_
 refine WQ (aj rfl rfl rfl) ?_
 refine WQ (bV rfl rfl) ?_
 obtain ⟨x3, x3h, h⟩ := aN h
 refine W1 (aF hP (BI F (⟨a0.xs.bH, a0.lQ⟩ : dQ) x3 x3h) rfl rfl rfl) ?_
 refine WQ (bM rfl) ?_
 apply WM
 refine Wk [1, 5, 14, 15, 16] [] ?_
 (try dsimp)
 apply bW
 (try dsimp)
 refine fD (α := Int × (List aA)) (fun (i : Int × (List aA)) => (⟨[(1, (zi_ a1)), (5, S.one (.own 1028 0 i.2.length (some (2, 154)))), (14, ss cO x3), (15, (zi_ ((x3.length : Nat) : Int))), (16, (zi_ i.1))], [(1028, (⟨true, flat bZ i.2⟩ : Reg))]⟩ : St)) (fun n i => mX F a1 k2 x3 n i.1 i.2 = some r) F ((0 : Int), ([] : List aA)) h ?_ (fun n i h => ?_)
 refine iZ (sV (i := 5) (r := 1028) 2 154 rfl rfl) ?_
 exact (Le.b (bK ⟨rfl, rfl, rfl, rfl, rfl, trivial⟩ ⟨rfl, trivial⟩))
 obtain ⟨v16, v17⟩ := i; dsimp only at h
 obtain _ | n18 := n
 cases h
 unfold mX at h
 (try dsimp)
 apply Eso
 refine WQ (aB rfl rfl rfl) ?_
 apply dn
 (try dsimp)
 apply bP
 refine Ec h rfl (fun h hc19 => ?_) (fun h hc19 => ?_)
 apply bG
 refine bf [1, 5, 14, 15, 16] [1028] ?_
 (try dsimp)
 apply bP
 apply bW
 apply Eso
 apply WM
 obtain ⟨g20, h⟩ := aV h
 refine WQ (aX rfl rfl g20.1 g20.2) ?_
 refine WQ (aZ (k := 1) rfl (fun _ => rfl) g20 0 rfl rfl) ?_
 apply WM
 apply WM
 refine Wk [1, 5, 6, 7, 14, 15, 16] [1028] ?_
 (try dsimp)
 apply eP
 apply WM
 apply WM
 apply WM
 obtain ⟨g21, h⟩ := aV h
 refine WQ (cZ rfl rfl g21.1 g21.2) ?_
 apply WM
 refine WQ (bV rfl rfl) ?_
 refine W1 (dY rfl rfl rfl rfl) ?_
 obtain ⟨g22, h⟩ := aV h
 refine W1 (jc (e := bZ) rfl rfl (fun _ => rfl) (fun _ => rfl) rfl (Src.lit (e := bZ) ([(⟨(a1 + v16), (nth x3 v16)⟩ : aA)] : List aA) rfl (fun _ => rfl) rfl rfl) g22 rfl) ?_
 apply WM
 refine Wk [1, 5, 14, 15, 16] [1028] ?_
 (try dsimp)
 apply eP
 obtain ⟨g23, h⟩ := aV h
 refine WQ (cZ rfl rfl g23.1 g23.2) ?_
 apply WM
 apply dn
 refine ⟨n18, ((v16 + (1 : Int)), (v17 ++ ([(⟨(a1 + v16), (nth x3 v16)⟩ : aA)] : List aA))), Nat.lt_succ_self _, h, ?_⟩
 exact (Le.b (bK ⟨rfl, rfl, rfl, rfl, rfl, trivial⟩ ⟨rfl, trivial⟩))
 apply gV
 refine ⟨v17, h, ?_⟩
 exact (Le.b (bK ⟨rfl, trivial⟩ ⟨rfl, trivial⟩))
end Go.V.P
