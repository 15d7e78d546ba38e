/- Walks: each function does what its model says: reeve/tag.Good, reeve/tag.Put, reeve/cap.Word, reeve/geo.Thing, reeve/thing.bytes, reeve/thing.pairs, reeve/thing.Put, reeve/image.Put, reeve/nvm.New, reeve/nvm.From, reeve/boot.Make, (*reeve/nvm.Mem).Off, (*reeve/nvm.Mem).Words, slices.Equal[[]uint64,uint64], reeve/super.Get, reeve/super.Find, reeve/geo.Desc, reeve/opd.fields, reeve/tag.Get, reeve/wset.Good, reeve/opd.Good. Printed by mg.py. No premises. -/
import Derived.Test.YteocabneaenpeaaGreatP2
set_option linter.unusedVariables false
set_option linter.unusedSimpArgs false
set_option maxRecDepth 20000
set_option maxHeartbeats 4000000
namespace Go.V.P
open Go.V Go.Proofs
def KF : dJ := (.seq (.ops [(o (.mv (cb false)) 2)]) (.seq (.ops [(w 6 0), (o (.call 159 [(t 6)]) 7), (w 5 7), (o (.ext 0 (t 5)) 8), (o (.ext 1 (t 5)) 9), (w 3 8), (w 4 9)]) (.seq (.ops [(w 10 4), (w 2 10)]) .ret)))
theorem Tt : Fits Tryz.prog 139 1 KF [(.tmp 2)] := cu Tryz.func139 (by kernel_rfl) (by kernel_rfl) (by kernel_rfl)
theorem KG (F : Nat) (a0 : (List aU)) (r : Bool) (h : fQ F a0 = some r) : PC Tryz.prog 139 [ss iH a0] (zb_ r) := by
 unfold fQ at h
 refine fC Tt rfl rfl ?_
 intro C hP
 unfold KF; dsimp
 apply Eso
 apply WM
 refine Wk [0] [] ?_
 (try dsimp)
 apply Eso
 apply WM
 obtain ⟨x1, x1h, h⟩ := aN h
 refine W1 (aF hP (Np F a0 x1 x1h) rfl rfl rfl) ?_
 apply WM
 refine WQ (bD rfl rfl) ?_
 refine WQ (bD rfl rfl) ?_
 apply WM
 apply WM
 refine Wk [4] [] ?_
 (try dsimp)
 apply Eso
 apply WM
 apply WM
 refine Wk [2] [] ?_
 (try dsimp)
 apply bI
 cases h
 (try simp only [qt, qb, qn])
 refine aT (xs := _) ⟨_, rfl, rfl⟩ ?_
 rfl
def Nq : dJ := (.seq (.ops [(o (.mv (.const (.int .u64 0))) 4), (o (.mv (cb false)) 5)]) (.seq (.seq (.ops [(w 9 0), (o (.call 139 [(t 9)]) 10), (o (.un .not (t 10)) 11), (w 12 11), (g_ (.mv (t 0)) 13 12 false), (g_ (.len false (t 13)) 14 12 false), (g_ (.mv (t 1)) 15 12 false), (g_ (.len false (t 15)) 16 12 false), (g_ (.bin .neq 3 (t 14) (t 16)) 17 12 false), (o (.pick (t 12) (cb true) (t 17)) 18)]) (.cond (t 18) (.seq (.ops [(o (.mv (.const (.int .u64 0))) 4), (o (.mv (cb false)) 5)]) .ret) .skip)) (.seq (.ops [(o (.mv (.const (.int .u64 0))) 6)]) (.seq (.seq (.ops [(w 19 0), (o (.len false (t 19)) 20), (o (.mv (ci 0)) 21)]) (.block 0 (.loop (.seq (.ops [(o (.bin .lss 3 (t 21) (t 20)) 22)]) (.seq (.cond (t 22) .skip (.exit 0)) (.seq (.block 1 (.seq (.ops [(w 23 21), (o (.gJ 2 (t 19) (t 21)) 24), (o (.load true 2 (t 24)) 25), (o (.jR [zi, zi]) 8), (w 7 23), (n_ (.store 2 (t 8) (t 25)))]) (.seq (.seq (.draw [((w 26 1), []), ((w 27 7), []), ((o (.gJ 1 (t 26) (t 27)) 28), [0, 1]), ((o (.load false 1 (t 28)) 29), [2]), ((o (.load true 2 (t 8)) 30), []), ((o (.call 140 [(t 30)]) 31), [4]), ((o (.add 0 (t 8)) 32), []), ((o (.load false 1 (t 32)) 33), [6]), ((o (.bin .shr 42 (t 31) (t 33)) 34), [5, 7]), ((o (.bin .gtr 42 (t 29) (t 34)) 35), [3, 8])]) (.cond (t 35) (.seq (.ops [(o (.mv (.const (.int .u64 0))) 4), (o (.mv (cb false)) 5)]) .ret) .skip)) (.draw [((w 36 6), []), ((w 37 1), []), ((w 38 7), []), ((o (.gJ 1 (t 37) (t 38)) 39), [1, 2]), ((o (.load false 1 (t 39)) 40), [3]), ((o (.add 0 (t 8)) 41), []), ((o (.load false 1 (t 41)) 42), [5]), ((o (.bin .shl 42 (t 40) (t 42)) 43), [4, 6]), ((o (.bin .or 42 (t 36) (t 43)) 44), [0, 7]), ((w 6 44), [8, 0, 1, 2, 3, 4, 5, 6, 7, 8])])))) (.ops [(o (.bin .add 3 (t 21) (ci 1)) 45), (w 21 45)]))))))) (.seq (.ops [(w 46 6), (w 4 46), (o (.mv (cb true)) 5)]) .ret)))))
theorem Vw : Fits Tryz.prog 98 2 Nq [(.tmp 4), (.tmp 5)] := cu Tryz.func98 (by kernel_rfl) (by kernel_rfl) (by kernel_rfl)
theorem uZ (F : Nat) (a0 : (List aU)) (a1 : (List Int)) (r : Int × Bool) (h : jK F a0 a1 = some r) : PC Tryz.prog 98 [ss iH a0, ss cO a1] (S.tup [(zu_ r.1), (zb_ r.2)]) := by
 unfold jK at h
 refine fC Vw rfl rfl ?_
 intro C hP
 unfold Nq; dsimp
 apply Eso
 apply WM
 apply WM
 refine Wk [0, 1] [] ?_
 (try dsimp)
 apply bP
 apply Eso
 apply WM
 obtain ⟨x1, x1h, h⟩ := aN h
 refine W1 (aF hP (KG F a0 x1 x1h) rfl rfl rfl) ?_
 refine WQ (dM rfl) ?_
 apply WM
 apply aC
 rfl
 intro hB; (try simp only [hB, bss, ctt]); exact aI rfl
 apply aC
 rfl
 intro hB; (try simp only [hB, bss, ctt]); exact bM rfl
 apply aC
 rfl
 intro hB; (try simp only [hB, bss, ctt]); exact aI rfl
 apply aC
 rfl
 intro hB; (try simp only [hB, bss, ctt]); exact bM rfl
 apply aC
 rfl
 intro hB; (try simp only [hB, bss, ctt]); exact aB rfl rfl rfl
 refine WQ (dS rfl rfl rfl) ?_
 refine Wk [0, 1, 18] [] ?_
 (try dsimp)
 refine Ec h rfl (fun h hc2 => ?_) (fun h hc2 => ?_)
 apply Eso
 apply WM
 apply WM
 refine Wk [4, 5] [] ?_
 (try dsimp)
 apply bI
 cases h
 (try simp only [qt, qb, qn])
 refine aT (xs := _) ⟨_, rfl, ⟨_, rfl, rfl⟩⟩ ?_
 rfl
 apply bG
 refine bf [0, 1] [] ?_
 (try dsimp)
 apply Eso
 apply WM
 apply dn
 (try dsimp)
 obtain ⟨k4, k4d, h⟩ := fO h
 refine dV (α := Int) (fun (i : Int) => (⟨[(6, (zu_ i))], []⟩ : St)) (fun i => k4 i = some r) (fun i h => ?_) ?_
 let iv := i; change k4 i = some r at h; generalize i = v3 at h ⊢
 rw [k4d] at h; dsimp only at h
 (try dsimp)
 apply Eso
 apply WM
 apply WM
 apply WM
 refine Wk [4, 5] [] ?_
 (try dsimp)
 apply bI
 cases h
 (try simp only [qt, qb, qn])
 refine aT (xs := _) ⟨_, rfl, ⟨_, rfl, rfl⟩⟩ ?_
 rfl
 apply Eso
 apply WM
 refine WQ (bM rfl) ?_
 apply WM
 refine Wk [1, 6, 19, 20, 21] [] ?_
 (try dsimp)
 apply bW
 (try dsimp)
 refine fD (α := Int × Int) (fun (i : Int × Int) => (⟨[(1, ss cO a1), (6, (zu_ i.1)), (19, ss iH a0), (20, (zi_ ((a0.length : Nat) : Int))), (21, (zi_ i.2))], []⟩ : St)) (fun n i => gY F a0 a1 k4 n i.1 i.2 = some r) F ((0 : Int), (0 : Int)) h ?_ (fun n i h => ?_)
 exact (Le.b (bK ⟨rfl, rfl, rfl, rfl, rfl, trivial⟩ trivial))
 obtain ⟨v25, v26⟩ := i; dsimp only at h
 obtain _ | n27 := n
 cases h
 unfold gY at h
 (try dsimp)
 apply Eso
 refine WQ (aB rfl rfl rfl) ?_
 apply dn
 (try dsimp)
 apply bP
 refine Ec h rfl (fun h hc28 => ?_) (fun h hc28 => ?_)
 apply bG
 refine bf [1, 6, 19, 20, 21] [] ?_
 (try dsimp)
 apply bP
 apply bW
 apply Eso
 apply WM
 obtain ⟨g29, h⟩ := aV h
 refine WQ (aX rfl rfl g29.1 g29.2) ?_
 refine WQ (dX (k := 2) rfl (fun _ => rfl) g29 0 rfl rfl rfl) ?_
 refine W1 (dw rfl rfl) ?_
 apply WM
 refine W1 dst ?_
 refine Wk [1, 6, 7, 8, 19, 20, 21] [8] ?_
 (try dsimp)
 apply bP
 apply bP
 obtain ⟨g30, h⟩ := aV h
 obtain ⟨x31, aaB, h⟩ := aN h
 obtain ⟨g32, h⟩ := aV h
 refine iY [0, 1, 2, 3, 4, 6, 7, 8, 9] ?_
 refine XQ 0 rfl rfl rfl (aI rfl) ?_
 refine XQ 1 rfl rfl rfl (aI rfl) ?_
 refine XQ 2 rfl rfl rfl (aX rfl rfl g30.1 g30.2) ?_
 refine XQ 3 rfl rfl rfl (aZ (k := 1) rfl (fun _ => rfl) g30 0 rfl rfl) ?_
 refine XQ 4 rfl rfl rfl qlA ?_
 refine XQ 6 rfl rfl rfl (ah rfl rfl) ?_
 refine XQ 7 rfl rfl rfl (aj rfl rfl rfl) ?_
 (try dsimp)
 refine X1 rfl (XK rfl (aF hP (rF F (nth a0 v26) x31 aaB) rfl rfl rfl) ?_)
 refine XQ 8 rfl rfl rfl (zl rfl rfl g32) ?_
 refine XQ 9 rfl rfl rfl (aB rfl rfl rfl) ?_
 refine ig rfl ?_
 refine bf [1, 6, 7, 8, 19, 20, 21, 35] [8] ?_
 (try dsimp)
 refine Ec h rfl (fun h ade => ?_) (fun h ade => ?_)
 apply Eso
 apply WM
 apply WM
 refine Wk [4, 5] [] ?_
 (try dsimp)
 apply bI
 cases h
 (try simp only [qt, qb, qn])
 refine aT (xs := _) ⟨_, rfl, ⟨_, rfl, rfl⟩⟩ ?_
 rfl
 apply bG
 refine bf [1, 6, 7, 8, 19, 20, 21] [8] ?_
 (try dsimp)
 obtain ⟨g34, h⟩ := aV h
 obtain ⟨g35, h⟩ := aV h
 refine iY [0, 1, 2, 3, 4, 5, 6, 7, 8, 9] ?_
 refine XQ 0 rfl rfl rfl (aI rfl) ?_
 refine XQ 1 rfl rfl rfl (aI rfl) ?_
 refine XQ 2 rfl rfl rfl (aI rfl) ?_
 refine XQ 3 rfl rfl rfl (aX rfl rfl g34.1 g34.2) ?_
 refine XQ 4 rfl rfl rfl (aZ (k := 1) rfl (fun _ => rfl) g34 0 rfl rfl) ?_
 refine XQ 5 rfl rfl rfl (ah rfl rfl) ?_
 refine XQ 6 rfl rfl rfl (aj rfl rfl rfl) ?_
 refine XQ 7 rfl rfl rfl (vU rfl rfl g35) ?_
 refine XQ 8 rfl rfl rfl (aB rfl rfl rfl) ?_
 refine XQ 9 rfl rfl rfl (aI rfl) ?_
 refine ig rfl ?_
 refine bf [1, 6, 19, 20, 21] [] ?_
 (try dsimp)
 apply eP
 obtain ⟨g36, h⟩ := aV h
 refine WQ (cZ rfl rfl g36.1 g36.2) ?_
 apply WM
 apply dn
 refine ⟨n27, ((ior .u64 v25 (o9 .u64 (nth a1 v26) ((nth a0 v26).fE))), (v26 + (1 : Int))), Nat.lt_succ_self _, h, ?_⟩
 exact (Le.b (bK ⟨rfl, rfl, rfl, rfl, rfl, trivial⟩ trivial))
 apply gV
 refine ⟨v25, h, ?_⟩
 exact (Le.b (bK ⟨rfl, trivial⟩ trivial))
def KH : dJ := (.seq (.ops [(o (.box 109 (t 0)) 1), (o (.mv (.const (.int .u64 0))) 2), (o (.mv (cb false)) 3)]) (.seq (.seq (.ops [(o (.load true 4 (t 1)) 4), (o (.call 97 [(t 4)]) 5), (o (.un .not (t 5)) 6)]) (.cond (t 6) (.seq (.ops [(o (.mv (.const (.int .u64 0))) 2), (o (.mv (cb false)) 3)]) .ret) .skip)) (.seq (.draw [((o (.call 99 []) 7), []), ((o (.add 0 (t 1)) 8), []), ((o (.load false 1 (t 8)) 9), [1]), ((o (.jF .u64 (t 9)) 10), [2]), ((o (.add 2 (t 1)) 11), []), ((o (.load false 1 (t 11)) 12), [4]), ((o (.jF .u64 (t 12)) 13), [5]), ((o (.add 3 (t 1)) 14), []), ((o (.load false 1 (t 14)) 15), [7]), ((o (.jF .u64 (t 15)) 16), [8]), ((o (.add 1 (t 1)) 17), []), ((o (.load false 1 (t 17)) 18), [10]), ((o (.jF .u64 (t 18)) 19), [11]), ((o (.kK 1 42 4 [zu, zu, zu, zu] [(0, (1, (t 10))), (1, (1, (t 13))), (2, (1, (t 16))), (3, (1, (t 19)))]) 20), [3, 6, 9, 12]), ((o (.call 98 [(t 7), (t 20)]) 21), [0, 13, 0]), ((o (.ext 0 (t 21)) 22), [14]), ((o (.ext 1 (t 21)) 23), [14]), ((w 2 22), [15, 14, 0, 1, 2, 3, 4, 5, 6, 7, 8, 9, 10, 11, 12, 13, 14, 15, 16]), ((w 3 23), [16, 17, 0, 1, 2, 3, 4, 5, 6, 7, 8, 9, 10, 11, 12, 13, 14, 15, 16, 17])]) .ret)))
theorem Tv : Fits Tryz.prog 60 1 KH [(.tmp 2), (.tmp 3)] := cu Tryz.func60 (by kernel_rfl) (by kernel_rfl) (by kernel_rfl)
theorem Tz (F : Nat) (a0 : eG) (r : Int × Bool) (h : qj F a0 = some r) : PC Tryz.prog 60 [S.agg [vi a0.xType, vi a0.iO, vi a0.kL, vi a0.gX]] (S.tup [(zu_ r.1), (zb_ r.2)]) := by
 unfold qj at h
 refine fC Tv rfl rfl ?_
 intro C hP
 unfold KH; dsimp
 apply Eso
 refine W1 (eu rfl rfl rfl rfl) ?_
 apply WM
 apply WM
 refine Wk [1] [1] ?_
 (try dsimp)
 apply bP
 apply Eso
 refine WQ qlA ?_
 obtain ⟨x1, x1h, h⟩ := aN h
 refine W1 (aF hP (Ef F a0 x1 x1h) rfl rfl rfl) ?_
 refine WQ (dM rfl) ?_
 refine Wk [1, 6] [1] ?_
 (try dsimp)
 refine Ec h rfl (fun h hc2 => ?_) (fun h hc2 => ?_)
 apply Eso
 apply WM
 apply WM
 refine Wk [2, 3] [] ?_
 (try dsimp)
 apply bI
 cases h
 (try simp only [qt, qb, qn])
 refine aT (xs := _) ⟨_, rfl, ⟨_, rfl, rfl⟩⟩ ?_
 rfl
 apply bG
 refine bf [1] [1] ?_
 (try dsimp)
 obtain ⟨k5, k5d, h⟩ := fO h
 refine dV (α := Int × Bool) (fun (i : Int × Bool) => (⟨[(2, (zu_ i.1)), (3, (zb_ i.2))], []⟩ : St)) (fun i => k5 i.1 i.2 = some r) (fun i h => ?_) ?_
 obtain ⟨v3, v4⟩ := i
 rw [k5d] at h; dsimp only at h
 (try dsimp)
 apply bI
 cases h
 (try simp only [qt, qb, qn])
 refine aT (xs := _) ⟨_, rfl, ⟨_, rfl, rfl⟩⟩ ?_
 rfl
 obtain ⟨x6, x6h, h⟩ := aN h
 obtain ⟨x7, x7h, h⟩ := aN h
 refine iY [1, 2, 3, 4, 5, 6, 7, 8, 9, 10, 11, 12, 15, 16, 17, 18] ?_
 refine XQ 1 rfl rfl rfl (ah rfl rfl) ?_
 refine XQ 2 rfl rfl rfl (aj rfl rfl rfl) ?_
 refine XQ 3 rfl rfl rfl (dF rfl) ?_
 refine XQ 4 rfl rfl rfl (ah rfl rfl) ?_
 refine XQ 5 rfl rfl rfl (aj rfl rfl rfl) ?_
 refine XQ 6 rfl rfl rfl (dF rfl) ?_
 refine XQ 7 rfl rfl rfl (ah rfl rfl) ?_
 refine XQ 8 rfl rfl rfl (aj rfl rfl rfl) ?_
 refine XQ 9 rfl rfl rfl (dF rfl) ?_
 refine XQ 10 rfl rfl rfl (ah rfl rfl) ?_
 refine XQ 11 rfl rfl rfl (aj rfl rfl rfl) ?_
 refine XQ 12 rfl rfl rfl (dF rfl) ?_
 (try dsimp)
 refine X2 rfl ?_ ?_
 refine XK rfl (aF hP (wV F  x6 x6h) rfl rfl rfl) ?_
 refine X1 rfl (XK rfl (dY rfl rfl rfl rfl) ?_)
 refine X1 rfl (XK rfl (oh hP (uZ F x6 ([(IntKind.u64.wrap a0.xType), (IntKind.u64.wrap a0.kL), (IntKind.u64.wrap a0.gX), (IntKind.u64.wrap a0.iO)] : List Int) x7 x7h) rfl rfl) ?_)
 refine XQ 15 rfl rfl rfl (bD rfl rfl) ?_
 refine XQ 16 rfl rfl rfl (bD rfl rfl) ?_
 refine XQ 17 rfl rfl rfl (aI rfl) ?_
 refine XQ 18 rfl rfl rfl (aI rfl) ?_
 refine ig rfl ?_
 refine ⟨(x7.1, x7.2), h, ?_⟩
 exact (Le.b (bK ⟨rfl, rfl, trivial⟩ trivial))
 refine XK rfl (dY rfl rfl rfl rfl) ?_
 refine X1 rfl (XK rfl (aF hP (wV F  x6 x6h) rfl rfl rfl) ?_)
 refine X1 rfl (XK rfl (oh hP (uZ F x6 ([(IntKind.u64.wrap a0.xType), (IntKind.u64.wrap a0.kL), (IntKind.u64.wrap a0.gX), (IntKind.u64.wrap a0.iO)] : List Int) x7 x7h) rfl rfl) ?_)
 refine XQ 15 rfl rfl rfl (bD rfl rfl) ?_
 refine XQ 16 rfl rfl rfl (bD rfl rfl) ?_
 refine XQ 17 rfl rfl rfl (aI rfl) ?_
 refine XQ 18 rfl rfl rfl (aI rfl) ?_
 refine ig rfl ?_
 refine ⟨(x7.1, x7.2), h, ?_⟩
 exact (Le.b (bK ⟨rfl, rfl, trivial⟩ trivial))
def Ia : dJ := (.seq (.ops [(o (.box 23 (t 0)) 2), (o (.mv (ci 0)) 4)]) (.seq (.seq (.ops [(o (.load true 3 (t 2)) 5), (o (.call 38 [(t 5)]) 6), (o (.un .not (t 6)) 7), (w 8 7), (g_ (.mv (t 1)) 9 8 false), (g_ (.add 2 (t 2)) 10 8 false), (g_ (.load false 1 (t 10)) 11 8 false), (g_ (.bin .sub 3 (t 11) (ci 1)) 12 8 false), (g_ (.call 63 [(t 9), (ci 0), (t 12)]) 13 8 false), (g_ (.un .not (t 13)) 14 8 false), (o (.pick (t 8) (cb true) (t 14)) 15)]) (.cond (t 15) (.seq (.ops [(o (.mv (ci 0)) 4)]) .ret) .skip)) (.seq (.ops [(o (.load true 3 (t 2)) 16), (o (.call 95 [(t 16)]) 17), (w 18 1), (o (.bin .mul 3 (ci 8) (t 18)) 19), (o (.bin .add 3 (t 17) (t 19)) 20), (w 4 20)]) .ret)))
theorem QE : Fits Tryz.prog 61 2 Ia [(.tmp 4)] := cu Tryz.func61 (by kernel_rfl) (by kernel_rfl) (by kernel_rfl)
theorem Ib (F : Nat) (a0 : bg) (a1 : Int) (r : Int) (h : tH F a0 a1 = some r) : PC Tryz.prog 61 [S.agg [vi a0.ak, vi a0.au, vi a0.ay], (zi_ a1)] (zi_ r) := by
 unfold tH at h
 refine fC QE rfl rfl ?_
 intro C hP
 unfold Ia; dsimp
 apply Eso
 refine W1 (eu rfl rfl rfl rfl) ?_
 apply WM
 refine Wk [1, 2] [2] ?_
 (try dsimp)
 apply bP
 apply Eso
 refine WQ qlA ?_
 obtain ⟨x1, x1h, h⟩ := aN h
 refine W1 (aF hP (nZ F a0 x1 x1h) rfl rfl rfl) ?_
 refine WQ (dM rfl) ?_
 apply WM
 apply aC
 rfl
 intro hB; (try simp only [hB, bss, ctt]); exact aI rfl
 apply aC
 rfl
 intro hB; (try simp only [hB, bss, ctt]); exact ah rfl rfl
 apply aC
 rfl
 intro hB; (try simp only [hB, bss, ctt]); exact aj rfl rfl rfl
 obtain ⟨g2, h⟩ := aV h
 apply aC
 rfl
 intro hB; (try simp only [hB, bss, ctt]); exact lK rfl rfl (g2 hB).1 (g2 hB).2
 obtain ⟨x3, x3h, h⟩ := aN h
 apply jk
 rfl
 intro hB; (try simp only [hB, bss, ctt]); exact aF hP (xM F a1 (0 : Int) (a0.ay - (1 : Int)) x3 (jW x3h (bt hB))) rfl rfl rfl
 apply aC
 rfl
 intro hB; (try simp only [hB, bss, ctt]); exact dM rfl
 refine WQ (dS rfl rfl rfl) ?_
 refine Wk [1, 2, 15] [2] ?_
 (try dsimp)
 refine Ec h rfl (fun h hc4 => ?_) (fun h hc4 => ?_)
 apply Eso
 apply WM
 refine Wk [4] [] ?_
 (try dsimp)
 apply bI
 cases h
 (try simp only [qt, qb, qn])
 refine aT (xs := _) ⟨_, rfl, rfl⟩ ?_
 rfl
 apply bG
 refine bf [1, 2] [2] ?_
 (try dsimp)
 apply Eso
 refine WQ qlA ?_
 obtain ⟨x5, x5h, h⟩ := aN h
 refine W1 (aF hP (BG F a0 x5 x5h) rfl rfl rfl) ?_
 apply WM
 obtain ⟨g6, h⟩ := aV h
 refine WQ (nC rfl rfl g6.1 g6.2) ?_
 obtain ⟨g7, h⟩ := aV h
 refine WQ (cZ rfl rfl g7.1 g7.2) ?_
 apply WM
 refine Wk [4] [] ?_
 (try dsimp)
 apply bI
 cases h
 (try simp only [qt, qb, qn])
 refine aT (xs := _) ⟨_, rfl, rfl⟩ ?_
 rfl
def DN : dJ := (.seq (.ops [(o (.mv cn) 0)]) (.seq (.ops [(o (.mv cn) 1)]) (.seq (.seq (.ops [(o (.mv (ci 0)) 3)]) (.block 0 (.loop (.seq (.ops [(o (.bin .lss 3 (t 3) (ci 5)) 4)]) (.seq (.cond (t 4) .skip (.exit 0)) (.seq (.block 1 (.seq (.ops [(w 5 3), (w 2 5)]) (.ops [(w 6 1), (w 7 2), (o (.bin .mul 3 (ci 8) (t 7)) 8), (o (.build [zi, zi] [(0, (1, (t 8))), (1, (1, (ci 8)))]) 9), (o (.kK 2 221 1 [zi, zi] [(0, (2, (t 9)))]) 10), (o (.app 186 221 2 16 (t 6) (t 10)) 11), (w 1 11)]))) (.ops [(o (.bin .add 3 (t 3) (ci 1)) 12), (w 3 12)]))))))) (.seq (.ops [(w 13 1), (w 0 13)]) .ret))))
theorem Me : Fits Tryz.prog 100 0 DN [(.tmp 0)] := cu Tryz.func100 (by kernel_rfl) (by kernel_rfl) (by kernel_rfl)
theorem yS (F : Nat)  (r : (List aU)) (h : l9 F  = some r) : PC Tryz.prog 100 [] (ss iH r) := by
 unfold l9 at h
 refine fC Me rfl rfl ?_
 intro C hP
 unfold DN; dsimp
 apply Eso
 apply WM
 refine Wk [] [] ?_
 (try dsimp)
 apply Eso
 apply WM
 apply dn
 (try dsimp)
 obtain ⟨k2, k2d, h⟩ := fO h
 refine dV (α := (List aU)) (fun (i : (List aU)) => (⟨[(1, S.one (.own 1011 0 i.length (some (2, 221))))], [(1011, (⟨true, flat iH i⟩ : Reg))]⟩ : St)) (fun i => k2 i = some r) (fun i h => ?_) ?_
 let iv := i; change k2 i = some r at h; generalize i = v1 at h ⊢
 rw [k2d] at h; dsimp only at h
 (try dsimp)
 apply Eso
 apply WM
 apply WM
 refine Wk [0] [1011] ?_
 (try dsimp)
 refine fA (l7 (r := 1011) rfl rfl).b ?_
 (try dsimp)
 apply bI
 cases h
 (try simp only [qt, qb, qn])
 refine aT (xs := _) ⟨_, rfl, rfl⟩ ?_
 rfl
 apply Eso
 apply WM
 apply dn
 (try dsimp)
 apply bW
 (try dsimp)
 refine fD (α := Int × (List aU)) (fun (i : Int × (List aU)) => (⟨[(1, S.one (.own 1011 0 i.2.length (some (2, 221)))), (3, (zi_ i.1))], [(1011, (⟨true, flat iH i.2⟩ : Reg))]⟩ : St)) (fun n i => rE F k2 n i.1 i.2 = some r) F ((0 : Int), ([] : List aU)) h ?_ (fun n i h => ?_)
 refine iZ (sV (i := 1) (r := 1011) 2 221 rfl rfl) ?_
 exact (Le.b (bK ⟨rfl, rfl, trivial⟩ ⟨rfl, trivial⟩))
 obtain ⟨v13, v14⟩ := i; dsimp only at h
 obtain _ | n15 := n
 cases h
 unfold rE at h
 (try dsimp)
 apply Eso
 refine WQ (aB rfl rfl rfl) ?_
 apply dn
 (try dsimp)
 apply bP
 refine Ec h rfl (fun h hc16 => ?_) (fun h hc16 => ?_)
 apply bG
 refine bf [1, 3] [1011] ?_
 (try dsimp)
 apply bP
 apply bW
 apply Eso
 apply WM
 apply WM
 refine Wk [1, 2, 3] [1011] ?_
 (try dsimp)
 apply eP
 apply WM
 apply WM
 obtain ⟨g17, h⟩ := aV h
 refine WQ (nC rfl rfl g17.1 g17.2) ?_
 refine WQ (bV rfl rfl) ?_
 refine W1 (dY rfl rfl rfl rfl) ?_
 obtain ⟨g18, h⟩ := aV h
 refine W1 (jc (e := iH) rfl rfl (fun _ => rfl) (fun _ => rfl) rfl (Src.lit (e := iH) ([(⟨((8 : Int) * v13), (8 : Int)⟩ : aU)] : List aU) rfl (fun _ => rfl) rfl rfl) g18 rfl) ?_
 apply WM
 refine Wk [1, 3] [1011] ?_
 (try dsimp)
 apply eP
 obtain ⟨g19, h⟩ := aV h
 refine WQ (cZ rfl rfl g19.1 g19.2) ?_
 apply WM
 apply dn
 refine ⟨n15, ((v13 + (1 : Int)), (v14 ++ ([(⟨((8 : Int) * v13), (8 : Int)⟩ : aU)] : List aU))), Nat.lt_succ_self _, h, ?_⟩
 exact (Le.b (bK ⟨rfl, rfl, trivial⟩ ⟨rfl, trivial⟩))
 apply gV
 refine ⟨v14, h, ?_⟩
 exact (Le.b (bK ⟨rfl, trivial⟩ ⟨rfl, trivial⟩))
def DR : dJ := (.seq (.ops [(o (.mv cn) 0)]) (.seq (.ops [(o (.build [zi, zi] [(0, (1, (ci 0))), (1, (1, (ci 16)))]) 1), (o (.build [zi, zi] [(0, (1, (ci 16))), (1, (1, (ci 16)))]) 2), (o (.build [zi, zi] [(0, (1, (ci 32))), (1, (1, (ci 16)))]) 3), (o (.kK 2 221 3 [zi, zi, zi, zi, zi, zi] [(0, (2, (t 1))), (2, (2, (t 2))), (4, (2, (t 3)))]) 4), (w 0 4)]) .ret))
theorem MR : Fits Tryz.prog 101 0 DR [(.tmp 0)] := cu Tryz.func101 (by kernel_rfl) (by kernel_rfl) (by kernel_rfl)
theorem yT (F : Nat)  (r : (List aU)) (h : oP F  = some r) : PC Tryz.prog 101 [] (ss iH r) := by
 unfold oP at h
 refine fC MR rfl rfl ?_
 intro C hP
 unfold DR; dsimp
 apply Eso
 apply WM
 refine Wk [] [] ?_
 (try dsimp)
 apply Eso
 refine WQ (bV rfl rfl) ?_
 refine WQ (bV rfl rfl) ?_
 refine WQ (bV rfl rfl) ?_
 refine W1 (dY rfl rfl rfl rfl) ?_
 apply WM
 refine Wk [0] [4] ?_
 (try dsimp)
 refine fA (mM (r := 4) (g' := (⟨true, flat iH ([(⟨(0 : Int), (16 : Int)⟩ : aU), (⟨(16 : Int), (16 : Int)⟩ : aU), (⟨(32 : Int), (16 : Int)⟩ : aU)] : List aU)⟩ : Reg)) rfl rfl).b ?_
 (try dsimp)
 obtain ⟨g1, h⟩ := aV h
 refine fA (mV (i := 0) _ rfl g1).b ?_
 (try dsimp)
 refine fA (l7 (r := 4) rfl rfl).b ?_
 (try dsimp)
 apply bI
 cases h
 (try simp only [qt, qb, qn])
 refine aT (xs := _) ⟨_, rfl, rfl⟩ ?_
 rfl
def Ic : dJ := (.seq (.ops [(o (.box 104 (t 0)) 1), (o (.mv cn) 2)]) (.seq (.seq (.ops [(o (.load true 13 (t 1)) 8), (o (.call 75 [(t 8)]) 9), (o (.un .not (t 9)) 10)]) (.cond (t 10) (.seq (.ops [(o (.mv cn) 2)]) .ret) .skip)) (.seq (.ops [(o (.mv (.const (.int .u64 0))) 3)]) (.seq (.seq (.ops [(o (.add 7 (t 1)) 11), (o (.load false 1 (t 11)) 12)]) (.cond (t 12) (.ops [(o (.mv (.const (.int .u64 1))) 3)]) .skip)) (.seq (.draw [((o (.call 100 []) 14), []), ((o (.add 0 (t 1)) 15), []), ((o (.load false 1 (t 15)) 16), [1]), ((o (.jF .u64 (t 16)) 17), [2]), ((o (.add 1 (t 1)) 18), []), ((o (.load false 1 (t 18)) 19), [4]), ((o (.jF .u64 (t 19)) 20), [5]), ((o (.add 2 (t 1)) 21), []), ((o (.load false 1 (t 21)) 22), [7]), ((o (.jF .u64 (t 22)) 23), [8]), ((w 24 3), []), ((o (.add 5 (t 1)) 25), []), ((o (.load false 1 (t 25)) 26), [11]), ((o (.jF .u64 (t 26)) 27), [12]), ((o (.kK 1 42 5 [zu, zu, zu, zu, zu] [(0, (1, (t 17))), (1, (1, (t 20))), (2, (1, (t 23))), (3, (1, (t 24))), (4, (1, (t 27)))]) 28), [3, 6, 9, 10, 13]), ((o (.call 98 [(t 14), (t 28)]) 29), [0, 14, 0]), ((w 13 29), [15]), ((o (.ext 0 (t 13)) 30), [16]), ((o (.ext 1 (t 13)) 31), [16]), ((w 4 30), [17, 15, 0, 1, 2, 3, 4, 5, 6, 7, 8, 9, 10, 11, 12, 13, 14, 15, 16, 17]), ((w 5 31), [18, 19, 0, 1, 2, 3, 4, 5, 6, 7, 8, 9, 10, 11, 12, 13, 14, 15, 16, 17, 18, 19])]) (.seq (.draw [((o (.call 101 []) 33), []), ((o (.add 3 (t 1)) 34), []), ((o (.load false 1 (t 34)) 35), [1]), ((o (.jF .u64 (t 35)) 36), [2]), ((o (.add 4 (t 1)) 37), []), ((o (.load false 1 (t 37)) 38), [4]), ((o (.jF .u64 (t 38)) 39), [5]), ((o (.add 6 (t 1)) 40), []), ((o (.load false 1 (t 40)) 41), [7]), ((o (.jF .u64 (t 41)) 42), [8]), ((o (.kK 1 42 3 [zu, zu, zu] [(0, (1, (t 36))), (1, (1, (t 39))), (2, (1, (t 42)))]) 43), [3, 6, 9]), ((o (.call 98 [(t 33), (t 43)]) 44), [0, 10, 0]), ((w 32 44), [11]), ((o (.ext 0 (t 32)) 45), [12]), ((o (.ext 1 (t 32)) 46), [12]), ((w 6 45), [13, 11, 0, 1, 2, 3, 4, 5, 6, 7, 8, 9, 10, 11, 12, 13]), ((w 7 46), [14, 15, 0, 1, 2, 3, 4, 5, 6, 7, 8, 9, 10, 11, 12, 13, 14, 15])]) (.seq (.draw [((w 47 4), []), ((w 48 6), []), ((o (.add 8 (t 1)) 49), []), ((o (.load false 1 (t 49)) 50), [2]), ((o (.kK 1 42 3 [zu, zu, zu] [(0, (1, (t 47))), (1, (1, (t 48))), (2, (1, (t 50)))]) 51), [0, 1, 3]), ((o (.add 9 (t 1)) 52), []), ((o (.QF 1 4 (t 52) .none .none) 53), [5]), ((o (.app 36 42 1 8 (t 51) (t 53)) 54), [4, 6]), ((o (.kK 1 42 1 [zu] [(0, (1, (.const (.int .u64 0))))]) 55), []), ((o (.app 36 42 1 8 (t 54) (t 55)) 56), [7, 8, 7]), ((w 2 56), [9, 9, 0, 1, 2, 3, 4, 5, 6, 7, 8, 9])]) .ret)))))))
theorem QG : Fits Tryz.prog 62 1 Ic [(.tmp 2)] := cu Tryz.func62 (by kernel_rfl) (by kernel_rfl) (by kernel_rfl)
theorem Ie (F : Nat) (a0 : aJ) (r : (List Int)) (h : jG F a0 = some r) : PC Tryz.prog 62 [S.agg [vi a0.xType, vi a0.jw, vi a0.jJ, vi a0.mQ, vi a0.nT, vi a0.fE, vi a0.gX, vb a0.qC, vu a0.lH, vu a0.dH.c0, vu a0.dH.c1, vu a0.dH.c2, vu a0.dH.c3]] (ss cO r) := by
 unfold jG at h
 refine fC QG rfl rfl ?_
 intro C hP
 unfold Ic; dsimp
 apply Eso
 refine W1 (eu rfl rfl rfl rfl) ?_
 apply WM
 refine Wk [1] [1] ?_
 (try dsimp)
 apply bP
 apply Eso
 refine WQ qlA ?_
 obtain ⟨x1, x1h, h⟩ := aN h
 refine W1 (aF hP (zM F a0 x1 x1h) rfl rfl rfl) ?_
 refine WQ (dM rfl) ?_
 refine Wk [1, 10] [1] ?_
 (try dsimp)
 refine Ec h rfl (fun h hc2 => ?_) (fun h hc2 => ?_)
 apply Eso
 apply WM
 refine Wk [2] [] ?_
 (try dsimp)
 refine fA (FP (i := 2) rfl).b ?_
 (try dsimp)
 apply bI
 cases h
 (try simp only [qt, qb, qn])
 refine aT (xs := _) ⟨_, rfl, rfl⟩ ?_
 rfl
 apply bG
 refine bf [1] [1] ?_
 (try dsimp)
 apply Eso
 apply WM
 apply dn
 (try dsimp)
 obtain ⟨k4, k4d, h⟩ := fO h
 refine dV (α := Int) (fun (i : Int) => (⟨[(1, S.one (.ptr 1 0)), (3, (zu_ i))], [(1, (⟨true, [vi a0.xType, vi a0.jw, vi a0.jJ, vi a0.mQ, vi a0.nT, vi a0.fE, vi a0.gX, vb a0.qC, vu a0.lH, vu a0.dH.c0, vu a0.dH.c1, vu a0.dH.c2, vu a0.dH.c3]⟩ : Reg))]⟩ : St)) (fun i => k4 i = some r) (fun i h => ?_) ?_
 let iv := i; change k4 i = some r at h; generalize i = v3 at h ⊢
 rw [k4d] at h; dsimp only at h
 (try dsimp)
 obtain ⟨k6, k6d, h⟩ := fO h
 refine dV (α := Int) (fun (i : Int) => (⟨[(1, S.one (.ptr 1 0)), (4, (zu_ i))], [(1, (⟨true, [vi a0.xType, vi a0.jw, vi a0.jJ, vi a0.mQ, vi a0.nT, vi a0.fE, vi a0.gX, vb a0.qC, vu a0.lH, vu a0.dH.c0, vu a0.dH.c1, vu a0.dH.c2, vu a0.dH.c3]⟩ : Reg))]⟩ : St)) (fun i => k6 i = some r) (fun i h => ?_) ?_
 let iv := i; change k6 i = some r at h; generalize i = v5 at h ⊢
 rw [k6d] at h; dsimp only at h
 (try dsimp)
 obtain ⟨k8, k8d, h⟩ := fO h
 refine dV (α := Int) (fun (i : Int) => (⟨[(1, S.one (.ptr 1 0)), (4, (zu_ v5)), (6, (zu_ i))], [(1, (⟨true, [vi a0.xType, vi a0.jw, vi a0.jJ, vi a0.mQ, vi a0.nT, vi a0.fE, vi a0.gX, vb a0.qC, vu a0.lH, vu a0.dH.c0, vu a0.dH.c1, vu a0.dH.c2, vu a0.dH.c3]⟩ : Reg))]⟩ : St)) (fun i => k8 i = some r) (fun i h => ?_) ?_
 let iv := i; change k8 i = some r at h; generalize i = v7 at h ⊢
 rw [k8d] at h; dsimp only at h
 (try dsimp)
 obtain ⟨k9, k9d, h⟩ := fO h
 refine dV (α := Unit) (fun (i : Unit) => (⟨[(2, S.one (.own 51 0 ((([v5, v7, a0.lH] : List Int) ++ ([a0.dH.c0, a0.dH.c1, a0.dH.c2, a0.dH.c3] : List Int)) ++ ([(0 : Int)] : List Int)).length (some (1, 42))))], [(51, (⟨true, flat cO ((([v5, v7, a0.lH] : List Int) ++ ([a0.dH.c0, a0.dH.c1, a0.dH.c2, a0.dH.c3] : List Int)) ++ ([(0 : Int)] : List Int))⟩ : Reg))]⟩ : St)) (fun i => k9 () = some r) (fun i h => ?_) ?_
 rw [k9d] at h; dsimp only at h
 (try dsimp)
 refine fA (l7 (r := 51) rfl rfl).b ?_
 (try dsimp)
 apply bI
 cases h
 (try simp only [qt, qb, qn])
 refine aT (xs := _) ⟨_, rfl, rfl⟩ ?_
 rfl
 obtain ⟨g10, h⟩ := aV h
 obtain ⟨g11, h⟩ := aV h
 refine iY [0, 1, 2, 3, 5, 6] ?_
 refine XQ 0 rfl rfl rfl (aI rfl) ?_
 refine XQ 1 rfl rfl rfl (aI rfl) ?_
 refine XQ 2 rfl rfl rfl (ah rfl rfl) ?_
 refine XQ 3 rfl rfl rfl (aj rfl rfl rfl) ?_
 refine XQ 5 rfl rfl rfl (ah rfl rfl) ?_
 refine XQ 6 rfl rfl rfl (rX rfl rfl rfl rfl (by decide) (by decide) (by decide) (List.cons_ne_nil _ _)) ?_
 refine X2 rfl ?_ ?_
 refine XK rfl (dY rfl rfl rfl rfl) ?_
 refine X2 rfl ?_ ?_
 refine XT rfl rfl (Does.ghost (mM (r := 51) (g' := (⟨true, flat cO ([v5, v7, a0.lH] : List Int)⟩ : Reg)) rfl rfl).b (jc (e := cO) rfl rfl (fun _ => rfl) (fun _ => rfl) rfl (Src.part (e := cO) ([a0.dH.c0, a0.dH.c1, a0.dH.c2, a0.dH.c3] : List Int) rfl (fun _ => rfl) rfl rfl) g10 rfl)) ?_
 refine X1 rfl (XT rfl rfl (dY rfl rfl rfl rfl) ?_)
 refine X1 rfl (XT rfl rfl (jc (e := cO) rfl rfl (fun _ => rfl) (fun _ => rfl) rfl (Src.lit (e := cO) ([(0 : Int)] : List Int) rfl (fun _ => rfl) rfl rfl) g11 rfl) ?_)
 refine X1 rfl (XT rfl rfl ((aI rfl).does) ?_)
 refine ig rfl ?_
 refine ⟨(), h, ?_⟩
 exact (Le.b (bK ⟨rfl, trivial⟩ ⟨rfl, trivial⟩))
 refine XK rfl (dY rfl rfl rfl rfl) ?_
 refine X1 rfl (XT rfl rfl (Does.ghost (mM (r := 51) (g' := (⟨true, flat cO ([v5, v7, a0.lH] : List Int)⟩ : Reg)) rfl rfl).b (jc (e := cO) rfl rfl (fun _ => rfl) (fun _ => rfl) rfl (Src.part (e := cO) ([a0.dH.c0, a0.dH.c1, a0.dH.c2, a0.dH.c3] : List Int) rfl (fun _ => rfl) rfl rfl) g10 rfl)) ?_)
 refine X1 rfl (XT rfl rfl (jc (e := cO) rfl rfl (fun _ => rfl) (fun _ => rfl) rfl (Src.lit (e := cO) ([(0 : Int)] : List Int) rfl (fun _ => rfl) rfl rfl) g11 rfl) ?_)
 refine X1 rfl (XT rfl rfl ((aI rfl).does) ?_)
 refine ig rfl ?_
 refine ⟨(), h, ?_⟩
 exact (Le.b (bK ⟨rfl, trivial⟩ ⟨rfl, trivial⟩))
 refine XK rfl (dY rfl rfl rfl rfl) ?_
 refine X1 rfl (XK rfl (dY rfl rfl rfl rfl) ?_)
 refine X1 rfl (XT rfl rfl (Does.ghost (mM (r := 51) (g' := (⟨true, flat cO ([v5, v7, a0.lH] : List Int)⟩ : Reg)) rfl rfl).b (jc (e := cO) rfl rfl (fun _ => rfl) (fun _ => rfl) rfl (Src.part (e := cO) ([a0.dH.c0, a0.dH.c1, a0.dH.c2, a0.dH.c3] : List Int) rfl (fun _ => rfl) rfl rfl) g10 rfl)) ?_)
 refine X1 rfl (XT rfl rfl (jc (e := cO) rfl rfl (fun _ => rfl) (fun _ => rfl) rfl (Src.lit (e := cO) ([(0 : Int)] : List Int) rfl (fun _ => rfl) rfl rfl) g11 rfl) ?_)
 refine X1 rfl (XT rfl rfl ((aI rfl).does) ?_)
 refine ig rfl ?_
 refine ⟨(), h, ?_⟩
 exact (Le.b (bK ⟨rfl, trivial⟩ ⟨rfl, trivial⟩))
 obtain ⟨x12, Vq, h⟩ := aN h
 obtain ⟨x13, Ed, h⟩ := aN h
 refine iY [1, 2, 3, 4, 5, 6, 7, 8, 9, 12, 13, 14, 15, 16] ?_
 refine XQ 1 rfl rfl rfl (ah rfl rfl) ?_
 refine XQ 2 rfl rfl rfl (aj rfl rfl rfl) ?_
 refine XQ 3 rfl rfl rfl (dF rfl) ?_
 refine XQ 4 rfl rfl rfl (ah rfl rfl) ?_
 refine XQ 5 rfl rfl rfl (aj rfl rfl rfl) ?_
 refine XQ 6 rfl rfl rfl (dF rfl) ?_
 refine XQ 7 rfl rfl rfl (ah rfl rfl) ?_
 refine XQ 8 rfl rfl rfl (aj rfl rfl rfl) ?_
 refine XQ 9 rfl rfl rfl (dF rfl) ?_
 (try dsimp)
 refine X2 rfl ?_ ?_
 refine XK rfl (aF hP (yT F  x12 Vq) rfl rfl rfl) ?_
 refine X1 rfl (XK rfl (dY rfl rfl rfl rfl) ?_)
 refine X1 rfl (XK rfl (oh hP (uZ F x12 ([(IntKind.u64.wrap a0.mQ), (IntKind.u64.wrap a0.nT), (IntKind.u64.wrap a0.gX)] : List Int) x13 Ed) rfl rfl) ?_)
 refine XQ 12 rfl rfl rfl (aI rfl) ?_
 refine XQ 13 rfl rfl rfl (bD rfl rfl) ?_
 refine XQ 14 rfl rfl rfl (bD rfl rfl) ?_
 refine XQ 15 rfl rfl rfl (aI rfl) ?_
 refine XQ 16 rfl rfl rfl (aI rfl) ?_
 refine ig rfl ?_
 refine ⟨x13.1, h, ?_⟩
 exact (Le.b (bK ⟨rfl, rfl, rfl, trivial⟩ ⟨rfl, trivial⟩))
 refine XK rfl (dY rfl rfl rfl rfl) ?_
 refine X1 rfl (XK rfl (aF hP (yT F  x12 Vq) rfl rfl rfl) ?_)
 refine X1 rfl (XK rfl (oh hP (uZ F x12 ([(IntKind.u64.wrap a0.mQ), (IntKind.u64.wrap a0.nT), (IntKind.u64.wrap a0.gX)] : List Int) x13 Ed) rfl rfl) ?_)
 refine XQ 12 rfl rfl rfl (aI rfl) ?_
 refine XQ 13 rfl rfl rfl (bD rfl rfl) ?_
 refine XQ 14 rfl rfl rfl (bD rfl rfl) ?_
 refine XQ 15 rfl rfl rfl (aI rfl) ?_
 refine XQ 16 rfl rfl rfl (aI rfl) ?_
 refine ig rfl ?_
 refine ⟨x13.1, h, ?_⟩
 exact (Le.b (bK ⟨rfl, rfl, rfl, trivial⟩ ⟨rfl, trivial⟩))
 obtain ⟨x14, QH, h⟩ := aN h
 obtain ⟨x15, Vx, h⟩ := aN h
 refine iY [1, 2, 3, 4, 5, 6, 7, 8, 9, 10, 11, 12, 13, 16, 17, 18, 19, 20] ?_
 refine XQ 1 rfl rfl rfl (ah rfl rfl) ?_
 refine XQ 2 rfl rfl rfl (aj rfl rfl rfl) ?_
 refine XQ 3 rfl rfl rfl (dF rfl) ?_
 refine XQ 4 rfl rfl rfl (ah rfl rfl) ?_
 refine XQ 5 rfl rfl rfl (aj rfl rfl rfl) ?_
 refine XQ 6 rfl rfl rfl (dF rfl) ?_
 refine XQ 7 rfl rfl rfl (ah rfl rfl) ?_
 refine XQ 8 rfl rfl rfl (aj rfl rfl rfl) ?_
 refine XQ 9 rfl rfl rfl (dF rfl) ?_
 refine XQ 10 rfl rfl rfl (aI rfl) ?_
 refine XQ 11 rfl rfl rfl (ah rfl rfl) ?_
 refine XQ 12 rfl rfl rfl (aj rfl rfl rfl) ?_
 refine XQ 13 rfl rfl rfl (dF rfl) ?_
 (try dsimp)
 refine X2 rfl ?_ ?_
 refine XK rfl (aF hP (yS F  x14 QH) rfl rfl rfl) ?_
 refine X1 rfl (XK rfl (dY rfl rfl rfl rfl) ?_)
 refine X1 rfl (XK rfl (oh hP (uZ F x14 ([(IntKind.u64.wrap a0.xType), (IntKind.u64.wrap a0.jw), (IntKind.u64.wrap a0.jJ), v3, (IntKind.u64.wrap a0.fE)] : List Int) x15 Vx) rfl rfl) ?_)
 refine XQ 16 rfl rfl rfl (aI rfl) ?_
 refine XQ 17 rfl rfl rfl (bD rfl rfl) ?_
 refine XQ 18 rfl rfl rfl (bD rfl rfl) ?_
 refine XQ 19 rfl rfl rfl (aI rfl) ?_
 refine XQ 20 rfl rfl rfl (aI rfl) ?_
 refine ig rfl ?_
 refine ⟨x15.1, h, ?_⟩
 exact (Le.b (bK ⟨rfl, rfl, trivial⟩ ⟨rfl, trivial⟩))
 refine XK rfl (dY rfl rfl rfl rfl) ?_
 refine X1 rfl (XK rfl (aF hP (yS F  x14 QH) rfl rfl rfl) ?_)
 refine X1 rfl (XK rfl (oh hP (uZ F x14 ([(IntKind.u64.wrap a0.xType), (IntKind.u64.wrap a0.jw), (IntKind.u64.wrap a0.jJ), v3, (IntKind.u64.wrap a0.fE)] : List Int) x15 Vx) rfl rfl) ?_)
 refine XQ 16 rfl rfl rfl (aI rfl) ?_
 refine XQ 17 rfl rfl rfl (bD rfl rfl) ?_
 refine XQ 18 rfl rfl rfl (bD rfl rfl) ?_
 refine XQ 19 rfl rfl rfl (aI rfl) ?_
 refine XQ 20 rfl rfl rfl (aI rfl) ?_
 refine ig rfl ?_
 refine ⟨x15.1, h, ?_⟩
 exact (Le.b (bK ⟨rfl, rfl, trivial⟩ ⟨rfl, trivial⟩))
 apply Eso
 refine WQ (ah rfl rfl) ?_
 refine WQ (aj rfl rfl rfl) ?_
 refine Wk [1, 3, 12] [1] ?_
 (try dsimp)
 refine Ec h rfl (fun h hc16 => ?_) (fun h hc16 => ?_)
 apply eP
 apply WM
 apply dn
 refine ⟨(1 : Int), h, ?_⟩
 exact (Le.b (bK ⟨rfl, rfl, trivial⟩ ⟨rfl, trivial⟩))
 apply bG
 refine ⟨(0 : Int), h, ?_⟩
 exact (Le.b (bK ⟨rfl, rfl, trivial⟩ ⟨rfl, trivial⟩))
def Ig : dJ := (.seq (.ops [(o (.box 27 (t 0)) 2), (o (.mv cn) 4)]) (.seq (.seq (.ops [(o (.load true 5 (t 2)) 13), (o (.call 55 [(t 13)]) 14), (o (.un .not (t 14)) 15)]) (.cond (t 15) (.seq (.ops [(o (.mv cn) 4)]) .ret) .skip)) (.seq (.ops [(o (.add 0 (t 2)) 16), (o (.load true 3 (t 16)) 17), (o (.jR [zi, zi, zi]) 5), (n_ (.store 3 (t 5) (t 17)))]) (.seq (.ops [(o (.load true 3 (t 5)) 18), (o (.call 56 [(t 18)]) 19), (o (.bin .mul 3 (t 19) (ci 8)) 20), (o (.mk 36 42 1 8 [zu] (t 20) (t 20)) 21), (w 6 21)]) (.seq (.ops [(o (.load true 3 (t 5)) 22), (w 23 1), (o (.build [zi, zi, zi, zu] [(0, (3, (t 22))), (3, (1, (t 23)))]) 24), (o (.call 57 [(t 24)]) 25), (w 7 25)]) (.seq (.ops [(w 26 6), (w 27 7), (o (.copy 1 (t 26) (t 27)) 28)]) (.seq (.ops [(w 29 6), (o (.load true 3 (t 5)) 30), (o (.call 58 [(t 30)]) 31), (o (.slc 1 (t 29) (.some (t 31)) .none .none) 32), (w 33 7), (o (.copy 1 (t 32) (t 33)) 34)]) (.seq (.seq (.ops [(o (.add 3 (t 2)) 35), (o (.load false 1 (t 35)) 36), (o (.len false (t 36)) 37), (o (.mv (ci 0)) 38)]) (.block 0 (.loop (.seq (.ops [(o (.bin .lss 3 (t 38) (t 37)) 39)]) (.seq (.cond (t 39) .skip (.exit 0)) (.seq (.block 1 (.seq (.ops [(w 40 38), (o (.gJ 5 (t 36) (t 38)) 41), (o (.load true 5 (t 41)) 42), (o (.jR [zi, zi, zi, zi, zi]) 9), (w 8 40), (n_ (.store 5 (t 9) (t 42)))]) (.seq (.ops [(o (.load true 3 (t 5)) 43), (w 44 8), (o (.call 59 [(t 43), (t 44)]) 45), (w 10 45)]) (.seq (.ops [(w 47 6), (w 48 10), (o (.add 0 (t 9)) 49), (o (.load true 4 (t 49)) 50), (o (.call 60 [(t 50)]) 51), (w 46 51), (o (.ext 0 (t 46)) 52), (o (.ext 1 (t 46)) 53), (o (.gJ 1 (t 47) (t 48)) 54), (n_ (.store 1 (t 54) (t 52)))]) (.ops [(w 55 6), (w 56 10), (o (.bin .add 3 (t 56) (ci 1)) 57), (o (.add 4 (t 9)) 58), (o (.load false 1 (t 58)) 59), (o (.bin .add 3 (t 59) (ci 1)) 60), (o (.jF .u64 (t 60)) 61), (o (.gJ 1 (t 55) (t 57)) 62), (n_ (.store 1 (t 62) (t 61)))]))))) (.ops [(o (.bin .add 3 (t 38) (ci 1)) 63), (w 38 63)]))))))) (.seq (.seq (.ops [(o (.add 4 (t 2)) 64), (o (.load false 1 (t 64)) 65), (o (.len false (t 65)) 66), (o (.mv (ci 0)) 67)]) (.block 2 (.loop (.seq (.ops [(o (.bin .lss 3 (t 67) (t 66)) 68)]) (.seq (.cond (t 68) .skip (.exit 2)) (.seq (.block 3 (.seq (.ops [(w 69 67), (o (.gJ 13 (t 65) (t 67)) 70), (o (.load true 13 (t 70)) 71), (o (.jR [zi, zi, zi, zi, zi, zi, zi, zb, zu, zu, zu, zu, zu]) 12), (w 11 69), (n_ (.store 13 (t 12) (t 71)))]) (.draw [((w 72 6), []), ((o (.load true 3 (t 5)) 73), []), ((w 74 11), []), ((o (.call 61 [(t 73), (t 74)]) 75), [1, 2]), ((o (.slc 1 (t 72) (.some (t 75)) .none .none) 76), [0, 3]), ((o (.load true 13 (t 12)) 77), []), ((o (.call 62 [(t 77)]) 78), [5, 3]), ((o (.copy 1 (t 76) (t 78)) 79), [4, 6, 6])]))) (.ops [(o (.bin .add 3 (t 67) (ci 1)) 80), (w 67 80)]))))))) (.seq (.ops [(w 81 6), (w 4 81)]) .ret))))))))))
theorem QI : Fits Tryz.prog 29 2 Ig [(.tmp 4)] := cu Tryz.func29 (by kernel_rfl) (by kernel_rfl) (by kernel_rfl)
theorem Ih (F : Nat) (a0 : aK) (a1 : Int) (r : (List Int)) (h : pX F a0 a1 = some r) : PC Tryz.prog 29 [S.agg [vi a0.bH.ak, vi a0.bH.au, vi a0.bH.ay, sl aQ a0.au, sl aS a0.ay], (zu_ a1)] (ss cO r) := by
 unfold pX at h
 refine fC QI rfl rfl ?_
 intro C hP
 unfold Ig; dsimp
 apply Eso
 refine W1 (eu rfl rfl rfl rfl) ?_
 apply WM
 refine Wk [1, 2] [2] ?_
 (try dsimp)
 apply bP
 apply Eso
 refine WQ qlA ?_
 obtain ⟨x1, x1h, h⟩ := aN h
 refine W1 (aF hP (Fz F a0 x1 x1h) rfl rfl rfl) ?_
 refine WQ (dM rfl) ?_
 refine Wk [1, 2, 15] [2] ?_
 (try dsimp)
 refine Ec h rfl (fun h hc2 => ?_) (fun h hc2 => ?_)
 apply Eso
 apply WM
 refine Wk [4] [] ?_
 (try dsimp)
 refine fA (FP (i := 4) rfl).b ?_
 (try dsimp)
 apply bI
 cases h
 (try simp only [qt, qb, qn])
 refine aT (xs := _) ⟨_, rfl, rfl⟩ ?_
 rfl
 apply bG
 refine bf [1, 2] [2] ?_
 (try dsimp)
 apply Eso
 refine WQ (ah rfl rfl) ?_
 refine WQ qlA ?_
 refine W1 (dw rfl rfl) ?_
 refine W1 dst ?_
 refine Wk [1, 2, 5] [2, 5] ?_
 (try dsimp)
 apply Eso
 refine WQ qlA ?_
 obtain ⟨x3, x3h, h⟩ := aN h
 refine W1 (aF hP (Eo F a0.bH x3 x3h) rfl rfl rfl) ?_
 obtain ⟨g4, h⟩ := aV h
 refine WQ (nC rfl rfl g4.1 g4.2) ?_
 obtain ⟨g5, h⟩ := aV h
 refine W1 (nD (e := cO) (0 : Int) rfl rfl rfl (fun _ => rfl) g5.1 g5.2.1 g5.2.2.1 g5.2.2.2 rfl) ?_
 apply WM
 refine Wk [1, 2, 5, 6] [2, 5, 21] ?_
 (try dsimp)
 apply Eso
 refine WQ qlA ?_
 apply WM
 refine WQ (bV rfl rfl) ?_
 obtain ⟨x6, x6h, h⟩ := aN h
 refine W1 (aF hP (BI F (⟨a0.bH, a1⟩ : dQ) x6 x6h) rfl rfl rfl) ?_
 apply WM
 refine Wk [2, 5, 6, 7] [2, 5, 21] ?_
 (try dsimp)
 apply Eso
 apply WM
 apply WM
 obtain ⟨g7, h⟩ := aV h
 refine W1 (zN rfl rfl (fun _ => rfl) (fun _ => rfl) rfl (Src.slF x6 (fun _ => rfl)) g7) ?_
 refine Wk [2, 5, 6, 7] [2, 5, 21] ?_
 (try dsimp)
 apply Eso
 apply WM
 refine WQ qlA ?_
 obtain ⟨x8, x8h, h⟩ := aN h
 refine W1 (aF hP (xU F a0.bH x8 x8h) rfl rfl rfl) ?_
 obtain ⟨g9, h⟩ := aV h
 refine WQ (wW rfl rfl rfl rfl g9.1 g9.2.1 g9.2.2) ?_
 apply WM
 obtain ⟨g10, h⟩ := aV h
 refine W1 (zN rfl rfl (fun _ => rfl) (fun _ => rfl) rfl (Src.slF x6 (fun _ => rfl)) g10) ?_
 refine Wk [2, 5, 6] [2, 5, 21] ?_
 (try dsimp)
 obtain ⟨k12, O9, h⟩ := fO h
 refine dV (α := (List Int)) (fun (i : (List Int)) => (⟨[(2, S.one (.ptr 2 0)), (5, S.one (.ptr 5 0)), (6, S.one (.own 21 0 i.length (some (1, 42))))], [(2, (⟨true, [vi a0.bH.ak, vi a0.bH.au, vi a0.bH.ay, sl aQ a0.au, sl aS a0.ay]⟩ : Reg)), (5, (⟨true, [vi a0.bH.ak, vi a0.bH.au, vi a0.bH.ay]⟩ : Reg)), (21, (⟨true, flat cO i⟩ : Reg))]⟩ : St)) (fun i => k12 i = some r) (fun i h => ?_) ?_
 let iv := i; change k12 i = some r at h; generalize i = v11 at h ⊢
 rw [O9] at h; dsimp only at h
 (try dsimp)
 obtain ⟨k14, aad, h⟩ := fO h
 refine dV (α := (List Int)) (fun (i : (List Int)) => (⟨[(6, S.one (.own 21 0 i.length (some (1, 42))))], [(21, (⟨true, flat cO i⟩ : Reg))]⟩ : St)) (fun i => k14 i = some r) (fun i h => ?_) ?_
 let iv := i; change k14 i = some r at h; generalize i = v13 at h ⊢
 rw [aad] at h; dsimp only at h
 (try dsimp)
 apply Eso
 apply WM
 apply WM
 refine Wk [4] [21] ?_
 (try dsimp)
 refine fA (l7 (r := 21) rfl rfl).b ?_
 (try dsimp)
 apply bI
 cases h
 (try simp only [qt, qb, qn])
 refine aT (xs := _) ⟨_, rfl, rfl⟩ ?_
 rfl
 apply Eso
 refine WQ (ah rfl rfl) ?_
 refine WQ (aj rfl rfl rfl) ?_
 refine WQ (bM rfl) ?_
 apply WM
 refine Wk [5, 6, 65, 66, 67] [5, 21] ?_
 (try dsimp)
 apply bW
 (try dsimp)
 refine fD (α := Int × (List Int)) (fun (i : Int × (List Int)) => (⟨[(5, S.one (.ptr 5 0)), (6, S.one (.own 21 0 i.2.length (some (1, 42)))), (65, ss aS a0.ay), (66, (zi_ ((a0.ay.length : Nat) : Int))), (67, (zi_ i.1))], [(5, (⟨true, [vi a0.bH.ak, vi a0.bH.au, vi a0.bH.ay]⟩ : Reg)), (21, (⟨true, flat cO i.2⟩ : Reg))]⟩ : St)) (fun n i => jE F a0 k14 n i.1 i.2 = some r) F ((0 : Int), v11) h ?_ (fun n i h => ?_)
 exact (Le.b (bK ⟨rfl, rfl, rfl, rfl, rfl, trivial⟩ ⟨rfl, rfl, trivial⟩))
 obtain ⟨v31, v32⟩ := i; dsimp only at h
 obtain _ | n33 := n
 cases h
 unfold jE at h
 (try dsimp)
 apply Eso
 refine WQ (aB rfl rfl rfl) ?_
 apply dn
 (try dsimp)
 apply bP
 refine Ec h rfl (fun h hc34 => ?_) (fun h hc34 => ?_)
 apply bG
 refine bf [5, 6, 65, 66, 67] [5, 21] ?_
 (try dsimp)
 apply bP
 apply bW
 apply Eso
 apply WM
 obtain ⟨g35, h⟩ := aV h
 refine WQ (aX rfl rfl g35.1 g35.2) ?_
 refine WQ (dX (k := 13) rfl (fun _ => rfl) g35 0 rfl rfl rfl) ?_
 refine W1 (dw rfl rfl) ?_
 apply WM
 refine W1 dst ?_
 refine Wk [5, 6, 11, 12, 65, 66, 67] [5, 12, 21] ?_
 (try dsimp)
 obtain ⟨x36, aap, h⟩ := aN h
 obtain ⟨g37, h⟩ := aV h
 obtain ⟨x38, adf, h⟩ := aN h
 obtain ⟨g39, h⟩ := aV h
 refine iY [0, 1, 2, 4, 5] ?_
 refine XQ 0 rfl rfl rfl (aI rfl) ?_
 refine XQ 1 rfl rfl rfl qlA ?_
 refine XQ 2 rfl rfl rfl (aI rfl) ?_
 refine XQ 5 rfl rfl rfl qlA ?_
 refine X1 rfl (XK rfl (aF hP (Ib F a0.bH v31 x36 aap) rfl rfl rfl) ?_)
 refine XQ 4 rfl rfl rfl (wW rfl rfl rfl rfl g37.1 g37.2.1 g37.2.2) ?_
 refine X1 rfl (XK rfl (aF hP (Ie F (nth a0.ay v31) x38 adf) rfl rfl rfl) ?_)
 refine X1 rfl (XT rfl rfl (zN rfl rfl (fun _ => rfl) (fun _ => rfl) rfl (Src.slF x38 (fun _ => rfl)) g39) ?_)
 refine ig rfl ?_
 refine bf [5, 6, 65, 66, 67] [5, 21] ?_
 (try dsimp)
 apply eP
 obtain ⟨g40, h⟩ := aV h
 refine WQ (cZ rfl rfl g40.1 g40.2) ?_
 apply WM
 apply dn
 refine ⟨n33, ((v31 + (1 : Int)), (cpy v32 (0 + x36.toNat * 1) (((v32.length : Nat) : Int).toNat - x36.toNat) x38)), Nat.lt_succ_self _, h, ?_⟩
 refine iZ (mV (i := 6) _ rfl (by simp [aG, aP, aH] : v32.length = (cpy v32 (0 + x36.toNat * 1) (((v32.length : Nat) : Int).toNat - x36.toNat) x38).length)).b ?_
 exact (Le.b (bK ⟨rfl, rfl, rfl, rfl, rfl, trivial⟩ ⟨rfl, rfl, trivial⟩))
 apply gV
 refine ⟨v32, h, ?_⟩
 exact (Le.b (bK ⟨rfl, trivial⟩ ⟨rfl, trivial⟩))
 apply Eso
 refine WQ (ah rfl rfl) ?_
 refine WQ (aj rfl rfl rfl) ?_
 refine WQ (bM rfl) ?_
 apply WM
 refine Wk [2, 5, 6, 36, 37, 38] [2, 5, 21] ?_
 (try dsimp)
 apply bW
 (try dsimp)
 refine fD (α := Int × (List Int)) (fun (i : Int × (List Int)) => (⟨[(2, S.one (.ptr 2 0)), (5, S.one (.ptr 5 0)), (6, S.one (.own 21 0 i.2.length (some (1, 42)))), (36, ss aQ a0.au), (37, (zi_ ((a0.au.length : Nat) : Int))), (38, (zi_ i.1))], [(2, (⟨true, [vi a0.bH.ak, vi a0.bH.au, vi a0.bH.ay, sl aQ a0.au, sl aS a0.ay]⟩ : Reg)), (5, (⟨true, [vi a0.bH.ak, vi a0.bH.au, vi a0.bH.ay]⟩ : Reg)), (21, (⟨true, flat cO i.2⟩ : Reg))]⟩ : St)) (fun n i => jD F a0 k12 n i.1 i.2 = some r) F ((0 : Int), (cpy (cpy (List.replicate (x3 * (8 : Int)).toNat (0 : Int)) 0 ((List.replicate (x3 * (8 : Int)).toNat (0 : Int)).length) x6) (0 + x8.toNat * 1) ((((List.replicate (x3 * (8 : Int)).toNat (0 : Int)).length : Nat) : Int).toNat - x8.toNat) x6)) h ?_ (fun n i h => ?_)
 refine iZ (mV (i := 6) _ rfl (by simp [aG, aP, aH] : (List.replicate (x3 * (8 : Int)).toNat (0 : Int)).length = (cpy (cpy (List.replicate (x3 * (8 : Int)).toNat (0 : Int)) 0 ((List.replicate (x3 * (8 : Int)).toNat (0 : Int)).length) x6) (0 + x8.toNat * 1) ((((List.replicate (x3 * (8 : Int)).toNat (0 : Int)).length : Nat) : Int).toNat - x8.toNat) x6).length)).b ?_
 exact (Le.b (bK ⟨rfl, rfl, rfl, rfl, rfl, rfl, trivial⟩ ⟨rfl, rfl, rfl, trivial⟩))
 obtain ⟨v61, v62⟩ := i; dsimp only at h
 obtain _ | n63 := n
 cases h
 unfold jD at h
 (try dsimp)
 apply Eso
 refine WQ (aB rfl rfl rfl) ?_
 apply dn
 (try dsimp)
 apply bP
 refine Ec h rfl (fun h adg => ?_) (fun h adg => ?_)
 apply bG
 refine bf [2, 5, 6, 36, 37, 38] [2, 5, 21] ?_
 (try dsimp)
 apply bP
 apply bW
 apply Eso
 apply WM
 obtain ⟨g65, h⟩ := aV h
 refine WQ (aX rfl rfl g65.1 g65.2) ?_
 refine WQ (dX (k := 5) rfl (fun _ => rfl) g65 0 rfl rfl rfl) ?_
 refine W1 (dw rfl rfl) ?_
 apply WM
 refine W1 dst ?_
 refine Wk [2, 5, 6, 8, 9, 36, 37, 38] [2, 5, 9, 21] ?_
 (try dsimp)
 apply Eso
 refine WQ qlA ?_
 apply WM
 obtain ⟨x66, aaC, h⟩ := aN h
 refine W1 (aF hP (Ep F a0.bH v61 x66 aaC) rfl rfl rfl) ?_
 apply WM
 refine Wk [2, 5, 6, 9, 10, 36, 37, 38] [2, 5, 9, 21] ?_
 (try dsimp)
 apply Eso
 apply WM
 apply WM
 refine WQ (ah rfl rfl) ?_
 refine WQ qlA ?_
 obtain ⟨x67, adh, h⟩ := aN h
 refine W1 (aF hP (Tz F ((nth a0.au v61).iF) x67 adh) rfl rfl rfl) ?_
 apply WM
 refine WQ (bD rfl rfl) ?_
 refine WQ (bD rfl rfl) ?_
 obtain ⟨g68, h⟩ := aV h
 refine WQ (fZ rfl rfl rfl g68.1 g68.2) ?_
 refine W1 (eU (e := cO) (n := 1) (k := 1) rfl rfl (fun _ => rfl) g68 0 (by omega) rfl rfl rfl (by decide) x67.1 rfl (by decide) rfl) ?_
 refine Wk [2, 5, 6, 9, 10, 36, 37, 38] [2, 5, 9, 21] ?_
 (try dsimp)
 apply eP
 apply WM
 apply WM
 obtain ⟨g69, h⟩ := aV h
 refine WQ (cZ rfl rfl g69.1 g69.2) ?_
 refine WQ (ah rfl rfl) ?_
 refine WQ (aj rfl rfl rfl) ?_
 obtain ⟨g70, h⟩ := aV h
 refine WQ (cZ rfl rfl g70.1 g70.2) ?_
 refine WQ (dF rfl) ?_
 obtain ⟨g71, h⟩ := aV h
 refine WQ (fZ rfl rfl rfl g71.1 g71.2) ?_
 refine W1 (eU (e := cO) (n := 1) (k := 1) rfl rfl (fun _ => rfl) (by first | exact g71 | exact kX.1 g71 | simpa only [kX] using g71) 0 (by omega) rfl rfl rfl (by decide) (IntKind.u64.wrap ((nth a0.au v61).xUp + (1 : Int))) rfl (by decide) rfl) ?_
 refine Wk [2, 5, 6, 36, 37, 38] [2, 5, 21] ?_
 (try dsimp)
 apply eP
 obtain ⟨g72, h⟩ := aV h
 refine WQ (cZ rfl rfl g72.1 g72.2) ?_
 apply WM
 apply dn
 refine ⟨n63, ((v61 + (1 : Int)), (jl (jl v62 x66 x67.1) (x66 + (1 : Int)) (IntKind.u64.wrap ((nth a0.au v61).xUp + (1 : Int))))), Nat.lt_succ_self _, h, ?_⟩
 refine iZ (mV (i := 6) _ rfl (by simp [aG, aP, aH] : v62.length = (jl (jl v62 x66 x67.1) (x66 + (1 : Int)) (IntKind.u64.wrap ((nth a0.au v61).xUp + (1 : Int)))).length)).b ?_
 exact (Le.b (bK ⟨rfl, rfl, rfl, rfl, rfl, rfl, trivial⟩ ⟨rfl, rfl, rfl, trivial⟩))
 apply gV
 refine ⟨v62, h, ?_⟩
 exact (Le.b (bK ⟨rfl, rfl, rfl, trivial⟩ ⟨rfl, rfl, rfl, trivial⟩))
def Nr : dJ := (.seq (.ops [(o (.mv cp) 2), (o (.mv (ci 0)) 3)]) (.seq (.seq (.ops [(w 4 0), (o (.bin .lss 3 (t 4) (ci 1)) 5), (w 6 5), (g_ (.mv (t 0)) 7 6 false), (g_ (.bin .gtr 3 (t 7) (ci 4096)) 8 6 false), (o (.pick (t 6) (cb true) (t 8)) 9)]) (.cond (t 9) (.seq (.ops [(o (.mv cp) 2), (o (.mv (ci 1)) 3)]) .ret) .skip)) (.seq (.ops [(w 10 0), (o (.mk 87 86 18 136 [zu, zu, zu, zu, zu, zu, zu, zu, zu, zu, zu, zu, zu, zu, zu, zu, zb, zb] (t 10) (t 10)) 11), (o (.build [.nil, zb, zi, zi, .nil] [(0, (1, (t 11)))]) 12), (o (.box 89 (t 12)) 13), (w 2 13), (o (.mv (ci 0)) 3)]) .ret)))
theorem Vy : Fits Tryz.prog 28 1 Nr [(.tmp 2), (.tmp 3)] := cu Tryz.func28 (by kernel_rfl) (by kernel_rfl) (by kernel_rfl)
theorem Ns (F : Nat) (a0 : Int) (r : Option aO × Int) (h : xu F a0 = some r) : AC Tryz.prog 28 [(zi_ a0)] [] (fun x s' => TA (r.1) (x = S.tup [S.one (.v (.pointer none)), (zi_ r.2)] ∧ qx s' []) (fun G => x = S.tup [S.one (.ptr 13 0), (zi_ r.2)] ∧ qx s' [(11, (⟨true, flat bJ G.xl⟩ : Reg)), (13, (⟨false, [.own 11 0 G.xl.length (some (18, 86)), vb G.gB, vi G.dA, vi G.dO, sl bT G.dN]⟩ : Reg))])) := by
 unfold xu at h
 refine qW Vy rfl ?_
 intro C hP
 unfold Nr; dsimp
 apply Eso
 apply WM
 apply WM
 refine Wk [0] [] ?_
 (try dsimp)
 apply bP
 apply Eso
 apply WM
 refine WQ (aB rfl rfl rfl) ?_
 apply WM
 apply aC
 rfl
 intro hB; (try simp only [hB, bss, ctt]); exact aI rfl
 apply aC
 rfl
 intro hB; (try simp only [hB, bss, ctt]); exact aB rfl rfl rfl
 refine WQ (dS rfl rfl rfl) ?_
 refine Wk [0, 9] [] ?_
 (try dsimp)
 refine Ec h rfl (fun h hc1 => ?_) (fun h hc1 => ?_)
 apply Eso
 apply WM
 apply WM
 refine Wk [2, 3] [] ?_
 (try dsimp)
 apply bI
 cases h
 (try simp only [qt, qb, qn])
 refine aT (xs := _) ⟨_, rfl, ⟨_, rfl, rfl⟩⟩ ?_
 show _ ∧ _
 exact ⟨rfl, trivial⟩
 apply bG
 refine bf [0] [] ?_
 (try dsimp)
 apply Eso
 apply WM
 obtain ⟨g2, h⟩ := aV h
 refine W1 (nD (e := bJ) (⟨(⟨(0 : Int), (0 : Int), (0 : Int), (0 : Int), (0 : Int), (0 : Int), (0 : Int), (0 : Int)⟩ : V8 Int), (⟨(0 : Int), (0 : Int), (0 : Int), (0 : Int), (0 : Int), (0 : Int), (0 : Int), (0 : Int)⟩ : V8 Int), false, false⟩ : bQ) rfl rfl rfl (fun _ => rfl) g2.1 g2.2.1 g2.2.2.1 g2.2.2.2 rfl) ?_
 refine WQ (bV rfl rfl) ?_
 refine W1 (eu rfl rfl rfl rfl) ?_
 apply WM
 apply WM
 refine Wk [2, 3] [11, 13] ?_
 (try dsimp)
 refine fA (oM (q := 13) rfl).b ?_
 (try dsimp)
 apply bI
 cases h
 (try simp only [qt, qb, qn])
 refine aT (xs := _) ⟨_, rfl, ⟨_, rfl, rfl⟩⟩ ?_
 show _ ∧ _
 exact ⟨rfl, ⟨(by first | rfl | simp [aG, aP, aH]), ⟨(by first | rfl | simp [aG, aP, aH]), trivial⟩⟩⟩
def KI : dJ := (.seq (.ops [(o (.mv cp) 2), (o (.mv (ci 0)) 3)]) (.seq (.ops [(w 10 0), (o (.len false (t 10)) 11), (o (.bin .quo 3 (t 11) (ci 8)) 12), (o (.call 28 [(t 12)]) 13), (w 9 13), (o (.ext 0 (t 9)) 14), (o (.ext 1 (t 9)) 15), (w 4 14), (w 5 15)]) (.seq (.seq (.ops [(w 16 5), (o (.bin .neq 33 (t 16) (ci 0)) 17), (w 18 17), (g_ (.mv (t 0)) 19 18 false), (g_ (.len false (t 19)) 20 18 false), (g_ (.bin .rem 3 (t 20) (ci 8)) 21 18 false), (g_ (.bin .neq 3 (t 21) (ci 0)) 22 18 false), (o (.pick (t 18) (cb true) (t 22)) 23)]) (.cond (t 23) (.seq (.ops [(o (.mv cp) 2), (o (.mv (ci 1)) 3)]) .ret) .skip)) (.seq (.seq (.ops [(w 24 0), (o (.len false (t 24)) 25), (o (.mv (ci 0)) 26)]) (.block 0 (.loop (.seq (.ops [(o (.bin .lss 3 (t 26) (t 25)) 27)]) (.seq (.cond (t 27) .skip (.exit 0)) (.seq (.block 1 (.seq (.ops [(w 28 26), (o (.gJ 1 (t 24) (t 26)) 29), (o (.load false 1 (t 29)) 30), (w 6 28), (w 7 30)]) (.seq (.ops [(w 31 4), (o (.iK (t 31)) 32), (o (.add 0 (t 32)) 33), (o (.load false 1 (t 33)) 34), (w 35 6), (o (.bin .quo 3 (t 35) (ci 8)) 36), (o (.gJ 18 (t 34) (t 36)) 37), (w 8 37)]) (.seq (.ops [(w 38 8), (w 39 6), (o (.bin .rem 3 (t 39) (ci 8)) 40), (w 41 7), (o (.iK (t 38)) 42), (o (.add 8 (t 42)) 43), (o (.Vz 1 8 (t 43) (t 40)) 44), (n_ (.store 1 (t 44) (t 41)))]) (.ops [(w 45 8), (w 46 6), (o (.bin .rem 3 (t 46) (ci 8)) 47), (w 48 7), (o (.iK (t 45)) 49), (o (.add 0 (t 49)) 50), (o (.Vz 1 8 (t 50) (t 47)) 51), (n_ (.store 1 (t 51) (t 48)))]))))) (.ops [(o (.bin .add 3 (t 26) (ci 1)) 52), (w 26 52)]))))))) (.seq (.ops [(w 53 4), (w 2 53), (o (.mv (ci 0)) 3)]) .ret)))))
theorem TB : Fits Tryz.prog 8 1 KI [(.tmp 2), (.tmp 3)] := cu Tryz.func8 (by kernel_rfl) (by kernel_rfl) (by kernel_rfl)
theorem zO (F : Nat) (a0 : (List Int)) (r : Option aO × Int) (h : qm F a0 = some r) : AC Tryz.prog 8 [ss cO a0] [] (fun x s' => TA (r.1) (x = S.tup [S.one (.v (.pointer none)), (zi_ r.2)] ∧ qx s' []) (fun G => x = S.tup [S.one (.ptr 7131 0), (zi_ r.2)] ∧ qx s' [(7130, (⟨true, flat bJ G.xl⟩ : Reg)), (7131, (⟨false, [.own 7130 0 G.xl.length (some (18, 86)), vb G.gB, vi G.dA, vi G.dO, sl bT G.dN]⟩ : Reg))])) := by
 unfold qm at h
 refine qW TB rfl ?_
 intro C hP
 unfold KI; dsimp
 apply Eso
 apply WM
 apply WM
 refine Wk [0] [] ?_
 (try dsimp)
 apply Eso
 apply WM
 refine WQ (bM rfl) ?_
 refine WQ (aB rfl rfl rfl) ?_
 obtain ⟨x1, x1h, h⟩ := aN h
 rcases wX h with ⟨o2e, h⟩ | ⟨o2, o2e, h⟩
 refine W1 (dL [] true hP (wY o2e (Ns F (IntKind.i64.wrap (Int.tdiv ((a0.length : Nat) : Int) 8)) x1 x1h)) rfl trivial rfl rfl rfl rfl rfl (fun h => by first | rfl | cases h) rfl) ?_
 (try dsimp)
 apply WM
 refine WQ (bD rfl rfl) ?_
 refine WQ (bD rfl rfl) ?_
 apply WM
 apply WM
 refine Wk [0, 4, 5] [] ?_
 (try dsimp)
 apply bP
 apply Eso
 apply WM
 refine WQ (aB rfl rfl rfl) ?_
 apply WM
 apply aC
 rfl
 intro hB; (try simp only [hB, bss, ctt]); exact aI rfl
 apply aC
 rfl
 intro hB; (try simp only [hB, bss, ctt]); exact bM rfl
 apply aC
 rfl
 intro hB; (try simp only [hB, bss, ctt]); exact aB rfl rfl rfl
 apply aC
 rfl
 intro hB; (try simp only [hB, bss, ctt]); exact aB rfl rfl rfl
 refine WQ (dS rfl rfl rfl) ?_
 refine Wk [0, 4, 23] [] ?_
 (try dsimp)
 refine Ec h rfl (fun h hc3 => ?_) (fun h hc3 => ?_)
 apply Eso
 apply WM
 apply WM
 refine Wk [2, 3] [] ?_
 (try dsimp)
 apply bI
 cases h
 (try simp only [qt, qb, qn])
 refine aT (xs := _) ⟨_, rfl, ⟨_, rfl, rfl⟩⟩ ?_
 show _ ∧ _
 exact ⟨rfl, trivial⟩
 apply bG
 refine bf [0, 4] [] ?_
 (try dsimp)
 obtain ⟨k4, k4d, h⟩ := fO h
 refine dV (α := Unit) (fun (i : Unit) => (⟨[(4, S.one (.v (.pointer none)))], []⟩ : St)) (fun i => k4 () = some r) (fun i h => ?_) ?_
 rw [k4d] at h; dsimp only at h
 (try dsimp)
 apply Eso
 apply WM
 apply WM
 apply WM
 refine Wk [2, 3] [] ?_
 (try dsimp)
 apply bI
 cases h
 (try simp only [qt, qb, qn])
 refine aT (xs := _) ⟨_, rfl, ⟨_, rfl, rfl⟩⟩ ?_
 show _ ∧ _
 exact ⟨rfl, trivial⟩
 apply Eso
 apply WM
 refine WQ (bM rfl) ?_
 apply WM
 refine Wk [4, 24, 25, 26] [] ?_
 (try dsimp)
 apply bW
 (try dsimp)
 refine fD (α := Unit) (fun (i : Unit) => (⟨[(4, S.one (.v (.pointer none))), (24, ss cO a0), (25, (zi_ ((a0.length : Nat) : Int))), (26, (zi_ (0 : Int)))], []⟩ : St)) (fun n i => yQ F a0 k4 n () = some r) F () h ?_ (fun n i h => ?_)
 exact (Le.b (bK ⟨rfl, rfl, rfl, rfl, trivial⟩ trivial))
 obtain _ | n7 := n
 cases h
 unfold yQ at h
 (try dsimp)
 apply Eso
 refine WQ (aB rfl rfl rfl) ?_
 apply dn
 (try dsimp)
 apply bP
 refine Ec h rfl (fun h hc8 => ?_) (fun h hc8 => ?_)
 apply bG
 refine bf [4, 24, 25, 26] [] ?_
 (try dsimp)
 apply bP
 apply bW
 apply Eso
 apply WM
 obtain ⟨g9, h⟩ := aV h
 refine WQ (aX rfl rfl g9.1 g9.2) ?_
 refine WQ (aZ (k := 1) rfl (fun _ => rfl) g9 0 rfl rfl) ?_
 apply WM
 apply WM
 refine Wk [4, 6, 7, 24, 25, 26] [] ?_
 (try dsimp)
 apply Eso
 apply WM
 cases h
 apply gV
 refine ⟨(), h, ?_⟩
 exact (Le.b (bK ⟨rfl, trivial⟩ trivial))
 refine W1 (dL [(11, 7130), (13, 7131)] true hP (wZ o2e (Ns F (IntKind.i64.wrap (Int.tdiv ((a0.length : Nat) : Int) 8)) x1 x1h)) rfl trivial rfl rfl rfl rfl rfl (fun h => by first | rfl | cases h) rfl) ?_
 (try dsimp)
 apply WM
 refine WQ (bD rfl rfl) ?_
 refine WQ (bD rfl rfl) ?_
 apply WM
 apply WM
 refine Wk [0, 4, 5] [7130, 7131] ?_
 (try dsimp)
 apply bP
 apply Eso
 apply WM
 refine WQ (aB rfl rfl rfl) ?_
 apply WM
 apply aC
 rfl
 intro hB; (try simp only [hB, bss, ctt]); exact aI rfl
 apply aC
 rfl
 intro hB; (try simp only [hB, bss, ctt]); exact bM rfl
 apply aC
 rfl
 intro hB; (try simp only [hB, bss, ctt]); exact aB rfl rfl rfl
 apply aC
 rfl
 intro hB; (try simp only [hB, bss, ctt]); exact aB rfl rfl rfl
 refine WQ (dS rfl rfl rfl) ?_
 refine Wk [0, 4, 23] [7130, 7131] ?_
 (try dsimp)
 refine Ec h rfl (fun h TD => ?_) (fun h TD => ?_)
 apply Eso
 apply WM
 apply WM
 refine Wk [2, 3] [] ?_
 (try dsimp)
 apply bI
 cases h
 (try simp only [qt, qb, qn])
 refine aT (xs := _) ⟨_, rfl, ⟨_, rfl, rfl⟩⟩ ?_
 show _ ∧ _
 exact ⟨rfl, trivial⟩
 apply bG
 refine bf [0, 4] [7130, 7131] ?_
 (try dsimp)
 obtain ⟨k12, O9, h⟩ := fO h
 refine dV (α := (List bQ)) (fun (i : (List bQ)) => (⟨[(4, S.one (.ptr 7131 0))], [(7130, (⟨true, flat bJ i⟩ : Reg)), (7131, (⟨false, [.own 7130 0 i.length (some (18, 86)), vb o2.gB, vi o2.dA, vi o2.dO, sl bT o2.dN]⟩ : Reg))]⟩ : St)) (fun i => k12 i = some r) (fun i h => ?_) ?_
 let iv := i; change k12 i = some r at h; generalize i = v11 at h ⊢
 rw [O9] at h; dsimp only at h
 (try dsimp)
 apply Eso
 apply WM
 apply WM
 apply WM
 refine Wk [2, 3] [7130, 7131] ?_
 (try dsimp)
 apply bI
 cases h
 (try simp only [qt, qb, qn])
 refine aT (xs := _) ⟨_, rfl, ⟨_, rfl, rfl⟩⟩ ?_
 show _ ∧ _
 exact ⟨rfl, ⟨(by first | rfl | simp [aG, aP, aH]), ⟨(by first | rfl | simp [aG, aP, aH]), trivial⟩⟩⟩
 apply Eso
 apply WM
 refine WQ (bM rfl) ?_
 apply WM
 refine Wk [4, 24, 25, 26] [7130, 7131] ?_
 (try dsimp)
 apply bW
 (try dsimp)
 refine fD (α := Int × (List bQ)) (fun (i : Int × (List bQ)) => (⟨[(4, S.one (.ptr 7131 0)), (24, ss cO a0), (25, (zi_ ((a0.length : Nat) : Int))), (26, (zi_ i.1))], [(7130, (⟨true, flat bJ i.2⟩ : Reg)), (7131, (⟨false, [.own 7130 0 i.2.length (some (18, 86)), vb o2.gB, vi o2.dA, vi o2.dO, sl bT o2.dN]⟩ : Reg))]⟩ : St)) (fun n i => oQ F a0 k12 n i.1 i.2 = some r) F ((0 : Int), o2.xl) h ?_ (fun n i h => ?_)
 exact (Le.b (bK ⟨rfl, rfl, rfl, rfl, trivial⟩ ⟨rfl, rfl, trivial⟩))
 obtain ⟨v27, v28⟩ := i; dsimp only at h
 obtain _ | n29 := n
 cases h
 unfold oQ at h
 (try dsimp)
 apply Eso
 refine WQ (aB rfl rfl rfl) ?_
 apply dn
 (try dsimp)
 apply bP
 refine Ec h rfl (fun h XF => ?_) (fun h XF => ?_)
 apply bG
 refine bf [4, 24, 25, 26] [7130, 7131] ?_
 (try dsimp)
 apply bP
 apply bW
 apply Eso
 apply WM
 obtain ⟨g31, h⟩ := aV h
 refine WQ (aX rfl rfl g31.1 g31.2) ?_
 refine WQ (aZ (k := 1) rfl (fun _ => rfl) g31 0 rfl rfl) ?_
 apply WM
 apply WM
 refine Wk [4, 6, 7, 24, 25, 26] [7130, 7131] ?_
 (try dsimp)
 apply Eso
 apply WM
 refine WQ (bU rfl rfl) ?_
 refine WQ (ah rfl rfl) ?_
 refine WQ (aj rfl rfl rfl) ?_
 apply WM
 refine WQ (aB rfl rfl rfl) ?_
 obtain ⟨g32, h⟩ := aV h
 refine WQ (fZ rfl rfl rfl g32.1 g32.2) ?_
 apply WM
 refine Wk [4, 6, 7, 8, 24, 25, 26] [7130, 7131] ?_
 (try dsimp)
 apply Eso
 apply WM
 apply WM
 refine WQ (aB rfl rfl rfl) ?_
 apply WM
 refine WQ (bU rfl rfl) ?_
 refine WQ (ah rfl rfl) ?_
 obtain ⟨g33, h⟩ := aV h
 refine WQ (yU rfl rfl rfl g33.1 g33.2) ?_
 refine W1 (eU (e := bJ) (n := 1) (k := 18) rfl rfl (fun _ => rfl) g32 (8 + (Int.tmod v27 8).toNat) (by omega) rfl rfl rfl (by decide) (⟨(nth v28 (IntKind.i64.wrap (Int.tdiv v27 8))).jQ, (((nth v28 (IntKind.i64.wrap (Int.tdiv v27 8))).xNew).put (Int.tmod v27 8).toNat (nth a0 v27)), (nth v28 (IntKind.i64.wrap (Int.tdiv v27 8))).yA, (nth v28 (IntKind.i64.wrap (Int.tdiv v27 8))).rH⟩ : bQ) (aaD (n := 8) (fun j => bJ (⟨(nth v28 (IntKind.i64.wrap (Int.tdiv v27 8))).jQ, (((nth v28 (IntKind.i64.wrap (Int.tdiv v27 8))).xNew).put j (nth a0 v27)), (nth v28 (IntKind.i64.wrap (Int.tdiv v27 8))).yA, (nth v28 (IntKind.i64.wrap (Int.tdiv v27 8))).rH⟩ : bQ) = splice (bJ (nth v28 (IntKind.i64.wrap (Int.tdiv v27 8)))) (8 + j) [vu (nth a0 v27)]) g33 (by intro j hj; rcases j with _|_|_|_|_|_|_|_|j <;> first | rfl | omega)) (by omega) rfl) ?_
 refine Wk [4, 6, 7, 8, 24, 25, 26] [7130, 7131] ?_
 (try dsimp)
 apply eP
 apply WM
 apply WM
 refine WQ (aB rfl rfl rfl) ?_
 apply WM
 refine WQ (bU rfl rfl) ?_
 refine WQ (ah rfl rfl) ?_
 obtain ⟨g34, h⟩ := aV h
 refine WQ (yU rfl rfl rfl g34.1 g34.2) ?_
 refine W1 (oq (e := bJ) (n := 1) (k := 18) rfl rfl (fun _ => rfl) (by first | exact g32 | exact kX.1 g32 | simpa only [kX] using g32) (0 + (Int.tmod v27 8).toNat) (by omega) rfl rfl rfl (by decide) (⟨(((nth v28 (IntKind.i64.wrap (Int.tdiv v27 8))).jQ).put (Int.tmod v27 8).toNat (nth a0 v27)), (((nth v28 (IntKind.i64.wrap (Int.tdiv v27 8))).xNew).put (Int.tmod v27 8).toNat (nth a0 v27)), (nth v28 (IntKind.i64.wrap (Int.tdiv v27 8))).yA, (nth v28 (IntKind.i64.wrap (Int.tdiv v27 8))).rH⟩ : bQ) (aaD (n := 8) (fun j => bJ (⟨(((nth v28 (IntKind.i64.wrap (Int.tdiv v27 8))).jQ).put j (nth a0 v27)), (((nth v28 (IntKind.i64.wrap (Int.tdiv v27 8))).xNew).put (Int.tmod v27 8).toNat (nth a0 v27)), (nth v28 (IntKind.i64.wrap (Int.tdiv v27 8))).yA, (nth v28 (IntKind.i64.wrap (Int.tdiv v27 8))).rH⟩ : bQ) = splice (bJ (⟨(nth v28 (IntKind.i64.wrap (Int.tdiv v27 8))).jQ, (((nth v28 (IntKind.i64.wrap (Int.tdiv v27 8))).xNew).put (Int.tmod v27 8).toNat (nth a0 v27)), (nth v28 (IntKind.i64.wrap (Int.tdiv v27 8))).yA, (nth v28 (IntKind.i64.wrap (Int.tdiv v27 8))).rH⟩ : bQ)) (0 + j) [vu (nth a0 v27)]) g34 (by intro j hj; rcases j with _|_|_|_|_|_|_|_|j <;> first | rfl | omega)) (by omega) rfl) ?_
 refine Wk [4, 24, 25, 26] [7130, 7131] ?_
 (try dsimp)
 apply eP
 obtain ⟨g35, h⟩ := aV h
 refine WQ (cZ rfl rfl g35.1 g35.2) ?_
 apply WM
 apply dn
 refine ⟨n29, ((v27 + (1 : Int)), (jl v28 (IntKind.i64.wrap (Int.tdiv v27 8)) (⟨(((nth v28 (IntKind.i64.wrap (Int.tdiv v27 8))).jQ).put (Int.tmod v27 8).toNat (nth a0 v27)), (((nth v28 (IntKind.i64.wrap (Int.tdiv v27 8))).xNew).put (Int.tmod v27 8).toNat (nth a0 v27)), (nth v28 (IntKind.i64.wrap (Int.tdiv v27 8))).yA, (nth v28 (IntKind.i64.wrap (Int.tdiv v27 8))).rH⟩ : bQ))), Nat.lt_succ_self _, h, ?_⟩
 refine iZ (mM (r := 7131) rfl (by simp [aG, aP, aH] : (⟨false, [.own 7130 0 v28.length (some (18, 86)), vb o2.gB, vi o2.dA, vi o2.dO, sl bT o2.dN]⟩ : Reg) = (⟨false, [.own 7130 0 (jl v28 (IntKind.i64.wrap (Int.tdiv v27 8)) (⟨(((nth v28 (IntKind.i64.wrap (Int.tdiv v27 8))).jQ).put (Int.tmod v27 8).toNat (nth a0 v27)), (((nth v28 (IntKind.i64.wrap (Int.tdiv v27 8))).xNew).put (Int.tmod v27 8).toNat (nth a0 v27)), (nth v28 (IntKind.i64.wrap (Int.tdiv v27 8))).yA, (nth v28 (IntKind.i64.wrap (Int.tdiv v27 8))).rH⟩ : bQ)).length (some (18, 86)), vb o2.gB, vi o2.dA, vi o2.dO, sl bT o2.dN]⟩ : Reg))).b ?_
 exact (Le.b (bK ⟨rfl, rfl, rfl, rfl, trivial⟩ ⟨rfl, rfl, trivial⟩))
 apply gV
 refine ⟨v28, h, ?_⟩
 exact (Le.b (bK ⟨rfl, trivial⟩ ⟨rfl, rfl, trivial⟩))
def Ii : dJ := (.seq (.ops [(o (.box 23 (t 0)) 2), (o (.mv cp) 4), (o (.mv (ci 0)) 5)]) (.seq (.ops [(o (.load true 3 (t 2)) 9), (w 10 1), (o (.call 13 [(t 9), (t 10)]) 11), (w 8 11), (o (.ext 0 (t 8)) 12), (o (.ext 1 (t 8)) 13), (o (.jR [zi, zi, zi, .nil, .nil]) 6), (n_ (.store 5 (t 6) (t 12))), (w 7 13)]) (.seq (.seq (.ops [(w 14 7), (o (.bin .neq 33 (t 14) (ci 0)) 15)]) (.cond (t 15) (.seq (.ops [(w 16 7), (o (.mv cp) 4), (w 5 16)]) .ret) .skip)) (.seq (.ops [(o (.load true 5 (t 6)) 17), (o (.call 29 [(t 17), (.const (.int .u64 0))]) 18), (o (.call 8 [(t 18)]) 19), (o (.ext 0 (t 19)) 20), (o (.ext 1 (t 19)) 21), (w 4 20), (w 5 21)]) .ret))))
theorem QJ : Fits Tryz.prog 12 2 Ii [(.tmp 4), (.tmp 5)] := cu Tryz.func12 (by kernel_rfl) (by kernel_rfl) (by kernel_rfl)
theorem Ij (F : Nat) (a0 : bg) (a1 : Int) (r : Option aO × Int) (h : vK F a0 a1 = some r) : AC Tryz.prog 12 [S.agg [vi a0.ak, vi a0.au, vi a0.ay], (zi_ a1)] [] (fun x s' => TA (r.1) (x = S.tup [S.one (.v (.pointer none)), (zi_ r.2)] ∧ qx s' []) (fun G => x = S.tup [S.one (.ptr 7191 0), (zi_ r.2)] ∧ qx s' [(7190, (⟨true, flat bJ G.xl⟩ : Reg)), (7191, (⟨false, [.own 7190 0 G.xl.length (some (18, 86)), vb G.gB, vi G.dA, vi G.dO, sl bT G.dN]⟩ : Reg))])) := by
 unfold vK at h
 refine qW QJ rfl ?_
 intro C hP
 unfold Ii; dsimp
 apply Eso
 refine W1 (eu rfl rfl rfl rfl) ?_
 apply WM
 apply WM
 refine Wk [1, 2] [2] ?_
 (try dsimp)
 apply Eso
 refine WQ qlA ?_
 apply WM
 obtain ⟨x1, x1h, h⟩ := aN h
 refine W1 (aF hP (HY F a0 a1 x1 x1h) rfl rfl rfl) ?_
 apply WM
 refine WQ (bD rfl rfl) ?_
 refine WQ (bD rfl rfl) ?_
 refine W1 (dw rfl rfl) ?_
 refine W1 dst ?_
 apply WM
 refine Wk [6, 7] [6] ?_
 (try dsimp)
 apply bP
 apply Eso
 apply WM
 refine WQ (aB rfl rfl rfl) ?_
 refine Wk [6, 7, 15] [6] ?_
 (try dsimp)
 refine Ec h rfl (fun h hc2 => ?_) (fun h hc2 => ?_)
 apply Eso
 apply WM
 apply WM
 apply WM
 refine Wk [4, 5] [] ?_
 (try dsimp)
 apply bI
 cases h
 (try simp only [qt, qb, qn])
 refine aT (xs := _) ⟨_, rfl, ⟨_, rfl, rfl⟩⟩ ?_
 show _ ∧ _
 exact ⟨rfl, trivial⟩
 apply bG
 refine bf [6] [6] ?_
 (try dsimp)
 apply Eso
 refine WQ qlA ?_
 obtain ⟨x3, x3h, h⟩ := aN h
 refine W1 (aF hP (Ih F x1.1 (0 : Int) x3 x3h) rfl rfl rfl) ?_
 obtain ⟨x4, x4h, h⟩ := aN h
 rcases wX h with ⟨o5e, h⟩ | ⟨o5, o5e, h⟩
 refine W1 (dL [] true hP (wY o5e (zO F x3 x4 x4h)) rfl trivial rfl rfl rfl rfl rfl (fun h => by first | rfl | cases h) rfl) ?_
 (try dsimp)
 refine WQ (bD rfl rfl) ?_
 refine WQ (bD rfl rfl) ?_
 apply WM
 apply WM
 refine Wk [4, 5] [] ?_
 (try dsimp)
 apply bI
 cases h
 (try simp only [qt, qb, qn])
 refine aT (xs := _) ⟨_, rfl, ⟨_, rfl, rfl⟩⟩ ?_
 show _ ∧ _
 exact ⟨rfl, trivial⟩
 refine W1 (dL [(7130, 7190), (7131, 7191)] true hP (wZ o5e (zO F x3 x4 x4h)) rfl trivial rfl rfl rfl rfl rfl (fun h => by first | rfl | cases h) rfl) ?_
 (try dsimp)
 refine WQ (bD rfl rfl) ?_
 refine WQ (bD rfl rfl) ?_
 apply WM
 apply WM
 refine Wk [4, 5] [7190, 7191] ?_
 (try dsimp)
 apply bI
 cases h
 (try simp only [qt, qb, qn])
 refine aT (xs := _) ⟨_, rfl, ⟨_, rfl, rfl⟩⟩ ?_
 show _ ∧ _
 exact ⟨rfl, ⟨(by first | rfl | simp [aG, aP, aH]), ⟨(by first | rfl | simp [aG, aP, aH]), trivial⟩⟩⟩
def DT : dJ := (.seq (.ops [(o (.mv (cb false)) 2)]) (.seq (.ops [(w 3 0), (o (.iK (t 3)) 4), (o (.add 1 (t 4)) 5), (o (.load false 1 (t 5)) 6), (w 2 6)]) .ret))
theorem MS : Fits Tryz.prog 32 1 DT [(.tmp 2)] := cu Tryz.func32 (by kernel_rfl) (by kernel_rfl) (by kernel_rfl)
theorem yV (F : Nat) (a0 : aO) (r : Bool) (h : kT F a0 = some r) : AC Tryz.prog 32 [S.one (.ptr 100900 0)] [(100900, (⟨false, [.own 100901 0 a0.xl.length (some (18, 86)), vb a0.gB, vi a0.dA, vi a0.dO, sl bT a0.dN]⟩ : Reg)), (100901, (⟨true, flat bJ a0.xl⟩ : Reg))] (fun x s' => x = (zb_ r) ∧ qx s' [(100900, (⟨false, [.own 100901 0 a0.xl.length (some (18, 86)), vb a0.gB, vi a0.dA, vi a0.dO, sl bT a0.dN]⟩ : Reg)), (100901, (⟨true, flat bJ a0.xl⟩ : Reg))]) := by
 unfold kT at h
 refine qW MS rfl ?_
 intro C hP
 unfold DT; dsimp
 apply Eso
 apply WM
 refine Wk [0] [100900, 100901] ?_
 (try dsimp)
 apply Eso
 apply WM
 refine WQ (bU rfl rfl) ?_
 refine WQ (ah rfl rfl) ?_
 refine WQ (aj rfl rfl rfl) ?_
 apply WM
 refine Wk [2] [100900, 100901] ?_
 (try dsimp)
 apply bI
 cases h
 (try simp only [qt, qb, qn])
 refine aT (xs := _) ⟨_, rfl, rfl⟩ ?_
 show _ ∧ _
 exact ⟨rfl, ⟨(by first | rfl | simp [aG, aP, aH]), ⟨(by first | rfl | simp [aG, aP, aH]), trivial⟩⟩⟩
def Af : dJ := (.seq (.ops [(o (.mv cn) 2)]) (.seq (.ops [(w 6 0), (o (.iK (t 6)) 7), (o (.add 0 (t 7)) 8), (o (.load false 1 (t 8)) 9), (o (.len false (t 9)) 10), (o (.bin .mul 3 (t 10) (ci 8)) 11), (o (.mk 36 42 1 8 [zu] (ci 0) (t 11)) 12), (w 3 12)]) (.seq (.seq (.ops [(w 13 0), (o (.iK (t 13)) 14), (o (.add 0 (t 14)) 15), (o (.load false 1 (t 15)) 16), (o (.len false (t 16)) 17), (o (.mv (ci 0)) 18)]) (.block 0 (.loop (.seq (.ops [(o (.bin .lss 3 (t 18) (t 17)) 19)]) (.seq (.cond (t 19) .skip (.exit 0)) (.seq (.block 1 (.seq (.ops [(o (.gJ 18 (t 16) (t 18)) 20), (o (.load true 18 (t 20)) 21), (o (.jR [zu, zu, zu, zu, zu, zu, zu, zu, zu, zu, zu, zu, zu, zu, zu, zu, zb, zb]) 5), (n_ (.store 18 (t 5) (t 21)))]) (.ops [(w 22 3), (o (.add 8 (t 5)) 23), (o (.QF 1 8 (t 23) .none .none) 24), (o (.app 36 42 1 8 (t 22) (t 24)) 25), (w 3 25)]))) (.ops [(o (.bin .add 3 (t 18) (ci 1)) 26), (w 18 26)]))))))) (.seq (.ops [(w 27 3), (w 2 27)]) .ret))))
theorem IW : Fits Tryz.prog 11 1 Af [(.tmp 2)] := cu Tryz.func11 (by kernel_rfl) (by kernel_rfl) (by kernel_rfl)
theorem lS (F : Nat) (a0 : aO) (r : (List Int)) (h : fM F a0 = some r) : AC Tryz.prog 11 [S.one (.ptr 100900 0)] [(100900, (⟨false, [.own 100901 0 a0.xl.length (some (18, 86)), vb a0.gB, vi a0.dA, vi a0.dO, sl bT a0.dN]⟩ : Reg)), (100901, (⟨true, flat bJ a0.xl⟩ : Reg))] (fun x s' => x = ss cO r ∧ qx s' [(100900, (⟨false, [.own 100901 0 a0.xl.length (some (18, 86)), vb a0.gB, vi a0.dA, vi a0.dO, sl bT a0.dN]⟩ : Reg)), (100901, (⟨true, flat bJ a0.xl⟩ : Reg))]) := by
 unfold fM at h
 refine qW IW rfl ?_
 intro C hP
 unfold Af; dsimp
 apply Eso
 apply WM
 refine Wk [0] [100900, 100901] ?_
 (try dsimp)
 apply Eso
 apply WM
 refine WQ (bU rfl rfl) ?_
 refine WQ (ah rfl rfl) ?_
 refine WQ (aj rfl rfl rfl) ?_
 refine WQ (kE rfl rfl) ?_
 obtain ⟨g1, h⟩ := aV h
 refine WQ (nC rfl rfl g1.1 g1.2) ?_
 obtain ⟨g2, h⟩ := aV h
 refine W1 (nD (e := cO) (0 : Int) rfl rfl rfl (fun _ => rfl) g2.1 g2.2.1 g2.2.2.1 g2.2.2.2 rfl) ?_
 apply WM
 refine Wk [0, 3] [12, 100900, 100901] ?_
 (try dsimp)
 obtain ⟨k4, k4d, h⟩ := fO h
 refine dV (α := (List Int)) (fun (i : (List Int)) => (⟨[(3, S.one (.own 12 0 i.length (some (1, 42))))], [(12, (⟨true, flat cO i⟩ : Reg)), (100900, (⟨false, [.own 100901 0 a0.xl.length (some (18, 86)), vb a0.gB, vi a0.dA, vi a0.dO, sl bT a0.dN]⟩ : Reg)), (100901, (⟨true, flat bJ a0.xl⟩ : Reg))]⟩ : St)) (fun i => k4 i = some r) (fun i h => ?_) ?_
 let iv := i; change k4 i = some r at h; generalize i = v3 at h ⊢
 rw [k4d] at h; dsimp only at h
 (try dsimp)
 apply Eso
 apply WM
 apply WM
 refine Wk [2] [12, 100900, 100901] ?_
 (try dsimp)
 refine fA (l7 (r := 12) rfl rfl).b ?_
 (try dsimp)
 apply bI
 cases h
 (try simp only [qt, qb, qn])
 refine aT (xs := _) ⟨_, rfl, rfl⟩ ?_
 show _ ∧ _
 exact ⟨rfl, ⟨(by first | rfl | simp [aG, aP, aH]), ⟨(by first | rfl | simp [aG, aP, aH]), trivial⟩⟩⟩
 apply Eso
 apply WM
 refine WQ (bU rfl rfl) ?_
 refine WQ (ah rfl rfl) ?_
 refine WQ (aj rfl rfl rfl) ?_
 refine WQ (kE rfl rfl) ?_
 apply WM
 refine Wk [3, 16, 17, 18] [12, 100900, 100901] ?_
 (try dsimp)
 apply bW
 (try dsimp)
 refine fD (α := Int × (List Int)) (fun (i : Int × (List Int)) => (⟨[(3, S.one (.own 12 0 i.2.length (some (1, 42)))), (16, S.one (.own 100901 0 a0.xl.length (some (18, 86)))), (17, (zi_ ((a0.xl.length : Nat) : Int))), (18, (zi_ i.1))], [(12, (⟨true, flat cO i.2⟩ : Reg)), (100900, (⟨false, [.own 100901 0 a0.xl.length (some (18, 86)), vb a0.gB, vi a0.dA, vi a0.dO, sl bT a0.dN]⟩ : Reg)), (100901, (⟨true, flat bJ a0.xl⟩ : Reg))]⟩ : St)) (fun n i => lq F a0 k4 n i.1 i.2 = some r) F ((0 : Int), (List.replicate (0 : Int).toNat (0 : Int))) h ?_ (fun n i h => ?_)
 exact (Le.b (bK ⟨rfl, rfl, rfl, rfl, trivial⟩ ⟨rfl, rfl, rfl, trivial⟩))
 obtain ⟨v15, v16⟩ := i; dsimp only at h
 obtain _ | n17 := n
 cases h
 unfold lq at h
 (try dsimp)
 apply Eso
 refine WQ (aB rfl rfl rfl) ?_
 apply dn
 (try dsimp)
 apply bP
 refine Ec h rfl (fun h hc18 => ?_) (fun h hc18 => ?_)
 apply bG
 refine bf [3, 16, 17, 18] [12, 100900, 100901] ?_
 (try dsimp)
 apply bP
 apply bW
 apply Eso
 obtain ⟨g19, h⟩ := aV h
 refine WQ (fZ rfl rfl rfl g19.1 g19.2) ?_
 refine WQ (xX (k := 18) rfl rfl (fun _ => rfl) g19 0 (by omega) rfl rfl (by decide)) ?_
 refine W1 (dw rfl rfl) ?_
 refine W1 dst ?_
 refine Wk [3, 5, 16, 17, 18] [5, 12, 100900, 100901] ?_
 (try dsimp)
 apply eP
 apply WM
 refine WQ (ah rfl rfl) ?_
 refine WQ (rX rfl rfl rfl rfl (by decide) (by decide) (by decide) (List.cons_ne_nil _ _)) ?_
 obtain ⟨g20, h⟩ := aV h
 refine W1 (jc (e := cO) rfl rfl (fun _ => rfl) (fun _ => rfl) rfl (Src.part (e := cO) ([(nth a0.xl v15).xNew.c0, (nth a0.xl v15).xNew.c1, (nth a0.xl v15).xNew.c2, (nth a0.xl v15).xNew.c3, (nth a0.xl v15).xNew.c4, (nth a0.xl v15).xNew.c5, (nth a0.xl v15).xNew.c6, (nth a0.xl v15).xNew.c7] : List Int) rfl (fun _ => rfl) rfl rfl) g20 rfl) ?_
 apply WM
 refine Wk [3, 16, 17, 18] [12, 100900, 100901] ?_
 (try dsimp)
 apply eP
 obtain ⟨g21, h⟩ := aV h
 refine WQ (cZ rfl rfl g21.1 g21.2) ?_
 apply WM
 apply dn
 refine ⟨n17, ((v15 + (1 : Int)), (v16 ++ ([(nth a0.xl v15).xNew.c0, (nth a0.xl v15).xNew.c1, (nth a0.xl v15).xNew.c2, (nth a0.xl v15).xNew.c3, (nth a0.xl v15).xNew.c4, (nth a0.xl v15).xNew.c5, (nth a0.xl v15).xNew.c6, (nth a0.xl v15).xNew.c7] : List Int))), Nat.lt_succ_self _, h, ?_⟩
 exact (Le.b (bK ⟨rfl, rfl, rfl, rfl, trivial⟩ ⟨rfl, rfl, rfl, trivial⟩))
 apply gV
 refine ⟨v16, h, ?_⟩
 exact (Le.b (bK ⟨rfl, trivial⟩ ⟨rfl, rfl, rfl, trivial⟩))
def uK : dJ := (.seq (.ops [(o (.mv (cb false)) 4)]) (.seq (.seq (.ops [(w 6 0), (o (.len false (t 6)) 7), (w 8 1), (o (.len false (t 8)) 9), (o (.bin .neq 3 (t 7) (t 9)) 10)]) (.cond (t 10) (.seq (.ops [(o (.mv (cb false)) 4)]) .ret) .skip)) (.seq (.seq (.ops [(w 11 0), (o (.len false (t 11)) 12), (o (.mv (ci 0)) 13)]) (.block 0 (.loop (.seq (.ops [(o (.bin .lss 3 (t 13) (t 12)) 14)]) (.seq (.cond (t 14) .skip (.exit 0)) (.seq (.block 1 (.seq (.ops [(w 15 13), (w 5 15)]) (.seq (.draw [((w 16 0), []), ((w 17 5), []), ((o (.gJ 1 (t 16) (t 17)) 18), [0, 1]), ((o (.load false 1 (t 18)) 19), [2]), ((w 20 1), []), ((w 21 5), []), ((o (.gJ 1 (t 20) (t 21)) 22), [4, 5]), ((o (.load false 1 (t 22)) 23), [6]), ((o (.bin .neq 42 (t 19) (t 23)) 24), [3, 7])]) (.cond (t 24) (.seq (.ops [(o (.mv (cb false)) 4)]) .ret) .skip)))) (.ops [(o (.bin .add 3 (t 13) (ci 1)) 25), (w 13 25)]))))))) (.seq (.ops [(o (.mv (cb true)) 4)]) .ret))))
theorem AV : Fits Tryz.prog 105 2 uK [(.tmp 4)] := cu Tryz.func105 (by kernel_rfl) (by kernel_rfl) (by kernel_rfl)
theorem uM (F : Nat) (a0 : (List Int)) (a1 : (List Int)) (r : Bool) (h : jC F a0 a1 = some r) : PC Tryz.prog 105 [ss cO a0, ss cO a1] (zb_ r) := by
 unfold jC at h
 refine fC AV rfl rfl ?_
 intro C hP
 unfold uK; dsimp
 apply Eso
 apply WM
 refine Wk [0, 1] [] ?_
 (try dsimp)
 apply bP
 apply Eso
 apply WM
 refine WQ (bM rfl) ?_
 apply WM
 refine WQ (bM rfl) ?_
 refine WQ (aB rfl rfl rfl) ?_
 refine Wk [0, 1, 10] [] ?_
 (try dsimp)
 refine Ec h rfl (fun h hc1 => ?_) (fun h hc1 => ?_)
 apply Eso
 apply WM
 refine Wk [4] [] ?_
 (try dsimp)
 apply bI
 cases h
 (try simp only [qt, qb, qn])
 refine aT (xs := _) ⟨_, rfl, rfl⟩ ?_
 rfl
 apply bG
 refine bf [0, 1] [] ?_
 (try dsimp)
 obtain ⟨k2, k2d, h⟩ := fO h
 refine dV (α := Unit) (fun (i : Unit) => (⟨[], []⟩ : St)) (fun i => k2 () = some r) (fun i h => ?_) ?_
 rw [k2d] at h; dsimp only at h
 (try dsimp)
 apply Eso
 apply WM
 apply dn
 (try dsimp)
 apply bI
 cases h
 (try simp only [qt, qb, qn])
 refine aT (xs := _) ⟨_, rfl, rfl⟩ ?_
 rfl
 apply Eso
 apply WM
 refine WQ (bM rfl) ?_
 apply WM
 refine Wk [0, 1, 12, 13] [] ?_
 (try dsimp)
 apply bW
 (try dsimp)
 refine fD (α := Int) (fun (i : Int) => (⟨[(0, ss cO a0), (1, ss cO a1), (12, (zi_ ((a0.length : Nat) : Int))), (13, (zi_ i))], []⟩ : St)) (fun n i => fF F a0 a1 k2 n i = some r) F (0 : Int) h ?_ (fun n i h => ?_)
 exact (Le.b (bK ⟨rfl, rfl, rfl, rfl, trivial⟩ trivial))
 generalize i = v14 at h ⊢
 obtain _ | n15 := n
 cases h
 unfold fF at h
 (try dsimp)
 apply Eso
 refine WQ (aB rfl rfl rfl) ?_
 apply dn
 (try dsimp)
 apply bP
 refine Ec h rfl (fun h hc16 => ?_) (fun h hc16 => ?_)
 apply bG
 refine bf [0, 1, 12, 13] [] ?_
 (try dsimp)
 apply bP
 apply bW
 apply Eso
 apply WM
 apply WM
 refine Wk [0, 1, 5, 12, 13] [] ?_
 (try dsimp)
 apply bP
 obtain ⟨g17, h⟩ := aV h
 obtain ⟨g18, h⟩ := aV h
 refine iY [0, 1, 2, 3, 4, 5, 6, 7, 8] ?_
 refine XQ 0 rfl rfl rfl (aI rfl) ?_
 refine XQ 1 rfl rfl rfl (aI rfl) ?_
 refine XQ 2 rfl rfl rfl (aX rfl rfl g17.1 g17.2) ?_
 refine XQ 3 rfl rfl rfl (aZ (k := 1) rfl (fun _ => rfl) g17 0 rfl rfl) ?_
 refine XQ 4 rfl rfl rfl (aI rfl) ?_
 refine XQ 5 rfl rfl rfl (aI rfl) ?_
 refine XQ 6 rfl rfl rfl (aX rfl rfl g18.1 g18.2) ?_
 refine XQ 7 rfl rfl rfl (aZ (k := 1) rfl (fun _ => rfl) g18 0 rfl rfl) ?_
 refine XQ 8 rfl rfl rfl (aB rfl rfl rfl) ?_
 refine ig rfl ?_
 refine bf [0, 1, 12, 13, 24] [] ?_
 (try dsimp)
 refine Ec h rfl (fun h hc19 => ?_) (fun h hc19 => ?_)
 apply Eso
 apply WM
 refine Wk [4] [] ?_
 (try dsimp)
 apply bI
 cases h
 (try simp only [qt, qb, qn])
 refine aT (xs := _) ⟨_, rfl, rfl⟩ ?_
 rfl
 apply bG
 refine bf [0, 1, 12, 13] [] ?_
 (try dsimp)
 apply eP
 obtain ⟨g20, h⟩ := aV h
 refine WQ (cZ rfl rfl g20.1 g20.2) ?_
 apply WM
 apply dn
 refine ⟨n15, (v14 + (1 : Int)), Nat.lt_succ_self _, h, ?_⟩
 exact (Le.b (bK ⟨rfl, rfl, rfl, rfl, trivial⟩ trivial))
 apply gV
 refine ⟨(), h, ?_⟩
 exact (Le.b (bK trivial trivial))
def Ik : dJ := (.seq (.ops [(o (.jR [zi, zi, zi, zu]) 2), (o (.mv (cb false)) 3)]) (.seq (.seq (.draw [((w 5 0), []), ((o (.len false (t 5)) 6), [0]), ((o (.bin .neq 3 (t 6) (ci 8)) 7), [1]), ((w 8 7), [2]), ((g_ (.mv (t 0)) 9 8 false), [3]), ((g_ (.gJ 1 (t 9) (ci 1)) 10 8 false), [4, 3]), ((g_ (.load false 1 (t 10)) 11 8 false), [5, 3]), ((g_ (.mv (t 0)) 12 8 false), [3]), ((g_ (.gJ 1 (t 12) (ci 2)) 13 8 false), [7, 3]), ((g_ (.load false 1 (t 13)) 14 8 false), [8, 3]), ((g_ (.mv (t 0)) 15 8 false), [3]), ((g_ (.gJ 1 (t 15) (ci 3)) 16 8 false), [10, 3]), ((g_ (.load false 1 (t 16)) 17 8 false), [11, 3]), ((g_ (.bi .max #[42, 42, 42] 42 #[false, false, false] [(t 11), (t 14), (t 17)]) 18 8 false), [6, 9, 12, 3]), ((g_ (.bin .gtr 42 (t 18) (.const (.int .u64 4096))) 19 8 false), [13, 3]), ((o (.pick (t 8) (cb true) (t 19)) 20), [3, 14])]) (.cond (t 20) (.seq (.ops [(o (.build [zi, zi, zi, zu] []) 21), (n_ (.store 4 (t 2) (t 21))), (o (.mv (cb false)) 3)]) .ret) .skip)) (.seq (.draw [((w 22 0), []), ((o (.gJ 1 (t 22) (ci 1)) 23), [0]), ((o (.load false 1 (t 23)) 24), [1]), ((o (.jF .i64 (t 24)) 25), [2]), ((w 26 0), []), ((o (.gJ 1 (t 26) (ci 2)) 27), [4]), ((o (.load false 1 (t 27)) 28), [5]), ((o (.jF .i64 (t 28)) 29), [6]), ((w 30 0), []), ((o (.gJ 1 (t 30) (ci 3)) 31), [8]), ((o (.load false 1 (t 31)) 32), [9]), ((o (.jF .i64 (t 32)) 33), [10]), ((o (.build [zi, zi, zi] [(0, (1, (t 25))), (1, (1, (t 29))), (2, (1, (t 33)))]) 34), [3, 7, 11]), ((w 35 0), []), ((o (.gJ 1 (t 35) (ci 4)) 36), [13]), ((o (.load false 1 (t 36)) 37), [14]), ((o (.build [zi, zi, zi, zu] [(0, (3, (t 34))), (3, (1, (t 37)))]) 38), [12, 15]), ((o (.jR [zi, zi, zi, zu]) 4), []), ((n_ (.store 4 (t 4) (t 38))), [17, 16, 0, 1, 2, 3, 4, 5, 6, 7, 8, 9, 10, 11, 12, 13, 14, 15, 16, 17])]) (.seq (.seq (.ops [(o (.load true 4 (t 4)) 39), (o (.call 57 [(t 39)]) 40), (w 41 0), (o (.call 105 [(t 40), (t 41)]) 42), (o (.un .not (t 42)) 43)]) (.cond (t 43) (.seq (.ops [(o (.build [zi, zi, zi, zu] []) 44), (n_ (.store 4 (t 2) (t 44))), (o (.mv (cb false)) 3)]) .ret) .skip)) (.seq (.ops [(o (.load true 4 (t 4)) 45), (n_ (.store 4 (t 2) (t 45))), (o (.mv (cb true)) 3)]) .ret)))))
theorem QK : Fits Tryz.prog 67 1 Ik [(.cell true 4 2), (.tmp 3)] := cu Tryz.func67 (by kernel_rfl) (by kernel_rfl) (by kernel_rfl)
theorem BJ (F : Nat) (a0 : (List Int)) (r : dQ × Bool) (h : oJ F a0 = some r) : PC Tryz.prog 67 [ss cO a0] (S.tup [S.agg [vi r.1.bH.ak, vi r.1.bH.au, vi r.1.bH.ay, vu r.1.tq], (zb_ r.2)]) := by
 unfold oJ at h
 refine fC QK rfl rfl ?_
 intro C hP
 unfold Ik; dsimp
 apply Eso
 refine W1 (dw rfl rfl) ?_
 apply WM
 refine Wk [0, 2] [2] ?_
 (try dsimp)
 apply bP
 apply bP
 obtain ⟨g1, h⟩ := aV h
 obtain ⟨g2, h⟩ := aV h
 obtain ⟨g3, h⟩ := aV h
 obtain ⟨x4, x4h, h⟩ := aN h
 refine iY [0, 1, 2, 3, 4, 5, 6, 7, 8, 9, 10, 11, 12, 13, 14, 15] ?_
 refine XQ 0 rfl rfl rfl (aI rfl) ?_
 refine XQ 1 rfl rfl rfl (bM rfl) ?_
 refine XQ 2 rfl rfl rfl (aB rfl rfl rfl) ?_
 refine XQ 3 rfl rfl rfl (aI rfl) ?_
 apply dR 4
 rfl
 rfl
 rfl
 rfl
 intro hB; (try simp only [hB, bss, ctt]); exact aI rfl
 apply dR 5
 rfl
 rfl
 rfl
 rfl
 intro hB; (try simp only [hB, bss, ctt]); exact aX rfl rfl (g1 hB).1 (g1 hB).2
 apply dR 6
 rfl
 rfl
 rfl
 rfl
 intro hB; (try simp only [hB, bss, ctt]); exact aZ (k := 1) rfl (fun _ => rfl) (g1 hB) 0 rfl rfl
 apply dR 7
 rfl
 rfl
 rfl
 rfl
 intro hB; (try simp only [hB, bss, ctt]); exact aI rfl
 apply dR 8
 rfl
 rfl
 rfl
 rfl
 intro hB; (try simp only [hB, bss, ctt]); exact aX rfl rfl (g2 hB).1 (g2 hB).2
 apply dR 9
 rfl
 rfl
 rfl
 rfl
 intro hB; (try simp only [hB, bss, ctt]); exact aZ (k := 1) rfl (fun _ => rfl) (g2 hB) 0 rfl rfl
 apply dR 10
 rfl
 rfl
 rfl
 rfl
 intro hB; (try simp only [hB, bss, ctt]); exact aI rfl
 apply dR 11
 rfl
 rfl
 rfl
 rfl
 intro hB; (try simp only [hB, bss, ctt]); exact aX rfl rfl (g3 hB).1 (g3 hB).2
 apply dR 12
 rfl
 rfl
 rfl
 rfl
 intro hB; (try simp only [hB, bss, ctt]); exact aZ (k := 1) rfl (fun _ => rfl) (g3 hB) 0 rfl rfl
 apply dR 13
 rfl
 rfl
 rfl
 rfl
 intro hB; (try simp only [hB, bss, ctt]); exact CZ (vs := [(.int .u64 (nth a0 (1 : Int))), (.int .u64 (nth a0 (2 : Int))), (.int .u64 (nth a0 (3 : Int)))]) hP rfl (X_i (jW x4h (bt hB))) rfl
 apply dR 14
 rfl
 rfl
 rfl
 rfl
 intro hB; (try simp only [hB, bss, ctt]); exact aB rfl rfl rfl
 refine XQ 15 rfl rfl rfl (dS rfl rfl rfl) ?_
 refine ig rfl ?_
 refine bf [0, 2, 20] [2] ?_
 (try dsimp)
 refine Ec h rfl (fun h hc5 => ?_) (fun h hc5 => ?_)
 apply Eso
 refine WQ (bV rfl rfl) ?_
 refine W1 dst ?_
 apply WM
 refine Wk [2, 3] [2] ?_
 (try dsimp)
 apply bI
 cases h
 (try simp only [qt, qb, qn])
 refine aT (xs := _) ⟨_, _, fG rfl (by simp), rfl, rfl, ⟨_, rfl, rfl⟩⟩ ?_
 rfl
 apply bG
 refine bf [0, 2] [2] ?_
 (try dsimp)
 apply bP
 obtain ⟨g6, h⟩ := aV h
 obtain ⟨g7, h⟩ := aV h
 obtain ⟨g8, h⟩ := aV h
 obtain ⟨g9, h⟩ := aV h
 refine iY [0, 1, 2, 3, 4, 5, 6, 7, 8, 9, 10, 11, 12, 13, 14, 15, 16] ?_
 refine XQ 0 rfl rfl rfl (aI rfl) ?_
 refine XQ 1 rfl rfl rfl (aX rfl rfl g6.1 g6.2) ?_
 refine XQ 2 rfl rfl rfl (aZ (k := 1) rfl (fun _ => rfl) g6 0 rfl rfl) ?_
 refine XQ 3 rfl rfl rfl (dF rfl) ?_
 refine XQ 4 rfl rfl rfl (aI rfl) ?_
 refine XQ 5 rfl rfl rfl (aX rfl rfl g7.1 g7.2) ?_
 refine XQ 6 rfl rfl rfl (aZ (k := 1) rfl (fun _ => rfl) g7 0 rfl rfl) ?_
 refine XQ 7 rfl rfl rfl (dF rfl) ?_
 refine XQ 8 rfl rfl rfl (aI rfl) ?_
 refine XQ 9 rfl rfl rfl (aX rfl rfl g8.1 g8.2) ?_
 refine XQ 10 rfl rfl rfl (aZ (k := 1) rfl (fun _ => rfl) g8 0 rfl rfl) ?_
 refine XQ 11 rfl rfl rfl (dF rfl) ?_
 refine XQ 12 rfl rfl rfl (bV rfl rfl) ?_
 refine XQ 13 rfl rfl rfl (aI rfl) ?_
 refine XQ 14 rfl rfl rfl (aX rfl rfl g9.1 g9.2) ?_
 refine XQ 15 rfl rfl rfl (aZ (k := 1) rfl (fun _ => rfl) g9 0 rfl rfl) ?_
 refine XQ 16 rfl rfl rfl (bV rfl rfl) ?_
 (try dsimp)
 refine X1 rfl (XK rfl (dw rfl rfl) ?_)
 refine X1 rfl (XT rfl rfl dst ?_)
 refine ig rfl ?_
 refine bf [0, 2, 4] [2, 4] ?_
 (try dsimp)
 apply bP
 apply Eso
 refine WQ qlA ?_
 obtain ⟨x10, Fg, h⟩ := aN h
 refine W1 (aF hP (BI F (⟨(⟨(IntKind.i64.wrap (nth a0 (1 : Int))), (IntKind.i64.wrap (nth a0 (2 : Int))), (IntKind.i64.wrap (nth a0 (3 : Int)))⟩ : bg), (nth a0 (4 : Int))⟩ : dQ) x10 Fg) rfl rfl rfl) ?_
 apply WM
 obtain ⟨x11, XR, h⟩ := aN h
 refine W1 (aF hP (uM F x10 a0 x11 XR) rfl rfl rfl) ?_
 refine WQ (dM rfl) ?_
 refine Wk [2, 4, 43] [2, 4] ?_
 (try dsimp)
 refine Ec h rfl (fun h hc12 => ?_) (fun h hc12 => ?_)
 apply Eso
 refine WQ (bV rfl rfl) ?_
 refine W1 dst ?_
 apply WM
 refine Wk [2, 3] [2] ?_
 (try dsimp)
 apply bI
 cases h
 (try simp only [qt, qb, qn])
 refine aT (xs := _) ⟨_, _, fG rfl (by simp), rfl, rfl, ⟨_, rfl, rfl⟩⟩ ?_
 rfl
 apply bG
 refine bf [2, 4] [2, 4] ?_
 (try dsimp)
 apply Eso
 refine WQ qlA ?_
 refine W1 dst ?_
 apply WM
 refine Wk [2, 3] [2] ?_
 (try dsimp)
 apply bI
 cases h
 (try simp only [qt, qb, qn])
 refine aT (xs := _) ⟨_, _, fG rfl (by simp), rfl, rfl, ⟨_, rfl, rfl⟩⟩ ?_
 rfl
def FT : dJ := (.seq (.ops [(o (.jR [zi, zi, zi, zu]) 2), (o (.mv (cb false)) 3), (o (.mv (cb false)) 4)]) (.seq (.ops [(w 7 0), (o (.len false (t 7)) 8), (w 5 8)]) (.seq (.seq (.ops [(w 9 5), (o (.bin .lss 3 (t 9) (ci 8)) 10), (w 11 10), (g_ (.mv (t 5)) 12 11 false), (g_ (.bin .rem 3 (t 12) (ci 8)) 13 11 false), (g_ (.bin .neq 3 (t 13) (ci 0)) 14 11 false), (o (.pick (t 11) (cb true) (t 14)) 15)]) (.cond (t 15) (.seq (.ops [(o (.build [zi, zi, zi, zu] []) 16), (n_ (.store 4 (t 2) (t 16))), (o (.mv (cb false)) 3), (o (.mv (cb false)) 4)]) .ret) .skip)) (.seq (.ops [(w 18 0), (o (.slc 1 (t 18) .none (.some (ci 8)) .none) 19), (o (.call 67 [(t 19)]) 20), (w 17 20), (o (.ext 0 (t 17)) 21), (o (.ext 1 (t 17)) 22), (n_ (.store 4 (t 2) (t 21))), (w 3 22)]) (.seq (.ops [(w 23 3), (w 24 23), (g_ (.add 0 (t 2)) 25 24 true), (g_ (.load true 3 (t 25)) 26 24 true), (g_ (.call 56 [(t 26)]) 27 24 true), (g_ (.mv (t 5)) 28 24 true), (g_ (.bin .quo 3 (t 28) (ci 8)) 29 24 true), (g_ (.bin .eql 3 (t 27) (t 29)) 30 24 true), (o (.pick (t 24) (t 30) (cb false)) 31), (w 3 31)]) (.seq (.ops [(w 33 0), (w 34 5), (o (.bin .sub 3 (t 34) (ci 8)) 35), (o (.slc 1 (t 33) (.some (t 35)) .none .none) 36), (o (.call 67 [(t 36)]) 37), (w 32 37), (o (.ext 0 (t 32)) 38), (o (.ext 1 (t 32)) 39), (o (.jR [zi, zi, zi, zu]) 6), (n_ (.store 4 (t 6) (t 38))), (w 4 39)]) (.seq (.ops [(w 40 4), (w 41 40), (g_ (.add 0 (t 6)) 42 41 true), (g_ (.load true 3 (t 42)) 43 41 true), (g_ (.call 56 [(t 43)]) 44 41 true), (g_ (.mv (t 5)) 45 41 true), (g_ (.bin .quo 3 (t 45) (ci 8)) 46 41 true), (g_ (.bin .eql 3 (t 44) (t 46)) 47 41 true), (o (.pick (t 41) (t 47) (cb false)) 48), (w 4 48)]) (.seq (.block 0 (.seq (.ops [(w 50 3), (w 49 50)]) (.cond (t 49) (.seq (.ops [(o (.load true 4 (t 2)) 51), (w 52 3), (w 53 4), (n_ (.store 4 (t 2) (t 51))), (w 3 52), (w 4 53)]) .ret) (.seq (.ops [(w 55 4), (w 54 55)]) (.cond (t 54) (.seq (.ops [(o (.load true 4 (t 6)) 56), (w 57 3), (w 58 4), (n_ (.store 4 (t 2) (t 56))), (w 3 57), (w 4 58)]) .ret) .skip))))) (.seq (.ops [(o (.build [zi, zi, zi, zu] []) 59), (n_ (.store 4 (t 2) (t 59))), (o (.mv (cb false)) 3), (o (.mv (cb false)) 4)]) .ret)))))))))
theorem Pe : Fits Tryz.prog 66 1 FT [(.cell true 4 2), (.tmp 3), (.tmp 4)] := cu Tryz.func66 (by kernel_rfl) (by kernel_rfl) (by kernel_rfl)
theorem FU (F : Nat) (a0 : (List Int)) (r : dQ × Bool × Bool) (h : jv F a0 = some r) : PC Tryz.prog 66 [ss cO a0] (S.tup [S.agg [vi r.1.bH.ak, vi r.1.bH.au, vi r.1.bH.ay, vu r.1.tq], (zb_ r.2.1), (zb_ r.2.2)]) := by
 unfold jv at h
 refine fC Pe rfl rfl ?_
 intro C hP
 unfold FT; dsimp
 apply Eso
 refine W1 (dw rfl rfl) ?_
 apply WM
 apply WM
 refine Wk [0, 2] [2] ?_
 (try dsimp)
 apply Eso
 apply WM
 refine WQ (bM rfl) ?_
 apply WM
 refine Wk [0, 2, 5] [2] ?_
 (try dsimp)
 apply bP
 apply Eso
 apply WM
 refine WQ (aB rfl rfl rfl) ?_
 apply WM
 apply aC
 rfl
 intro hB; (try simp only [hB, bss, ctt]); exact aI rfl
 apply aC
 rfl
 intro hB; (try simp only [hB, bss, ctt]); exact aB rfl rfl rfl
 apply aC
 rfl
 intro hB; (try simp only [hB, bss, ctt]); exact aB rfl rfl rfl
 refine WQ (dS rfl rfl rfl) ?_
 refine Wk [0, 2, 5, 15] [2] ?_
 (try dsimp)
 refine Ec h rfl (fun h hc1 => ?_) (fun h hc1 => ?_)
 apply Eso
 refine WQ (bV rfl rfl) ?_
 refine W1 dst ?_
 apply WM
 apply WM
 refine Wk [2, 3, 4] [2] ?_
 (try dsimp)
 apply bI
 cases h
 (try simp only [qt, qb, qn])
 refine aT (xs := _) ⟨_, _, fG rfl (by simp), rfl, rfl, ⟨_, rfl, ⟨_, rfl, rfl⟩⟩⟩ ?_
 rfl
 apply bG
 refine bf [0, 2, 5] [2] ?_
 (try dsimp)
 apply Eso
 apply WM
 obtain ⟨g2, h⟩ := aV h
 refine WQ (nM rfl (fun _ => rfl) rfl rfl g2.1 g2.2.1 g2.2.2) ?_
 obtain ⟨x3, x3h, h⟩ := aN h
 refine W1 (aF hP (BJ F (cut a0 (0 : Int) (8 : Int)) x3 x3h) rfl rfl rfl) ?_
 apply WM
 refine WQ (bD rfl rfl) ?_
 refine WQ (bD rfl rfl) ?_
 refine W1 dst ?_
 apply WM
 refine Wk [0, 2, 3, 5] [2] ?_
 (try dsimp)
 apply Eso
 apply WM
 apply WM
 apply aC
 rfl
 intro hB; (try simp only [hB, bss, ctt]); exact ah rfl rfl
 apply aC
 rfl
 intro hB; (try simp only [hB, bss, ctt]); exact qlA
 obtain ⟨x4, x4h, h⟩ := aN h
 apply jk
 rfl
 intro hB; (try simp only [hB, bss, ctt]); exact aF hP (Eo F x3.1.bH x4 (jW x4h (bt hB))) rfl rfl rfl
 apply aC
 rfl
 intro hB; (try simp only [hB, bss, ctt]); exact aI rfl
 apply aC
 rfl
 intro hB; (try simp only [hB, bss, ctt]); exact aB rfl rfl rfl
 apply aC
 rfl
 intro hB; (try simp only [hB, bss, ctt]); exact aB rfl rfl rfl
 refine WQ (dK rfl rfl rfl) ?_
 apply WM
 refine Wk [0, 2, 3, 5] [2] ?_
 (try dsimp)
 apply Eso
 apply WM
 apply WM
 obtain ⟨g5, h⟩ := aV h
 refine WQ (lK rfl rfl g5.1 g5.2) ?_
 obtain ⟨g6, h⟩ := aV h
 refine WQ (nM rfl (fun _ => rfl) rfl rfl g6.1 g6.2.1 g6.2.2) ?_
 obtain ⟨x7, x7h, h⟩ := aN h
 refine W1 (aF hP (BJ F (cut a0 (((a0.length : Nat) : Int) - (8 : Int)) ((a0.length : Nat) : Int)) x7 x7h) rfl rfl rfl) ?_
 apply WM
 refine WQ (bD rfl rfl) ?_
 refine WQ (bD rfl rfl) ?_
 refine W1 (dw rfl rfl) ?_
 refine W1 dst ?_
 apply WM
 refine Wk [2, 3, 4, 5, 6] [2, 6] ?_
 (try dsimp)
 apply Eso
 apply WM
 apply WM
 apply aC
 rfl
 intro hB; (try simp only [hB, bss, ctt]); exact ah rfl rfl
 apply aC
 rfl
 intro hB; (try simp only [hB, bss, ctt]); exact qlA
 obtain ⟨x8, x8h, h⟩ := aN h
 apply jk
 rfl
 intro hB; (try simp only [hB, bss, ctt]); exact aF hP (Eo F x7.1.bH x8 (jW x8h (bt hB))) rfl rfl rfl
 apply aC
 rfl
 intro hB; (try simp only [hB, bss, ctt]); exact aI rfl
 apply aC
 rfl
 intro hB; (try simp only [hB, bss, ctt]); exact aB rfl rfl rfl
 apply aC
 rfl
 intro hB; (try simp only [hB, bss, ctt]); exact aB rfl rfl rfl
 refine WQ (dK rfl rfl rfl) ?_
 apply WM
 refine Wk [2, 3, 4, 6] [2, 6] ?_
 (try dsimp)
 apply bP
 apply bW
 apply Eso
 apply WM
 apply WM
 refine Wk [2, 3, 4, 6, 49] [2, 6] ?_
 (try dsimp)
 refine Ec h rfl (fun h hc9 => ?_) (fun h hc9 => ?_)
 apply Eso
 refine WQ qlA ?_
 apply WM
 apply WM
 refine W1 dst ?_
 apply WM
 apply WM
 refine Wk [2, 3, 4] [2] ?_
 (try dsimp)
 apply bI
 cases h
 (try simp only [qt, qb, qn])
 refine aT (xs := _) ⟨_, _, fG rfl (by simp), rfl, rfl, ⟨_, rfl, ⟨_, rfl, rfl⟩⟩⟩ ?_
 rfl
 apply Eso
 apply WM
 apply WM
 refine Wk [2, 3, 4, 6, 54] [2, 6] ?_
 (try dsimp)
 refine Ec h rfl (fun h TD => ?_) (fun h TD => ?_)
 apply Eso
 refine WQ qlA ?_
 apply WM
 apply WM
 refine W1 dst ?_
 apply WM
 apply WM
 refine Wk [2, 3, 4] [2] ?_
 (try dsimp)
 apply bI
 cases h
 (try simp only [qt, qb, qn])
 refine aT (xs := _) ⟨_, _, fG rfl (by simp), rfl, rfl, ⟨_, rfl, ⟨_, rfl, rfl⟩⟩⟩ ?_
 rfl
 apply bG
 refine bf [2] [2] ?_
 (try dsimp)
 apply Eso
 refine WQ (bV rfl rfl) ?_
 refine W1 dst ?_
 apply WM
 apply WM
 refine Wk [2, 3, 4] [2] ?_
 (try dsimp)
 apply bI
 cases h
 (try simp only [qt, qb, qn])
 refine aT (xs := _) ⟨_, _, fG rfl (by simp), rfl, rfl, ⟨_, rfl, ⟨_, rfl, rfl⟩⟩⟩ ?_
 rfl
def KJ : dJ := (.seq (.ops [(o (.box 23 (t 0)) 2), (o (.mv (ci 0)) 4), (o (.mv (ci 0)) 5)]) (.seq (.seq (.ops [(o (.load true 3 (t 2)) 6), (o (.call 38 [(t 6)]) 7), (o (.un .not (t 7)) 8), (w 9 8), (g_ (.mv (t 1)) 10 9 false), (g_ (.add 0 (t 2)) 11 9 false), (g_ (.load false 1 (t 11)) 12 9 false), (g_ (.bin .sub 3 (t 12) (ci 1)) 13 9 false), (g_ (.call 63 [(t 10), (ci 0), (t 13)]) 14 9 false), (g_ (.un .not (t 14)) 15 9 false), (o (.pick (t 9) (cb true) (t 15)) 16)]) (.cond (t 16) (.seq (.ops [(o (.mv (ci 0)) 4), (o (.mv (ci 0)) 5)]) .ret) .skip)) (.seq (.ops [(w 17 1), (o (.bin .mul 3 (t 17) (ci 1208)) 18), (o (.bin .add 3 (ci 16) (t 18)) 19), (w 4 19), (o (.mv (ci 1208)) 5)]) .ret)))
theorem TF : Fits Tryz.prog 30 2 KJ [(.tmp 4), (.tmp 5)] := cu Tryz.func30 (by kernel_rfl) (by kernel_rfl) (by kernel_rfl)
theorem sW (F : Nat) (a0 : bg) (a1 : Int) (r : Int × Int) (h : lG F a0 a1 = some r) : PC Tryz.prog 30 [S.agg [vi a0.ak, vi a0.au, vi a0.ay], (zi_ a1)] (S.tup [(zi_ r.1), (zi_ r.2)]) := by
 unfold lG at h
 refine fC TF rfl rfl ?_
 intro C hP
 unfold KJ; dsimp
 apply Eso
 refine W1 (eu rfl rfl rfl rfl) ?_
 apply WM
 apply WM
 refine Wk [1, 2] [2] ?_
 (try dsimp)
 apply bP
 apply Eso
 refine WQ qlA ?_
 obtain ⟨x1, x1h, h⟩ := aN h
 refine W1 (aF hP (nZ F a0 x1 x1h) rfl rfl rfl) ?_
 refine WQ (dM rfl) ?_
 apply WM
 apply aC
 rfl
 intro hB; (try simp only [hB, bss, ctt]); exact aI rfl
 apply aC
 rfl
 intro hB; (try simp only [hB, bss, ctt]); exact ah rfl rfl
 apply aC
 rfl
 intro hB; (try simp only [hB, bss, ctt]); exact aj rfl rfl rfl
 obtain ⟨g2, h⟩ := aV h
 apply aC
 rfl
 intro hB; (try simp only [hB, bss, ctt]); exact lK rfl rfl (g2 hB).1 (g2 hB).2
 obtain ⟨x3, x3h, h⟩ := aN h
 apply jk
 rfl
 intro hB; (try simp only [hB, bss, ctt]); exact aF hP (xM F a1 (0 : Int) (a0.ak - (1 : Int)) x3 (jW x3h (bt hB))) rfl rfl rfl
 apply aC
 rfl
 intro hB; (try simp only [hB, bss, ctt]); exact dM rfl
 refine WQ (dS rfl rfl rfl) ?_
 refine Wk [1, 16] [] ?_
 (try dsimp)
 refine Ec h rfl (fun h hc4 => ?_) (fun h hc4 => ?_)
 apply Eso
 apply WM
 apply WM
 refine Wk [4, 5] [] ?_
 (try dsimp)
 apply bI
 cases h
 (try simp only [qt, qb, qn])
 refine aT (xs := _) ⟨_, rfl, ⟨_, rfl, rfl⟩⟩ ?_
 rfl
 apply bG
 refine bf [1] [] ?_
 (try dsimp)
 apply Eso
 apply WM
 obtain ⟨g5, h⟩ := aV h
 refine WQ (nC rfl rfl g5.1 g5.2) ?_
 obtain ⟨g6, h⟩ := aV h
 refine WQ (cZ rfl rfl g6.1 g6.2) ?_
 apply WM
 apply WM
 refine Wk [4, 5] [] ?_
 (try dsimp)
 apply bI
 cases h
 (try simp only [qt, qb, qn])
 refine aT (xs := _) ⟨_, rfl, ⟨_, rfl, rfl⟩⟩ ?_
 rfl
def FV : dJ := (.seq (.ops [(o (.mv cn) 0)]) (.seq (.ops [(o (.build [zi, zi] [(0, (1, (ci 0))), (1, (1, (ci 8)))]) 1), (o (.build [zi, zi] [(0, (1, (ci 8))), (1, (1, (ci 8)))]) 2), (o (.build [zi, zi] [(0, (1, (ci 16))), (1, (1, (ci 16)))]) 3), (o (.build [zi, zi] [(0, (1, (ci 32))), (1, (1, (ci 32)))]) 4), (o (.kK 2 221 4 [zi, zi, zi, zi, zi, zi, zi, zi] [(0, (2, (t 1))), (2, (2, (t 2))), (4, (2, (t 3))), (6, (2, (t 4)))]) 5), (w 0 5)]) .ret))
theorem Pg : Fits Tryz.prog 103 0 FV [(.tmp 0)] := cu Tryz.func103 (by kernel_rfl) (by kernel_rfl) (by kernel_rfl)
theorem FW (F : Nat)  (r : (List aU)) (h : uj F  = some r) : PC Tryz.prog 103 [] (ss iH r) := by
 unfold uj at h
 refine fC Pg rfl rfl ?_
 intro C hP
 unfold FV; dsimp
 apply Eso
 apply WM
 refine Wk [] [] ?_
 (try dsimp)
 apply Eso
 refine WQ (bV rfl rfl) ?_
 refine WQ (bV rfl rfl) ?_
 refine WQ (bV rfl rfl) ?_
 refine WQ (bV rfl rfl) ?_
 refine W1 (dY rfl rfl rfl rfl) ?_
 apply WM
 refine Wk [0] [5] ?_
 (try dsimp)
 refine fA (mM (r := 5) (g' := (⟨true, flat iH ([(⟨(0 : Int), (8 : Int)⟩ : aU), (⟨(8 : Int), (8 : Int)⟩ : aU), (⟨(16 : Int), (16 : Int)⟩ : aU), (⟨(32 : Int), (32 : Int)⟩ : aU)] : List aU)⟩ : Reg)) rfl rfl).b ?_
 (try dsimp)
 obtain ⟨g1, h⟩ := aV h
 refine fA (mV (i := 0) _ rfl g1).b ?_
 (try dsimp)
 refine fA (l7 (r := 5) rfl rfl).b ?_
 (try dsimp)
 apply bI
 cases h
 (try simp only [qt, qb, qn])
 refine aT (xs := _) ⟨_, rfl, rfl⟩ ?_
 rfl
def Nu : dJ := (.seq (.ops [(o (.mv cn) 4)]) (.seq (.seq (.ops [(w 8 1), (o (.call 139 [(t 8)]) 9), (o (.un .not (t 9)) 10)]) (.cond (t 10) (.seq (.ops [(o (.mv cn) 4)]) .ret) .skip)) (.seq (.ops [(w 11 1), (o (.len false (t 11)) 12), (o (.mk 36 42 1 8 [zu] (ci 0) (t 12)) 13), (w 5 13)]) (.seq (.seq (.ops [(w 14 1), (o (.len false (t 14)) 15), (o (.mv (ci 0)) 16)]) (.block 0 (.loop (.seq (.ops [(o (.bin .lss 3 (t 16) (t 15)) 17)]) (.seq (.cond (t 17) .skip (.exit 0)) (.seq (.block 1 (.seq (.ops [(o (.gJ 2 (t 14) (t 16)) 18), (o (.load true 2 (t 18)) 19), (o (.jR [zi, zi]) 7), (n_ (.store 2 (t 7) (t 19)))]) (.draw [((w 20 5), []), ((w 21 0), []), ((o (.load true 2 (t 7)) 22), []), ((o (.call 140 [(t 22)]) 23), [2]), ((o (.bin .and 42 (t 21) (t 23)) 24), [1, 3]), ((o (.add 0 (t 7)) 25), []), ((o (.load false 1 (t 25)) 26), [5]), ((o (.bin .shr 42 (t 24) (t 26)) 27), [4, 6]), ((o (.kK 1 42 1 [zu] [(0, (1, (t 27)))]) 28), [7]), ((o (.app 36 42 1 8 (t 20) (t 28)) 29), [0, 8, 3]), ((w 5 29), [9, 9, 0, 1, 2, 3, 4, 5, 6, 7, 8, 9])]))) (.ops [(o (.bin .add 3 (t 16) (ci 1)) 30), (w 16 30)]))))))) (.seq (.ops [(w 31 5), (w 4 31)]) .ret)))))
theorem VA : Fits Tryz.prog 106 2 Nu [(.tmp 4)] := cu Tryz.func106 (by kernel_rfl) (by kernel_rfl) (by kernel_rfl)
theorem C9 (F : Nat) (a0 : Int) (a1 : (List aU)) (r : (List Int)) (h : nR F a0 a1 = some r) : PC Tryz.prog 106 [(zu_ a0), ss iH a1] (ss cO r) := by
 unfold nR at h
 refine fC VA rfl rfl ?_
 intro C hP
 unfold Nu; dsimp
 apply Eso
 apply WM
 refine Wk [0, 1] [] ?_
 (try dsimp)
 apply bP
 apply Eso
 apply WM
 obtain ⟨x1, x1h, h⟩ := aN h
 refine W1 (aF hP (KG F a1 x1 x1h) rfl rfl rfl) ?_
 refine WQ (dM rfl) ?_
 refine Wk [0, 1, 10] [] ?_
 (try dsimp)
 refine Ec h rfl (fun h hc2 => ?_) (fun h hc2 => ?_)
 apply Eso
 apply WM
 refine Wk [4] [] ?_
 (try dsimp)
 refine fA (FP (i := 4) rfl).b ?_
 (try dsimp)
 apply bI
 cases h
 (try simp only [qt, qb, qn])
 refine aT (xs := _) ⟨_, rfl, rfl⟩ ?_
 rfl
 apply bG
 refine bf [0, 1] [] ?_
 (try dsimp)
 apply Eso
 apply WM
 refine WQ (bM rfl) ?_
 obtain ⟨g3, h⟩ := aV h
 refine W1 (nD (e := cO) (0 : Int) rfl rfl rfl (fun _ => rfl) g3.1 g3.2.1 g3.2.2.1 g3.2.2.2 rfl) ?_
 apply WM
 refine Wk [0, 1, 5] [13] ?_
 (try dsimp)
 obtain ⟨k5, k5d, h⟩ := fO h
 refine dV (α := (List Int)) (fun (i : (List Int)) => (⟨[(5, S.one (.own 13 0 i.length (some (1, 42))))], [(13, (⟨true, flat cO i⟩ : Reg))]⟩ : St)) (fun i => k5 i = some r) (fun i h => ?_) ?_
 let iv := i; change k5 i = some r at h; generalize i = v4 at h ⊢
 rw [k5d] at h; dsimp only at h
 (try dsimp)
 apply Eso
 apply WM
 apply WM
 refine Wk [4] [13] ?_
 (try dsimp)
 refine fA (l7 (r := 13) rfl rfl).b ?_
 (try dsimp)
 apply bI
 cases h
 (try simp only [qt, qb, qn])
 refine aT (xs := _) ⟨_, rfl, rfl⟩ ?_
 rfl
 apply Eso
 apply WM
 refine WQ (bM rfl) ?_
 apply WM
 refine Wk [0, 5, 14, 15, 16] [13] ?_
 (try dsimp)
 apply bW
 (try dsimp)
 refine fD (α := Int × (List Int)) (fun (i : Int × (List Int)) => (⟨[(0, (zu_ a0)), (5, S.one (.own 13 0 i.2.length (some (1, 42)))), (14, ss iH a1), (15, (zi_ ((a1.length : Nat) : Int))), (16, (zi_ i.1))], [(13, (⟨true, flat cO i.2⟩ : Reg))]⟩ : St)) (fun n i => ku F a0 a1 k5 n i.1 i.2 = some r) F ((0 : Int), (List.replicate (0 : Int).toNat (0 : Int))) h ?_ (fun n i h => ?_)
 exact (Le.b (bK ⟨rfl, rfl, rfl, rfl, rfl, trivial⟩ ⟨rfl, trivial⟩))
 obtain ⟨v20, v21⟩ := i; dsimp only at h
 obtain _ | n22 := n
 cases h
 unfold ku at h
 (try dsimp)
 apply Eso
 refine WQ (aB rfl rfl rfl) ?_
 apply dn
 (try dsimp)
 apply bP
 refine Ec h rfl (fun h aaE => ?_) (fun h aaE => ?_)
 apply bG
 refine bf [0, 5, 14, 15, 16] [13] ?_
 (try dsimp)
 apply bP
 apply bW
 apply Eso
 obtain ⟨g24, h⟩ := aV h
 refine WQ (aX rfl rfl g24.1 g24.2) ?_
 refine WQ (dX (k := 2) rfl (fun _ => rfl) g24 0 rfl rfl rfl) ?_
 refine W1 (dw rfl rfl) ?_
 refine W1 dst ?_
 refine Wk [0, 5, 7, 14, 15, 16] [7, 13] ?_
 (try dsimp)
 obtain ⟨x25, aaA, h⟩ := aN h
 obtain ⟨g26, h⟩ := aV h
 obtain ⟨g27, h⟩ := aV h
 refine iY [0, 1, 2, 4, 5, 6, 7] ?_
 refine XQ 0 rfl rfl rfl (aI rfl) ?_
 refine XQ 1 rfl rfl rfl (aI rfl) ?_
 refine XQ 2 rfl rfl rfl qlA ?_
 refine XQ 5 rfl rfl rfl (ah rfl rfl) ?_
 refine XQ 6 rfl rfl rfl (aj rfl rfl rfl) ?_
 refine X1 rfl (XK rfl (aF hP (rF F (nth a1 v20) x25 aaA) rfl rfl rfl) ?_)
 refine XQ 4 rfl rfl rfl (aB rfl rfl rfl) ?_
 refine XQ 7 rfl rfl rfl (zl rfl rfl g26) ?_
 refine X1 rfl (XK rfl (dY rfl rfl rfl rfl) ?_)
 refine X1 rfl (XT rfl rfl (jc (e := cO) rfl rfl (fun _ => rfl) (fun _ => rfl) rfl (Src.lit (e := cO) ([(kS .u64 (uf .u64 a0 x25) ((nth a1 v20).fE))] : List Int) rfl (fun _ => rfl) rfl rfl) g27 rfl) ?_)
 refine X1 rfl (XT rfl rfl ((aI rfl).does) ?_)
 refine ig rfl ?_
 refine bf [0, 5, 14, 15, 16] [13] ?_
 (try dsimp)
 apply eP
 obtain ⟨g28, h⟩ := aV h
 refine WQ (cZ rfl rfl g28.1 g28.2) ?_
 apply WM
 apply dn
 refine ⟨n22, ((v20 + (1 : Int)), (v21 ++ ([(kS .u64 (uf .u64 a0 x25) ((nth a1 v20).fE))] : List Int))), Nat.lt_succ_self _, h, ?_⟩
 exact (Le.b (bK ⟨rfl, rfl, rfl, rfl, rfl, trivial⟩ ⟨rfl, trivial⟩))
 apply gV
 refine ⟨v21, h, ?_⟩
 exact (Le.b (bK ⟨rfl, trivial⟩ ⟨rfl, trivial⟩))
def Il : dJ := (.seq (.ops [(o (.box 23 (t 0)) 2), (o (.mv (cb false)) 4)]) (.seq (.seq (.ops [(o (.load true 3 (t 2)) 8), (o (.call 38 [(t 8)]) 9), (o (.un .not (t 9)) 10), (w 11 10), (g_ (.mv (t 1)) 12 11 false), (g_ (.len false (t 12)) 13 11 false), (g_ (.bin .gtr 3 (t 13) (ci 600)) 14 11 false), (o (.pick (t 11) (cb true) (t 14)) 15)]) (.cond (t 15) (.seq (.ops [(o (.mv (cb false)) 4)]) .ret) .skip)) (.seq (.ops [(o (.load true 3 (t 2)) 16), (o (.call 59 [(t 16), (ci 0)]) 17), (o (.bin .sub 3 (t 17) (ci 1)) 18), (w 5 18)]) (.seq (.seq (.ops [(w 19 1), (o (.len false (t 19)) 20), (o (.mv (ci 0)) 21)]) (.block 0 (.loop (.seq (.ops [(o (.bin .lss 3 (t 21) (t 20)) 22)]) (.seq (.cond (t 22) .skip (.exit 0)) (.seq (.block 1 (.seq (.ops [(o (.gJ 2 (t 19) (t 21)) 23), (o (.load true 2 (t 23)) 24), (o (.jR [zi, zu]) 7), (n_ (.store 2 (t 7) (t 24)))]) (.seq (.seq (.draw [((o (.add 0 (t 7)) 25), []), ((o (.load false 1 (t 25)) 26), [0]), ((w 27 5), []), ((o (.bin .leq 3 (t 26) (t 27)) 28), [1, 2]), ((w 29 28), [3]), ((g_ (.add 0 (t 7)) 30 29 false), [4]), ((g_ (.load false 1 (t 30)) 31 29 false), [5, 4]), ((g_ (.load true 3 (t 2)) 32 29 false), [4]), ((g_ (.call 58 [(t 32)]) 33 29 false), [7, 4, 4]), ((g_ (.bin .geq 3 (t 31) (t 33)) 34 29 false), [6, 8, 4]), ((o (.pick (t 29) (cb true) (t 34)) 35), [4, 9])]) (.cond (t 35) (.seq (.ops [(o (.mv (cb false)) 4)]) .ret) .skip)) (.ops [(o (.add 0 (t 7)) 36), (o (.load false 1 (t 36)) 37), (w 5 37)])))) (.ops [(o (.bin .add 3 (t 21) (ci 1)) 38), (w 21 38)]))))))) (.seq (.ops [(o (.mv (cb true)) 4)]) .ret)))))
theorem QL : Fits Tryz.prog 102 2 Il [(.tmp 4)] := cu Tryz.func102 (by kernel_rfl) (by kernel_rfl) (by kernel_rfl)
theorem QM (F : Nat) (a0 : bg) (a1 : (List aA)) (r : Bool) (h : mJ F a0 a1 = some r) : PC Tryz.prog 102 [S.agg [vi a0.ak, vi a0.au, vi a0.ay], ss bZ a1] (zb_ r) := by
 unfold mJ at h
 refine fC QL rfl rfl ?_
 intro C hP
 unfold Il; dsimp
 apply Eso
 refine W1 (eu rfl rfl rfl rfl) ?_
 apply WM
 refine Wk [1, 2] [2] ?_
 (try dsimp)
 apply bP
 apply Eso
 refine WQ qlA ?_
 obtain ⟨x1, x1h, h⟩ := aN h
 refine W1 (aF hP (nZ F a0 x1 x1h) rfl rfl rfl) ?_
 refine WQ (dM rfl) ?_
 apply WM
 apply aC
 rfl
 intro hB; (try simp only [hB, bss, ctt]); exact aI rfl
 apply aC
 rfl
 intro hB; (try simp only [hB, bss, ctt]); exact bM rfl
 apply aC
 rfl
 intro hB; (try simp only [hB, bss, ctt]); exact aB rfl rfl rfl
 refine WQ (dS rfl rfl rfl) ?_
 refine Wk [1, 2, 15] [2] ?_
 (try dsimp)
 refine Ec h rfl (fun h hc2 => ?_) (fun h hc2 => ?_)
 apply Eso
 apply WM
 refine Wk [4] [] ?_
 (try dsimp)
 apply bI
 cases h
 (try simp only [qt, qb, qn])
 refine aT (xs := _) ⟨_, rfl, rfl⟩ ?_
 rfl
 apply bG
 refine bf [1, 2] [2] ?_
 (try dsimp)
 apply Eso
 refine WQ qlA ?_
 obtain ⟨x3, x3h, h⟩ := aN h
 refine W1 (aF hP (Ep F a0 (0 : Int) x3 x3h) rfl rfl rfl) ?_
 obtain ⟨g4, h⟩ := aV h
 refine WQ (lK rfl rfl g4.1 g4.2) ?_
 apply WM
 refine Wk [1, 2, 5] [2] ?_
 (try dsimp)
 obtain ⟨k5, k5d, h⟩ := fO h
 refine dV (α := Unit) (fun (i : Unit) => (⟨[], []⟩ : St)) (fun i => k5 () = some r) (fun i h => ?_) ?_
 rw [k5d] at h; dsimp only at h
 (try dsimp)
 apply Eso
 apply WM
 apply dn
 (try dsimp)
 apply bI
 cases h
 (try simp only [qt, qb, qn])
 refine aT (xs := _) ⟨_, rfl, rfl⟩ ?_
 rfl
 apply Eso
 apply WM
 refine WQ (bM rfl) ?_
 apply WM
 refine Wk [2, 5, 19, 20, 21] [2] ?_
 (try dsimp)
 apply bW
 (try dsimp)
 refine fD (α := Int × Int) (fun (i : Int × Int) => (⟨[(2, S.one (.ptr 2 0)), (5, (zi_ i.1)), (19, ss bZ a1), (20, (zi_ ((a1.length : Nat) : Int))), (21, (zi_ i.2))], [(2, (⟨true, [vi a0.ak, vi a0.au, vi a0.ay]⟩ : Reg))]⟩ : St)) (fun n i => lI F a0 a1 k5 n i.1 i.2 = some r) F ((x3 - (1 : Int)), (0 : Int)) h ?_ (fun n i h => ?_)
 exact (Le.b (bK ⟨rfl, rfl, rfl, rfl, rfl, trivial⟩ ⟨rfl, trivial⟩))
 obtain ⟨v18, v19⟩ := i; dsimp only at h
 obtain _ | n20 := n
 cases h
 unfold lI at h
 (try dsimp)
 apply Eso
 refine WQ (aB rfl rfl rfl) ?_
 apply dn
 (try dsimp)
 apply bP
 refine Ec h rfl (fun h hc21 => ?_) (fun h hc21 => ?_)
 apply bG
 refine bf [2, 5, 19, 20, 21] [2] ?_
 (try dsimp)
 apply bP
 apply bW
 apply Eso
 obtain ⟨g22, h⟩ := aV h
 refine WQ (aX rfl rfl g22.1 g22.2) ?_
 refine WQ (dX (k := 2) rfl (fun _ => rfl) g22 0 rfl rfl rfl) ?_
 refine W1 (dw rfl rfl) ?_
 refine W1 dst ?_
 refine Wk [2, 5, 7, 19, 20, 21] [2, 7] ?_
 (try dsimp)
 apply bP
 apply bP
 obtain ⟨x23, XH, h⟩ := aN h
 refine iY [0, 1, 2, 3, 4, 5, 6, 7, 9, 10] ?_
 refine XQ 0 rfl rfl rfl (ah rfl rfl) ?_
 refine XQ 1 rfl rfl rfl (aj rfl rfl rfl) ?_
 refine XQ 2 rfl rfl rfl (aI rfl) ?_
 refine XQ 3 rfl rfl rfl (aB rfl rfl rfl) ?_
 refine XQ 4 rfl rfl rfl (aI rfl) ?_
 apply dR 5
 rfl
 rfl
 rfl
 rfl
 intro hB; (try simp only [hB, bss, ctt]); exact ah rfl rfl
 apply dR 6
 rfl
 rfl
 rfl
 rfl
 intro hB; (try simp only [hB, bss, ctt]); exact aj rfl rfl rfl
 apply dR 7
 rfl
 rfl
 rfl
 rfl
 intro hB; (try simp only [hB, bss, ctt]); exact qlA
 (try dsimp)
 refine X1 rfl ?_
 apply Jr
 rfl
 rfl
 intro hB; (try simp only [hB, bss, ctt]); exact aF hP (xU F a0 x23 (jW XH (bt hB))) rfl rfl rfl
 apply dR 9
 rfl
 rfl
 rfl
 rfl
 intro hB; (try simp only [hB, bss, ctt]); exact aB rfl rfl rfl
 refine XQ 10 rfl rfl rfl (dS rfl rfl rfl) ?_
 refine ig rfl ?_
 refine bf [2, 7, 19, 20, 21, 35] [2, 7] ?_
 (try dsimp)
 refine Ec h rfl (fun h hc24 => ?_) (fun h hc24 => ?_)
 apply Eso
 apply WM
 refine Wk [4] [] ?_
 (try dsimp)
 apply bI
 cases h
 (try simp only [qt, qb, qn])
 refine aT (xs := _) ⟨_, rfl, rfl⟩ ?_
 rfl
 apply bG
 refine bf [2, 7, 19, 20, 21] [2, 7] ?_
 (try dsimp)
 apply eP
 refine WQ (ah rfl rfl) ?_
 refine WQ (aj rfl rfl rfl) ?_
 apply WM
 refine Wk [2, 5, 19, 20, 21] [2] ?_
 (try dsimp)
 apply eP
 obtain ⟨g25, h⟩ := aV h
 refine WQ (cZ rfl rfl g25.1 g25.2) ?_
 apply WM
 apply dn
 refine ⟨n20, ((nth a1 v19).xAt, (v19 + (1 : Int))), Nat.lt_succ_self _, h, ?_⟩
 exact (Le.b (bK ⟨rfl, rfl, rfl, rfl, rfl, trivial⟩ ⟨rfl, trivial⟩))
 apply gV
 refine ⟨(), h, ?_⟩
 exact (Le.b (bK trivial trivial))
def KL : dJ := (.seq (.ops [(o (.box 23 (t 0)) 2), (o (.box 57 (t 1)) 3), (o (.mv (cb false)) 4)]) (.seq (.ops [(o (.add 6 (t 3)) 7), (o (.load true 3 (t 7)) 8), (o (.build [zi, zu, zi] []) 9), (o (.eqA false 54 (t 8) (t 9)) 10), (w 11 10), (g_ (.add 9 (t 3)) 12 11 true), (g_ (.load false 1 (t 12)) 13 11 true), (g_ (.len false (t 13)) 14 11 true), (g_ (.bin .eql 3 (t 14) (ci 0)) 15 11 true), (o (.pick (t 11) (t 15) (cb false)) 16), (w 5 16)]) (.seq (.ops [(o (.add 6 (t 3)) 17), (o (.load true 3 (t 17)) 18), (o (.jR [zi, zu, zi]) 6), (n_ (.store 3 (t 6) (t 18)))]) (.seq (.seq (.ops [(o (.load true 3 (t 2)) 19), (o (.add 9 (t 3)) 20), (o (.load false 1 (t 20)) 21), (o (.call 102 [(t 19), (t 21)]) 22), (o (.un .not (t 22)) 23), (w 24 23), (g_ (.add 0 (t 6)) 25 24 false), (g_ (.load false 1 (t 25)) 26 24 false), (g_ (.bin .lss 33 (t 26) (ci 0)) 27 24 false), (o (.pick (t 24) (cb true) (t 27)) 28), (w 29 28), (g_ (.add 0 (t 6)) 30 29 false), (g_ (.load false 1 (t 30)) 31 29 false), (g_ (.bin .gtr 33 (t 31) (ci 255)) 32 29 false), (o (.pick (t 29) (cb true) (t 32)) 33), (w 34 33), (g_ (.add 2 (t 6)) 35 34 false), (g_ (.load false 1 (t 35)) 36 34 false), (g_ (.bin .lss 3 (t 36) (ci 0)) 37 34 false), (o (.pick (t 34) (cb true) (t 37)) 38), (w 39 38), (g_ (.add 2 (t 6)) 40 39 false), (g_ (.load false 1 (t 40)) 41 39 false), (g_ (.bin .gtr 3 (t 41) (ci 2147483647)) 42 39 false), (o (.pick (t 39) (cb true) (t 42)) 43)]) (.cond (t 43) (.seq (.ops [(o (.mv (cb false)) 4)]) .ret) .skip)) (.seq (.seq (.ops [(o (.add 0 (t 3)) 44), (o (.load false 1 (t 44)) 45)]) (.block 0 (.seq (.ops [(o (.bin .eql 3 (t 45) (ci 0)) 47), (w 46 47)]) (.cond (t 46) (.seq (.ops [(w 48 5), (w 49 48), (g_ (.add 1 (t 3)) 50 49 true), (g_ (.load false 1 (t 50)) 51 49 true), (g_ (.bin .eql 42 (t 51) (.const (.int .u64 0))) 52 49 true), (o (.pick (t 49) (t 52) (cb false)) 53), (w 54 53), (g_ (.add 2 (t 3)) 55 54 true), (g_ (.load true 4 (t 55)) 56 54 true), (g_ (.build [zu, zu, zu, zu] []) 57 54 true), (g_ (.eqA false 52 (t 56) (t 57)) 58 54 true), (o (.pick (t 54) (t 58) (cb false)) 59), (w 4 59)]) .ret) (.seq (.seq (.ops [(o (.bin .eql 3 (t 45) (ci 1)) 61), (w 60 61)]) (.cond (t 60) .skip (.ops [(o (.bin .eql 3 (t 45) (ci 4)) 62), (w 60 62)]))) (.cond (t 60) (.seq (.ops [(w 63 5), (w 64 63), (g_ (.add 1 (t 3)) 65 64 true), (g_ (.load false 1 (t 65)) 66 64 true), (g_ (.bin .geq 42 (t 66) (.const (.int .u64 1))) 67 64 true), (o (.pick (t 64) (t 67) (cb false)) 68), (w 69 68), (g_ (.add 1 (t 3)) 70 69 true), (g_ (.load false 1 (t 70)) 71 69 true), (g_ (.bin .leq 42 (t 71) (.const (.int .u64 4294967295))) 72 69 true), (o (.pick (t 69) (t 72) (cb false)) 73), (w 4 73)]) .ret) (.seq (.seq (.ops [(o (.bin .eql 3 (t 45) (ci 2)) 75), (w 74 75)]) (.cond (t 74) .skip (.ops [(o (.bin .eql 3 (t 45) (ci 3)) 76), (w 74 76)]))) (.cond (t 74) (.seq (.ops [(o (.add 1 (t 3)) 77), (o (.load false 1 (t 77)) 78), (o (.bin .geq 42 (t 78) (.const (.int .u64 1))) 79), (w 80 79), (g_ (.add 1 (t 3)) 81 80 true), (g_ (.load false 1 (t 81)) 82 80 true), (g_ (.bin .leq 42 (t 82) (.const (.int .u64 4294967295))) 83 80 true), (o (.pick (t 80) (t 83) (cb false)) 84), (w 4 84)]) .ret) .skip)))))))) (.seq (.ops [(o (.mv (cb false)) 4)]) .ret))))))
theorem TG : Fits Tryz.prog 64 2 KL [(.tmp 4)] := cu Tryz.func64 (by kernel_rfl) (by kernel_rfl) (by kernel_rfl)
theorem KN (F : Nat) (a0 : bg) (a1 : bC) (r : Bool) (h : mY F a0 a1 = some r) : PC Tryz.prog 64 [S.agg [vi a0.ak, vi a0.au, vi a0.ay], S.agg [vi a1.bY, vu a1.lF, vu a1.xL.c0, vu a1.xL.c1, vu a1.xL.c2, vu a1.xL.c3, vi a1.dh.lW, vu a1.dh.xW, vi a1.dh.xN, sl bZ a1.xW]] (zb_ r) := by
 unfold mY at h
 refine fC TG rfl rfl ?_
 intro C hP
 unfold KL; dsimp
 apply Eso
 refine W1 (eu rfl rfl rfl rfl) ?_
 refine W1 (eu rfl rfl rfl rfl) ?_
 apply WM
 refine Wk [2, 3] [2, 3] ?_
 (try dsimp)
 apply Eso
 refine WQ (ah rfl rfl) ?_
 refine WQ qlA ?_
 refine WQ (bV rfl rfl) ?_
 refine WQ (vT hP Z9 rfl rfl rfl rfl ⟨rfl, ⟨rfl, ⟨rfl, trivial⟩⟩⟩) ?_
 apply WM
 apply aC
 rfl
 intro hB; (try simp only [hB, bss, ctt]); exact ah rfl rfl
 apply aC
 rfl
 intro hB; (try simp only [hB, bss, ctt]); exact aj rfl rfl rfl
 apply aC
 rfl
 intro hB; (try simp only [hB, bss, ctt]); exact bM rfl
 apply aC
 rfl
 intro hB; (try simp only [hB, bss, ctt]); exact aB rfl rfl rfl
 refine WQ (dK rfl rfl rfl) ?_
 apply WM
 refine Wk [2, 3, 5] [2, 3] ?_
 (try dsimp)
 apply Eso
 refine WQ (ah rfl rfl) ?_
 refine WQ qlA ?_
 refine W1 (dw rfl rfl) ?_
 refine W1 dst ?_
 refine Wk [2, 3, 5, 6] [2, 3, 6] ?_
 (try dsimp)
 apply bP
 apply Eso
 refine WQ qlA ?_
 refine WQ (ah rfl rfl) ?_
 refine WQ (aj rfl rfl rfl) ?_
 obtain ⟨x1, x1h, h⟩ := aN h
 refine W1 (aF hP (QM F a0 a1.xW x1 x1h) rfl rfl rfl) ?_
 refine WQ (dM rfl) ?_
 apply WM
 apply aC
 rfl
 intro hB; (try simp only [hB, bss, ctt]); exact ah rfl rfl
 apply aC
 rfl
 intro hB; (try simp only [hB, bss, ctt]); exact aj rfl rfl rfl
 apply aC
 rfl
 intro hB; (try simp only [hB, bss, ctt]); exact aB rfl rfl rfl
 refine WQ (dS rfl rfl rfl) ?_
 apply WM
 apply aC
 rfl
 intro hB; (try simp only [hB, bss, ctt]); exact ah rfl rfl
 apply aC
 rfl
 intro hB; (try simp only [hB, bss, ctt]); exact aj rfl rfl rfl
 apply aC
 rfl
 intro hB; (try simp only [hB, bss, ctt]); exact aB rfl rfl rfl
 refine WQ (dS rfl rfl rfl) ?_
 apply WM
 apply aC
 rfl
 intro hB; (try simp only [hB, bss, ctt]); exact ah rfl rfl
 apply aC
 rfl
 intro hB; (try simp only [hB, bss, ctt]); exact aj rfl rfl rfl
 apply aC
 rfl
 intro hB; (try simp only [hB, bss, ctt]); exact aB rfl rfl rfl
 refine WQ (dS rfl rfl rfl) ?_
 apply WM
 apply aC
 rfl
 intro hB; (try simp only [hB, bss, ctt]); exact ah rfl rfl
 apply aC
 rfl
 intro hB; (try simp only [hB, bss, ctt]); exact aj rfl rfl rfl
 apply aC
 rfl
 intro hB; (try simp only [hB, bss, ctt]); exact aB rfl rfl rfl
 refine WQ (dS rfl rfl rfl) ?_
 refine Wk [3, 5, 43] [3] ?_
 (try dsimp)
 refine Ec h rfl (fun h hc2 => ?_) (fun h hc2 => ?_)
 apply Eso
 apply WM
 refine Wk [4] [] ?_
 (try dsimp)
 apply bI
 cases h
 (try simp only [qt, qb, qn])
 refine aT (xs := _) ⟨_, rfl, rfl⟩ ?_
 rfl
 apply bG
 refine bf [3, 5] [3] ?_
 (try dsimp)
 apply bP
 apply Eso
 refine WQ (ah rfl rfl) ?_
 refine WQ (aj rfl rfl rfl) ?_
 refine Wk [3, 5, 45] [3] ?_
 (try dsimp)
 apply bW
 apply Eso
 refine WQ (aB rfl rfl rfl) ?_
 apply WM
 refine Wk [3, 5, 45, 46] [3] ?_
 (try dsimp)
 refine Ec h rfl (fun h hc3 => ?_) (fun h hc3 => ?_)
 apply Eso
 apply WM
 apply WM
 apply aC
 rfl
 intro hB; (try simp only [hB, bss, ctt]); exact ah rfl rfl
 apply aC
 rfl
 intro hB; (try simp only [hB, bss, ctt]); exact aj rfl rfl rfl
 apply aC
 rfl
 intro hB; (try simp only [hB, bss, ctt]); exact aB rfl rfl rfl
 refine WQ (dK rfl rfl rfl) ?_
 apply WM
 apply aC
 rfl
 intro hB; (try simp only [hB, bss, ctt]); exact ah rfl rfl
 apply aC
 rfl
 intro hB; (try simp only [hB, bss, ctt]); exact qlA
 apply aC
 rfl
 intro hB; (try simp only [hB, bss, ctt]); exact bV rfl rfl
 apply aC
 rfl
 intro hB; (try simp only [hB, bss, ctt]); exact vT hP Z8 rfl rfl rfl rfl ⟨rfl, ⟨rfl, ⟨rfl, ⟨rfl, trivial⟩⟩⟩⟩
 refine WQ (dK rfl rfl rfl) ?_
 apply WM
 refine Wk [4] [] ?_
 (try dsimp)
 apply bI
 cases h
 (try simp only [qt, qb, qn])
 refine aT (xs := _) ⟨_, rfl, rfl⟩ ?_
 rfl
 obtain ⟨k5, k5d, h⟩ := fO h
 refine dV (α := Bool) (fun (i : Bool) => (⟨[(3, S.one (.ptr 3 0)), (5, (zb_ (((a1.dh.lW == (0 : Int)) && ((a1.dh.xW == (0 : Int)) && ((a1.dh.xN == (0 : Int)) && true))) && (((a1.xW.length : Nat) : Int) == (0 : Int))))), (45, (zi_ a1.bY)), (60, (zb_ i))], [(3, (⟨true, [vi a1.bY, vu a1.lF, vu a1.xL.c0, vu a1.xL.c1, vu a1.xL.c2, vu a1.xL.c3, vi a1.dh.lW, vu a1.dh.xW, vi a1.dh.xN, sl bZ a1.xW]⟩ : Reg))]⟩ : St)) (fun i => k5 i = some r) (fun i h => ?_) ?_
 let iv := i; change k5 i = some r at h; generalize i = v4 at h ⊢
 rw [k5d] at h; dsimp only at h
 (try dsimp)
 refine Ec h rfl (fun h hc6 => ?_) (fun h hc6 => ?_)
 apply Eso
 apply WM
 apply WM
 apply aC
 rfl
 intro hB; (try simp only [hB, bss, ctt]); exact ah rfl rfl
 apply aC
 rfl
 intro hB; (try simp only [hB, bss, ctt]); exact aj rfl rfl rfl
 apply aC
 rfl
 intro hB; (try simp only [hB, bss, ctt]); exact aB rfl rfl rfl
 refine WQ (dK rfl rfl rfl) ?_
 apply WM
 apply aC
 rfl
 intro hB; (try simp only [hB, bss, ctt]); exact ah rfl rfl
 apply aC
 rfl
 intro hB; (try simp only [hB, bss, ctt]); exact aj rfl rfl rfl
 apply aC
 rfl
 intro hB; (try simp only [hB, bss, ctt]); exact aB rfl rfl rfl
 refine WQ (dK rfl rfl rfl) ?_
 apply WM
 refine Wk [4] [] ?_
 (try dsimp)
 apply bI
 cases h
 (try simp only [qt, qb, qn])
 refine aT (xs := _) ⟨_, rfl, rfl⟩ ?_
 rfl
 obtain ⟨k8, k8d, h⟩ := fO h
 refine dV (α := Bool) (fun (i : Bool) => (⟨[(3, S.one (.ptr 3 0)), (74, (zb_ i))], [(3, (⟨true, [vi a1.bY, vu a1.lF, vu a1.xL.c0, vu a1.xL.c1, vu a1.xL.c2, vu a1.xL.c3, vi a1.dh.lW, vu a1.dh.xW, vi a1.dh.xN, sl bZ a1.xW]⟩ : Reg))]⟩ : St)) (fun i => k8 i = some r) (fun i h => ?_) ?_
 let iv := i; change k8 i = some r at h; generalize i = v7 at h ⊢
 rw [k8d] at h; dsimp only at h
 (try dsimp)
 refine Ec h rfl (fun h hc9 => ?_) (fun h hc9 => ?_)
 apply Eso
 refine WQ (ah rfl rfl) ?_
 refine WQ (aj rfl rfl rfl) ?_
 refine WQ (aB rfl rfl rfl) ?_
 apply WM
 apply aC
 rfl
 intro hB; (try simp only [hB, bss, ctt]); exact ah rfl rfl
 apply aC
 rfl
 intro hB; (try simp only [hB, bss, ctt]); exact aj rfl rfl rfl
 apply aC
 rfl
 intro hB; (try simp only [hB, bss, ctt]); exact aB rfl rfl rfl
 refine WQ (dK rfl rfl rfl) ?_
 apply WM
 refine Wk [4] [] ?_
 (try dsimp)
 apply bI
 cases h
 (try simp only [qt, qb, qn])
 refine aT (xs := _) ⟨_, rfl, rfl⟩ ?_
 rfl
 apply bG
 refine bf [] [] ?_
 (try dsimp)
 apply Eso
 apply WM
 apply dn
 (try dsimp)
 apply bI
 cases h
 (try simp only [qt, qb, qn])
 refine aT (xs := _) ⟨_, rfl, rfl⟩ ?_
 rfl
 apply Eso
 refine WQ (aB rfl rfl rfl) ?_
 apply WM
 refine Wk [3, 45, 74] [3] ?_
 (try dsimp)
 refine Ec h rfl (fun h TD => ?_) (fun h TD => ?_)
 apply bG
 refine ⟨(a1.bY == (2 : Int)), h, ?_⟩
 exact (Le.b (bK ⟨rfl, rfl, trivial⟩ ⟨rfl, trivial⟩))
 apply eP
 refine WQ (aB rfl rfl rfl) ?_
 apply WM
 apply dn
 refine ⟨(a1.bY == (3 : Int)), h, ?_⟩
 exact (Le.b (bK ⟨rfl, rfl, trivial⟩ ⟨rfl, trivial⟩))
 apply Eso
 refine WQ (aB rfl rfl rfl) ?_
 apply WM
 refine Wk [3, 5, 45, 60] [3] ?_
 (try dsimp)
 refine Ec h rfl (fun h XC => ?_) (fun h XC => ?_)
 apply bG
 refine ⟨(a1.bY == (1 : Int)), h, ?_⟩
 exact (Le.b (bK ⟨rfl, rfl, rfl, rfl, trivial⟩ ⟨rfl, trivial⟩))
 apply eP
 refine WQ (aB rfl rfl rfl) ?_
 apply WM
 apply dn
 refine ⟨(a1.bY == (4 : Int)), h, ?_⟩
 exact (Le.b (bK ⟨rfl, rfl, rfl, rfl, trivial⟩ ⟨rfl, trivial⟩))
end Go.V.P
