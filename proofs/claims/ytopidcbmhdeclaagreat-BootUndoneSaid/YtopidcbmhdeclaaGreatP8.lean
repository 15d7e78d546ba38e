/- Walks: each function does what its model says. No premises. -/
import Derived.Test.YtopidcbmhdeclaaGreatP7
set_option linter.unusedVariables false
set_option linter.unusedSimpArgs false
set_option maxRecDepth 20000
set_option maxHeartbeats 4000000
namespace Go.V.P
open Go.V Go.Proofs
def uD : cO := (q [o (.box 23 0) 2, o (.mv (cb nn)) 4] (.seq (q [o (.call 30 []) 18, o (.un .not 18) 19] (.cond 19 (q [o (.mv (cb nn)) 4] .ret) .skip)) (.seq (q [w 20 1, o (.bin .lss 3 20 (ci 0)) 21, w 22 21, g_ (.mv 1) 23 22 nn, g_ (.bin .gtr 3 23 (ci 6)) 24 22 nn, o (.pick 22 (cb yy) 24) 25] (.cond 25 (q [o (.mv (cb yy)) 4] .ret) .skip)) (q [o (.call 11 []) 27, o (.call 31 [27, ci 64]) 28, w 26 28, o (.ext 0 26) 29, o (.ext 1 26) 30, w 5 29, w 6 30] (.seq (q [w 31 6, o (.bin .neq 32 31 (ci 0)) 32, w 33 32, g_ (.mv 5) 34 33 nn, g_ (.eqP nn 34 cp) 35 33 nn, o (.pick 33 (cb yy) 35) 36] (.cond 36 (q [o (.mv (cb nn)) 4] .ret) .skip)) (q [w 38 5, o (.call 32 [38]) 39, w 37 39, o (.ext 0 37) 40, o (.ext 1 37) 41, w 7 40, w 8 41] (.seq (q [w 42 8, o (.bin .neq 32 42 (ci 0)) 43, w 44 43, g_ (.mv 7) 45 44 nn, g_ (.eqP nn 45 cp) 46 44 nn, o (.pick 44 (cb yy) 46) 47, w 48 47, g_ (.mv 7) 49 48 nn, g_ (.SH 1 4 2 .none .none) 50 48 nn, g_ (.call 12 [49, ci 0, .const (.int .u64 1), 50]) 51 48 nn, g_ (.bin .neq 32 51 (ci 0)) 52 48 nn, o (.pick 48 (cb yy) 52) 53] (.cond 53 (q [o (.mv (cb nn)) 4] .ret) .skip)) (.seq (q [o (.mv (ci 0)) 9] (.block 0 (.loop (.seq (q [w 54 9, w 55 1, o (.bin .lss 3 54 55) 56] (.cond 56 .skip (.exit 0))) (.seq (.block 1 (.ops [w 59 7, o (.call 14 [59, ci 0]) 60])) (.ops [w 57 9, o (.bin .add 3 57 (ci 1)) 58, w 9 58])))))) (q [w 61 5, o (.call 28 [61, cn]) 62] (q [w 63 5, o (.call 33 [63]) 64] (q [w 66 5, o (.call 32 [66]) 67, w 65 67, o (.ext 0 65) 68, o (.ext 1 65) 69, w 10 68, w 11 69] (.seq (q [w 70 11, o (.bin .neq 32 70 (ci 0)) 71, w 72 71, g_ (.mv 10) 73 72 nn, g_ (.eqP nn 73 cp) 74 72 nn, o (.pick 72 (cb yy) 74) 75] (.cond 75 (q [o (.mv (cb nn)) 4] .ret) .skip)) (q [w 77 10, o (.call 16 [77, ci 0]) 78, w 76 78, o (.ext 0 76) 79, o (.ext 1 76) 80, o (.jm [zi, zu, zu, zu, zu, zu, zi, zu, zi, .nil]) 12, n_ (.store 10 12 79), w 13 80] (q [w 82 10, o (.call 26 [82]) 83, w 81 83, o (.ext 0 81) 84, o (.ext 1 81) 85, o (.jm [zi, zi, zi, .nil, .nil]) 14, n_ (.store 5 14 84), w 15 85] (q [o (.call 11 []) 87, o (.call 27 [87, ci 64]) 88, w 86 88, o (.ext 0 86) 89, o (.ext 1 86) 90, o (.jm [zi, zi, zi, .nil, .nil]) 16, n_ (.store 5 16 89), w 17 90] (.seq (q [w 91 13, o (.bin .neq 32 91 (ci 0)) 92, w 93 92, g_ (.mv 15) 94 93 nn, g_ (.bin .neq 32 94 (ci 0)) 95 93 nn, o (.pick 93 (cb yy) 95) 96, w 97 96, g_ (.load yy 5 14) 98 97 nn, g_ (.load yy 5 16) 99 97 nn, g_ (.call 29 [98, 99]) 100 97 nn, g_ (.un .not 100) 101 97 nn, o (.pick 97 (cb yy) 101) 102] (.cond 102 (q [o (.mv (cb nn)) 4] .ret) .skip)) (.seq (.draw [((o (.load yy 10 12) 103), []), ((o (.call 35 [103]) 104), [0]), ((o (.build [zi, zu, zu, zu, zu, zu, zi, zu, zi, .nil] []) 105), []), ((o (.call 35 [105]) 106), [2, 1]), ((o (.call 34 [104, 106]) 107), [1, 3, 3]), ((w 108 107), [4, 4]), ((g_ (.load yy 10 12) 109 108 nn), [5]), ((g_ (.call 35 [109]) 110 108 nn), [6, 5, 5]), ((g_ (.load yy 4 2) 111 108 nn), [5]), ((g_ (.build [zi, zu, zu, zu, zu, zu, zi, zu, zi, .nil] [(0, (1, (ci 4))), (1, (1, (.const (.int .u64 1)))), (2, (4, 111))]) 112 108 nn), [8, 5]), ((g_ (.call 35 [112]) 113 108 nn), [9, 7, 5]), ((g_ (.call 34 [110, 113]) 114 108 nn), [7, 10, 10, 5]), ((o (.pick 108 (cb yy) 114) 115), [5, 11]), ((w 4 115), [12, 11, 0, 1, 2, 3, 4, 5, 6, 7, 8, 9, 10, 11, 12])]) .ret)))))))))))))))))
theorem Af : Fits Tryz.prog 7 2 uD [(.tmp 4)] := fk Tryz.func7
theorem zQ (F : Nat) (a0 : (V4 Int)) (a1 : Int) (r : Bool) (h : lq F a0 a1 = some r) : PC Tryz.prog 7 [S.agg [vu a0.c0, vu a0.c1, vu a0.c2, vu a0.c3], (zi_ a1)] (zb_ r) := by
 unfold lq at h
 refine eu Af rfl rfl ?_
 intro C hP
 unfold uD; dsimp
 apply Eso
 refine W1 dbx ?_
 apply WM
 refine Wk [1, 2] [2] ?_
 (try dsimp)
 apply bG
 apply Eso
 obtain ⟨x1, x1h, h⟩ := aG h
 refine W1 (dc1 hP (FP F  x1 x1h)) ?_
 refine WQ qno ?_
 refine Wk [1, 2, 19] [2] ?_
 (try dsimp)
 refine Ec h rfl (fun h hc2 => ?_) (fun h hc2 => ?_)
 apply Eso
 apply WM
 refine Wk [4] [] ?_
 (try dsimp)
 apply bD
 cases h
 exact fe
 apply bf
 refine aX [1, 2] [2] ?_
 (try dsimp)
 apply bG
 apply Eso
 apply WM
 refine WQ qi ?_
 apply WM
 apply aF
 rfl
 intro b
 try rw [b]
 exact qm
 apply aF
 rfl
 intro b
 try rw [b]
 exact qi
 refine WQ qor ?_
 refine Wk [1, 2, 25] [2] ?_
 (try dsimp)
 refine Ec h rfl (fun h hc3 => ?_) (fun h hc3 => ?_)
 apply Eso
 apply WM
 refine Wk [4] [] ?_
 (try dsimp)
 apply bD
 cases h
 exact fe
 apply bf
 refine aX [1, 2] [2] ?_
 (try dsimp)
 apply Eso
 obtain ⟨x4, x4h, h⟩ := aG h
 refine W1 (dc1 hP (yT F  x4 x4h)) ?_
 obtain ⟨x5, x5h, h⟩ := aG h
 rcases yU h with ⟨o6e, h⟩ | ⟨o6, o6e, h⟩
 refine W1 (aO [] true hP (yV o6e (yY F x4 (64 : Int) x5 x5h)) rfl trivial rfl rfl rfl rfl rfl (fun h => by first | rfl | cases h) rfl) ?_
 (try dsimp)
 apply WM
 refine WQ qx ?_
 refine WQ qx ?_
 apply WM
 apply WM
 refine Wk [1, 2, 5, 6] [2] ?_
 (try dsimp)
 apply bG
 apply Eso
 apply WM
 refine WQ qi ?_
 apply WM
 apply aF
 rfl
 intro b
 try rw [b]
 exact qm
 apply aF
 rfl
 intro b
 try rw [b]
 exact uS rfl rfl
 refine WQ qor ?_
 refine Wk [1, 2, 5, 36] [2] ?_
 (try dsimp)
 refine Ec h rfl (fun h hc7 => ?_) (fun h hc7 => ?_)
 apply Eso
 apply WM
 refine Wk [4] [] ?_
 (try dsimp)
 apply bD
 cases h
 exact fe
 apply bf
 refine aX [1, 2, 5] [2] ?_
 (try dsimp)
 apply Eso
 apply WM
 cases h
 refine W1 (aO [(7190, 7280), (7191, 7281)] true hP (yX o6e (yY F x4 (64 : Int) x5 x5h)) rfl trivial rfl rfl rfl rfl rfl (fun h => by first | rfl | cases h) rfl) ?_
 (try dsimp)
 apply WM
 refine WQ qx ?_
 refine WQ qx ?_
 apply WM
 apply WM
 refine Wk [1, 2, 5, 6] [2, 7280, 7281] ?_
 (try dsimp)
 apply bG
 apply Eso
 apply WM
 refine WQ qi ?_
 apply WM
 apply aF
 rfl
 intro b
 try rw [b]
 exact qm
 apply aF
 rfl
 intro b
 try rw [b]
 exact qF rfl rfl rfl
 refine WQ qor ?_
 refine Wk [1, 2, 5, 36] [2, 7280, 7281] ?_
 (try dsimp)
 refine Ec h rfl (fun h hc8 => ?_) (fun h hc8 => ?_)
 apply Eso
 apply WM
 refine Wk [4] [] ?_
 (try dsimp)
 apply bD
 cases h
 exact fe
 apply bf
 refine aX [1, 2, 5] [2, 7280, 7281] ?_
 (try dsimp)
 apply Eso
 apply WM
 obtain ⟨x9, x9h, h⟩ := aG h
 rcases yU h with ⟨acg, h⟩ | ⟨o10, acg, h⟩
 refine W1 (aO [(100900, 7281), (100901, 7280)] false hP (yV acg (uy F o6 x9 x9h)) rfl ⟨rfl, rfl, trivial⟩ rfl rfl rfl rfl rfl (fun h => by first | rfl | cases h) rfl) ?_
 (try dsimp)
 apply WM
 refine WQ qx ?_
 refine WQ qx ?_
 apply WM
 apply WM
 refine Wk [1, 2, 5, 7, 8] [2, 7280, 7281] ?_
 (try dsimp)
 apply bG
 apply Eso
 apply WM
 refine WQ qi ?_
 apply WM
 apply aF
 rfl
 intro b
 try rw [b]
 exact qm
 apply aF
 rfl
 intro b
 try rw [b]
 exact uS rfl rfl
 refine WQ qor ?_
 apply WM
 rcases tf (((x9.2.2 != (0 : Int)) || true)) with hs11 | hs11
 replace h := V9 h hs11
 refine Ot rfl hs11 ?_
 refine Ot rfl hs11 ?_
 refine Ot rfl hs11 ?_
 refine Ot rfl hs11 ?_
 refine WQ (FM hs11 rfl rfl) ?_
 refine Wk [1, 2, 5, 7, 53] [2, 7280, 7281] ?_
 (try dsimp)
 refine FC rfl (fun hc12 => ?_) (fun hc12 => ?_)
 apply Eso
 apply WM
 refine Wk [4] [] ?_
 (try dsimp)
 apply bD
 cases h
 exact fe
 cases hc12
 replace h := Wh h hs11
 refine TA rfl hs11 ((qm).does) ?_
 refine TA rfl hs11 ((qR rfl rfl rfl rfl (by decide) (by decide) (by decide) (List.cons_ne_nil _ _)).does) ?_
 cases h
 refine W1 (aO [(100900, 7281), (100901, 7280), (7360, 7390), (7361, 7391), (7362, 7392)] false hP (yX acg (uy F o6 x9 x9h)) rfl ⟨rfl, rfl, trivial⟩ rfl rfl rfl rfl rfl (fun h => by first | rfl | cases h) rfl) ?_
 (try dsimp)
 apply WM
 refine WQ qx ?_
 refine WQ qx ?_
 apply WM
 apply WM
 refine Wk [1, 2, 5, 7, 8] [2, 7280, 7281, 7390, 7391, 7392] ?_
 (try dsimp)
 apply bG
 apply Eso
 apply WM
 refine WQ qi ?_
 apply WM
 apply aF
 rfl
 intro b
 try rw [b]
 exact qm
 apply aF
 rfl
 intro b
 try rw [b]
 exact qF rfl rfl rfl
 refine WQ qor ?_
 apply WM
 rcases tf (((x9.2.2 != (0 : Int)) || false)) with IG | IG
 replace h := V9 h IG
 refine Ot rfl IG ?_
 refine Ot rfl IG ?_
 refine Ot rfl IG ?_
 refine Ot rfl IG ?_
 refine WQ (FM IG rfl rfl) ?_
 refine Wk [1, 2, 5, 7, 53] [2, 7280, 7281, 7390, 7391, 7392] ?_
 (try dsimp)
 refine FC rfl (fun ac5 => ?_) (fun ac5 => ?_)
 apply Eso
 apply WM
 refine Wk [4] [] ?_
 (try dsimp)
 apply bD
 cases h
 exact fe
 cases ac5
 replace h := Wh h IG
 refine TA rfl IG ((qm).does) ?_
 refine TA rfl IG ((qR rfl rfl rfl rfl (by decide) (by decide) (by decide) (List.cons_ne_nil _ _)).does) ?_
 obtain ⟨x15, SL, h⟩ := aG h
 refine TA rfl IG (Does.ghost (fK (r := 2) (g' := ⟨true, flat dh ([a0.c0, a0.c1, a0.c2, a0.c3] : List Int)⟩) rfl rfl).b (Does.ghost (kY (r := 2) rfl rfl).b (aO [(100900, 7391), (100950, 7281), (100951, 7280), (100903, 7390), (904, 7392)] false hP (J9 F (⟨x9.1, o10.dB, o10.xw, o10.cu, o10.fP⟩ : aW) (0 : Int) (1 : Int) ([a0.c0, a0.c1, a0.c2, a0.c3] : List Int) x15 SL) rfl ⟨rfl, rfl, rfl, rfl, rfl, trivial⟩ rfl rfl rfl rfl rfl (fun h => by first | rfl | cases h) rfl))) ?_
 (try dsimp)
 refine TA rfl IG ((qi).does) ?_
 refine WQ (MV IG rfl rfl) ?_
 refine Wk [1, 2, 5, 7, 53] [7280, 7281, 7390, 7391, 7392] ?_
 (try dsimp)
 refine Ec h rfl (fun h hc16 => ?_) (fun h hc16 => ?_)
 apply Eso
 apply WM
 refine Wk [4] [] ?_
 (try dsimp)
 apply bD
 cases h
 exact fe
 apply bf
 refine aX [1, 2, 5, 7] [7280, 7281, 7390, 7391, 7392] ?_
 (try dsimp)
 obtain ⟨k22, aeY, h⟩ := eX h
 refine dJ (fun (i : Bool × Int × Int × (List Int) × (List bV)) => ⟨[(2, S.one (.psl [vu a0.c0, vu a0.c1, vu a0.c2, vu a0.c3] 0)), (5, S.one (.ptr 7281 0))], [(7280, ⟨true, flat aN i.2.2.2.2⟩), (7281, ⟨false, [.own 7280 0 i.2.2.2.2.length (some (18, 115)), vb i.1, vi i.2.1, vi i.2.2.1, sl aT i.2.2.2.1]⟩)]⟩) (fun i => k22 i.1 i.2.1 i.2.2.1 i.2.2.2.1 i.2.2.2.2 = some r) (fun i h => ?_) ?_
 obtain ⟨v17, v18, v19, v20, v21⟩ := i
 rw [aeY] at h; dsimp only at h
 (try dsimp)
 apply Eso
 apply WM
 obtain ⟨x23, Y8, h⟩ := aG h
 refine W1 (aO [(100900, 7281), (100901, 7280)] false hP (Bq F (⟨v21, v17, v18, v19, v20⟩ : aC) ([] : (List Int)) x23 Y8) rfl ⟨rfl, rfl, trivial⟩ rfl rfl rfl rfl rfl (fun h => by first | rfl | cases h) rfl) ?_
 (try dsimp)
 refine Wk [2, 5] [7280, 7281] ?_
 (try dsimp)
 apply Eso
 apply WM
 obtain ⟨x24, aeZ, h⟩ := aG h
 refine W1 (aO [(100900, 7281), (100901, 7280)] false hP (QM F x23 x24 aeZ) rfl ⟨rfl, rfl, trivial⟩ rfl rfl rfl rfl rfl (fun h => by first | rfl | cases h) rfl) ?_
 (try dsimp)
 refine Wk [2, 5] [7280, 7281] ?_
 (try dsimp)
 apply Eso
 apply WM
 obtain ⟨x25, Xo, h⟩ := aG h
 rcases yU h with ⟨ach, h⟩ | ⟨o26, ach, h⟩
 refine W1 (aO [(100900, 7281), (100901, 7280)] false hP (yV ach (uy F x24 x25 Xo)) rfl ⟨rfl, rfl, trivial⟩ rfl rfl rfl rfl rfl (fun h => by first | rfl | cases h) rfl) ?_
 (try dsimp)
 apply WM
 refine WQ qx ?_
 refine WQ qx ?_
 apply WM
 apply WM
 refine Wk [2, 10, 11] [] ?_
 (try dsimp)
 apply bG
 apply Eso
 apply WM
 refine WQ qi ?_
 apply WM
 apply aF
 rfl
 intro b
 try rw [b]
 exact qm
 apply aF
 rfl
 intro b
 try rw [b]
 exact uS rfl rfl
 refine WQ qor ?_
 refine Wk [2, 10, 75] [] ?_
 (try dsimp)
 refine Ec h rfl (fun h hc27 => ?_) (fun h hc27 => ?_)
 apply Eso
 apply WM
 refine Wk [4] [] ?_
 (try dsimp)
 apply bD
 cases h
 exact fe
 apply bf
 refine aX [2, 10] [] ?_
 (try dsimp)
 apply Eso
 apply WM
 cases h
 refine W1 (aO [(100900, 7281), (100901, 7280), (7360, 7670), (7361, 7671), (7362, 7672)] false hP (yX ach (uy F x24 x25 Xo)) rfl ⟨rfl, rfl, trivial⟩ rfl rfl rfl rfl rfl (fun h => by first | rfl | cases h) rfl) ?_
 (try dsimp)
 apply WM
 refine WQ qx ?_
 refine WQ qx ?_
 apply WM
 apply WM
 refine Wk [2, 10, 11] [7280, 7281, 7670, 7671, 7672] ?_
 (try dsimp)
 apply bG
 apply Eso
 apply WM
 refine WQ qi ?_
 apply WM
 apply aF
 rfl
 intro b
 try rw [b]
 exact qm
 apply aF
 rfl
 intro b
 try rw [b]
 exact qF rfl rfl rfl
 refine WQ qor ?_
 refine Wk [2, 10, 75] [7280, 7281, 7670, 7671, 7672] ?_
 (try dsimp)
 refine Ec h rfl (fun h hc28 => ?_) (fun h hc28 => ?_)
 apply Eso
 apply WM
 refine Wk [4] [] ?_
 (try dsimp)
 apply bD
 cases h
 exact fe
 apply bf
 refine aX [2, 10] [7280, 7281, 7670, 7671, 7672] ?_
 (try dsimp)
 apply Eso
 apply WM
 obtain ⟨x29, abO, h⟩ := aG h
 refine W1 (aO [(100900, 7671), (100950, 7281), (100951, 7280), (100903, 7670), (904, 7672)] false hP (IE F (⟨x25.1, o26.dB, o26.xw, o26.cu, o26.fP⟩ : aW) (0 : Int) x29 abO) rfl ⟨rfl, rfl, rfl, rfl, rfl, trivial⟩ rfl rfl rfl rfl rfl (fun h => by first | rfl | cases h) rfl) ?_
 (try dsimp)
 apply WM
 refine WQ qx ?_
 refine WQ qx ?_
 refine W1 dnv ?_
 refine W1 dst ?_
 apply WM
 refine Wk [2, 10, 12, 13] [12, 7280, 7281, 7670, 7671, 7672] ?_
 (try dsimp)
 apply Eso
 apply WM
 obtain ⟨x30, Zd, h⟩ := aG h
 refine W1 (aO [(100900, 7671), (100950, 7281), (100951, 7280), (100903, 7670), (904, 7672)] false hP (y7 F (⟨x25.1, o26.dB, o26.xw, o26.cu, o26.fP⟩ : aW) x30 Zd) rfl ⟨rfl, rfl, rfl, rfl, rfl, trivial⟩ rfl rfl rfl rfl rfl (fun h => by first | rfl | cases h) rfl) ?_
 (try dsimp)
 apply WM
 refine WQ qx ?_
 refine WQ qx ?_
 refine W1 dnv ?_
 refine W1 dst ?_
 apply WM
 refine Wk [2, 12, 13, 14, 15] [12, 14] ?_
 (try dsimp)
 apply Eso
 obtain ⟨x31, Zi, h⟩ := aG h
 refine W1 (dc1 hP (yT F  x31 Zi)) ?_
 obtain ⟨x32, ace, h⟩ := aG h
 refine W1 (dc1 hP (CS F x31 (64 : Int) x32 ace)) ?_
 apply WM
 refine WQ qx ?_
 refine WQ qx ?_
 refine W1 dnv ?_
 refine W1 dst ?_
 apply WM
 refine Wk [2, 12, 13, 14, 15, 16] [12, 14, 16] ?_
 (try dsimp)
 apply bG
 apply Eso
 apply WM
 refine WQ qi ?_
 apply WM
 apply aF
 rfl
 intro b
 try rw [b]
 exact qm
 apply aF
 rfl
 intro b
 try rw [b]
 exact qi
 refine WQ qor ?_
 apply WM
 apply aF
 rfl
 intro b
 try rw [b]
 exact qlA
 apply aF
 rfl
 intro b
 try rw [b]
 exact qlA
 obtain ⟨x33, Za, h⟩ := aG h
 apply iM
 rfl
 intro hB; (try rw [hB]); exact dc1 hP (Hq F x30.1 x32.1 x33 (jA Za (bt hB)))
 apply aF
 rfl
 intro b
 try rw [b]
 exact qno
 refine WQ qor ?_
 refine Wk [2, 12, 102] [12] ?_
 (try dsimp)
 refine Ec h rfl (fun h hc34 => ?_) (fun h hc34 => ?_)
 apply Eso
 apply WM
 refine Wk [4] [] ?_
 (try dsimp)
 apply bD
 cases h
 exact fe
 apply bf
 refine aX [2, 12] [12] ?_
 (try dsimp)
 apply bG
 obtain ⟨x35, abX, h⟩ := aG h
 obtain ⟨x36, Zb, h⟩ := aG h
 obtain ⟨x37, Y5, h⟩ := aG h
 obtain ⟨x38, ab1, h⟩ := aG h
 obtain ⟨x39, ae0, h⟩ := aG h
 obtain ⟨x40, Zh, h⟩ := aG h
 refine ig [0, 2, 5, 6, 8, 9, 12, 13] ?_
 refine XQ 0 rfl rfl rfl qlA ?_
 refine XQ 2 rfl rfl rfl qbu ?_
 refine X1 rfl (XK rfl (dc1 hP (pz F x29.1 x35 abX)) ?_)
 refine X1 rfl (XK rfl (FQ hP (pz F (⟨(0 : Int), (0 : Int), (⟨(0 : Int), (0 : Int), (0 : Int), (0 : Int)⟩ : V4 Int), (⟨(0 : Int), (0 : Int), (0 : Int)⟩ : dP), ([] : (List aB))⟩ : aV) x36 Zb) rfl rfl rfl) ?_)
 refine X1 rfl (XK rfl (dc1 hP (yF F x35 x36 x37 Y5)) ?_)
 refine XQ 5 rfl rfl rfl qm ?_
 apply fO 6
 rfl
 rfl
 rfl
 rfl
 intro hB; (try rw [hB]); exact qlA
 apply fO 8
 rfl
 rfl
 rfl
 rfl
 intro hB; (try rw [hB]); exact Dz rfl rfl rfl
 apply fO 9
 rfl
 rfl
 rfl
 rfl
 intro hB; (try rw [hB]); exact qbu
 refine X1 rfl ?_
 apply AB
 rfl
 rfl
 intro hB; (try rw [hB]); exact dc1 hP (pz F x29.1 x38 (jA ab1 (bt hB)))
 refine X1 rfl ?_
 apply AB
 rfl
 rfl
 intro hB; (try rw [hB]); exact FQ hP (pz F (⟨(4 : Int), (1 : Int), a0, (⟨(0 : Int), (0 : Int), (0 : Int)⟩ : dP), ([] : (List aB))⟩ : aV) x39 (jA ae0 (bt hB))) rfl rfl rfl
 refine X1 rfl ?_
 apply AB
 rfl
 rfl
 intro hB; (try rw [hB]); exact dc1 hP (yF F x38 x39 x40 (jA Zh (bt hB)))
 refine XQ 12 rfl rfl rfl qor ?_
 refine XQ 13 rfl rfl rfl qm ?_
 refine dL rfl ?_
 refine aX [4] [] ?_
 (try dsimp)
 apply bD
 cases h
 exact fe
 apply Eso
 apply WM
 apply bW
 (try dsimp)
 apply bT
 (try dsimp)
 refine eG (fun (i : Int × Int × Int × Int × Bool × (List Int) × (List aY) × Bool × Int × Int × (List Int) × (List bV)) => ⟨[(1, zi_ a1), (2, S.one (.psl [vu a0.c0, vu a0.c1, vu a0.c2, vu a0.c3] 0)), (5, S.one (.ptr 7281 0)), (7, S.one (.ptr 7391 0)), (9, zi_ i.1)], [(7280, ⟨true, flat aN i.2.2.2.2.2.2.2.2.2.2.2⟩), (7281, ⟨false, [.own 7280 0 i.2.2.2.2.2.2.2.2.2.2.2.length (some (18, 115)), vb i.2.2.2.2.2.2.2.1, vi i.2.2.2.2.2.2.2.2.1, vi i.2.2.2.2.2.2.2.2.2.1, sl aT i.2.2.2.2.2.2.2.2.2.2.1]⟩), (7390, ⟨true, flat bU i.2.2.2.2.2.2.1⟩), (7391, ⟨false, [.ptr 7281 0, vi i.2.1, vi i.2.2.1, vi i.2.2.2.1, .own 7390 0 i.2.2.2.2.2.2.1.length (some (12, 101)), .own 7392 0 i.2.2.2.2.2.1.length (some (1, 3)), vb i.2.2.2.2.1]⟩), (7392, ⟨true, flat aT i.2.2.2.2.2.1⟩)]⟩) (fun n i => gu F a1 k22 n i.1 i.2.1 i.2.2.1 i.2.2.2.1 i.2.2.2.2.1 i.2.2.2.2.2.1 i.2.2.2.2.2.2.1 i.2.2.2.2.2.2.2.1 i.2.2.2.2.2.2.2.2.1 i.2.2.2.2.2.2.2.2.2.1 i.2.2.2.2.2.2.2.2.2.2.1 i.2.2.2.2.2.2.2.2.2.2.2 = some r) F ((0 : Int), x15.1.dB.ak, x15.1.dB.ay, x15.1.dB.aA, x15.1.fP, x15.1.cu, x15.1.xw, x15.1.xm.dD, x15.1.xm.bC, x15.1.xm.bP, x15.1.xm.bQ, x15.1.xm.xl) h ?_ (fun n i h => ?_)
 exact LB
 obtain ⟨v59, v60, v61, v62, v63, v64, v65, v66, v67, v68, v69, v70⟩ := i; dsimp only at h
 obtain _ | n71 := n
 cases h
 unfold gu at h
 (try dsimp)
 apply bG
 apply Eso
 apply WM
 apply WM
 refine WQ qi ?_
 refine Wk [1, 2, 5, 7, 9, 56] [7280, 7281, 7390, 7391, 7392] ?_
 (try dsimp)
 refine Ec h rfl (fun h Ze => ?_) (fun h Ze => ?_)
 apply bf
 refine aX [1, 2, 5, 7, 9] [7280, 7281, 7390, 7391, 7392] ?_
 (try dsimp)
 apply bG
 apply bT
 apply dO
 apply WM
 obtain ⟨x73, ab7, h⟩ := aG h
 refine W1 (aO [(100900, 7391), (100950, 7281), (100951, 7280), (100903, 7390), (904, 7392)] false hP (IB F (⟨(⟨v70, v66, v67, v68, v69⟩ : aC), (⟨v60, v61, v62⟩ : aJ), v65, v64, v63⟩ : aW) (0 : Int) x73 ab7) rfl ⟨rfl, rfl, rfl, rfl, rfl, trivial⟩ rfl rfl rfl rfl rfl (fun h => by first | rfl | cases h) rfl) ?_
 (try dsimp)
 refine Wk [1, 2, 5, 7, 9] [7280, 7281, 7390, 7391, 7392] ?_
 (try dsimp)
 apply dO
 apply WM
 obtain ⟨g74, h⟩ := aQ h
 refine WQ (qad g74) ?_
 apply WM
 apply bW
 refine ⟨n71, ((v59 + (1 : Int)), x73.1.dB.ak, x73.1.dB.ay, x73.1.dB.aA, x73.1.fP, x73.1.cu, x73.1.xw, x73.1.xm.dD, x73.1.xm.bC, x73.1.xm.bP, x73.1.xm.bQ, x73.1.xm.xl), Nat.lt_succ_self _, h, ?_⟩
 exact LB
 apply gy
 refine ⟨(v66, v67, v68, v69, v70), h, ?_⟩
 exact LB
end Go.V.P
