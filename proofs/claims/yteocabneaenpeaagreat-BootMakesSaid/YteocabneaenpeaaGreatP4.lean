/- Walks: each function does what its model says: reeve/opd.Get, slices.Clone[[]uint64,uint64], reeve/wset.Do, reeve/tag.Rest, reeve/cap.Get, reeve/thing.Get, reeve/image.Get, reeve/boot.read, reeve/boot.then, slices.Max[[]uint64,uint64], reeve/opd.First, reeve/geo.Lock, reeve/boot.block. Printed by mg.py. No premises. -/
import Derived.Test.YteocabneaenpeaaGreatP3
set_option linter.unusedVariables false
set_option linter.unusedSimpArgs false
set_option maxRecDepth 20000
set_option maxHeartbeats 4000000
namespace Go.V.P
open Go.V Go.Proofs
/- reeve/opd.Get -/
def c_opd_Get : VCode := (.seq (.ops [(o (.box 23 (t 0)) 2), (o (.newv [zi, zu, zu, zu, zu, zu, zi, zu, zi, .nil]) 4), (o (.mv (cb false)) 5)]) (.seq (.ops [(o (.load true 3 (t 2)) 14), (o (.call 30 [(t 14), (ci 0)]) 15), (w 13 15), (o (.ext 0 (t 13)) 16), (o (.ext 1 (t 13)) 17), (w 6 16), (w 7 17)]) (.seq (.seq (.ops [(w 18 7), (o (.bin .eql 3 (t 18) (ci 0)) 19), (w 20 19), (g_ (.mv (t 1)) 21 20 false), (g_ (.len false (t 21)) 22 20 false), (g_ (.mv (t 7)) 23 20 false), (g_ (.bin .neq 3 (t 22) (t 23)) 24 20 false), (o (.pick (t 20) (cb true) (t 24)) 25)]) (.cond (t 25) (.seq (.ops [(o (.build [zi, zu, zu, zu, zu, zu, zi, zu, zi, .nil] []) 26), (n_ (.store 10 (t 4) (t 26))), (o (.mv (cb false)) 5)]) .ret) .skip)) (.seq (.seq (.ops [(w 27 1), (o (.idxS 1 (t 27) (ci 0)) 28), (o (.load false 1 (t 28)) 29), (o (.bin .eql 42 (t 29) (.const (.int .u64 0))) 30)]) (.cond (t 30) (.seq (.draw [((o (.build [zi, zu, zu, zu, zu, zu, zi, zu, zi, .nil] []) 31), []), ((w 32 1), []), ((o (.idxS 1 (t 32) (ci 7)) 33), [1]), ((o (.load false 1 (t 33)) 34), [2]), ((o (.bin .eql 42 (t 34) (.const (.int .u64 0))) 35), [3]), ((n_ (.store 10 (t 4) (t 31))), [0, 0]), ((w 5 35), [4, 5, 0, 1, 2, 3, 4, 5])]) .ret) .skip)) (.seq (.draw [((w 36 1), []), ((o (.idxS 1 (t 36) (ci 0)) 37), [0]), ((o (.load false 1 (t 37)) 38), [1]), ((o (.call 103 []) 39), []), ((o (.call 106 [(t 38), (t 39)]) 40), [2, 3, 3]), ((w 8 40), [4, 4, 0, 1, 2, 3, 4])]) (.seq (.draw [((w 41 8), []), ((o (.idxS 1 (t 41) (ci 0)) 42), [0]), ((o (.load false 1 (t 42)) 43), [1]), ((o (.convI .i64 (t 43)) 44), [2]), ((w 45 8), []), ((o (.idxS 1 (t 45) (ci 3)) 46), [4]), ((o (.load false 1 (t 46)) 47), [5]), ((o (.build [zi, zu, zu, zu, zu, zu, zi, zu, zi, .nil] [(0, (1, (t 44))), (1, (1, (t 47)))]) 48), [3, 6]), ((o (.newv [zi, zu, zu, zu, zu, zu, zi, zu, zi, .nil]) 9), []), ((n_ (.store 10 (t 9) (t 48))), [8, 7, 0, 1, 2, 3, 4, 5, 6, 7, 8])]) (.seq (.draw [((o (.add 2 (t 9)) 49), []), ((o (.slcA 1 4 (t 49) .none .none) 50), [0]), ((w 51 1), []), ((o (.slc 1 (t 51) (.some (ci 1)) .none .none) 52), [2]), ((o (.copy 1 (t 50) (t 52)) 53), [1, 3])]) (.seq (.ops [(w 54 8), (o (.idxS 1 (t 54) (ci 1)) 55), (o (.load false 1 (t 55)) 56), (o (.convI .i64 (t 56)) 57), (o (.add 6 (t 9)) 58), (o (.add 0 (t 58)) 59), (n_ (.store 1 (t 59) (t 57)))]) (.seq (.ops [(w 60 8), (o (.idxS 1 (t 60) (ci 2)) 61), (o (.load false 1 (t 61)) 62), (o (.convI .i64 (t 62)) 63), (w 10 63)]) (.seq (.seq (.ops [(w 64 10), (o (.bin .gtr 3 (t 64) (ci 600)) 65)]) (.cond (t 65) (.seq (.ops [(o (.build [zi, zu, zu, zu, zu, zu, zi, zu, zi, .nil] []) 66), (n_ (.store 10 (t 4) (t 66))), (o (.mv (cb false)) 5)]) .ret) .skip)) (.seq (.seq (.ops [(o (.add 0 (t 9)) 67), (o (.load false 1 (t 67)) 68), (o (.bin .neq 3 (t 68) (ci 1)) 69)]) (.cond (t 69) (.seq (.seq (.ops [(w 70 1), (o (.idxS 1 (t 70) (ci 6)) 71), (o (.load false 1 (t 71)) 72), (o (.bin .gtr 42 (t 72) (.const (.int .u64 2147483647))) 73)]) (.cond (t 73) (.seq (.ops [(o (.build [zi, zu, zu, zu, zu, zu, zi, zu, zi, .nil] []) 74), (n_ (.store 10 (t 4) (t 74))), (o (.mv (cb false)) 5)]) .ret) .skip)) (.draw [((w 75 1), []), ((o (.idxS 1 (t 75) (ci 5)) 76), [0]), ((o (.load false 1 (t 76)) 77), [1]), ((w 78 1), []), ((o (.idxS 1 (t 78) (ci 6)) 79), [3]), ((o (.load false 1 (t 79)) 80), [4]), ((o (.convI .i64 (t 80)) 81), [5]), ((o (.add 6 (t 9)) 82), [0, 1, 2, 5]), ((o (.add 1 (t 82)) 83), [7, 0, 1, 2, 5]), ((n_ (.store 1 (t 83) (t 77))), [8, 2, 0, 1, 2, 5]), ((o (.add 6 (t 9)) 84), [0, 1, 2, 3, 4, 5, 6, 7, 8, 9]), ((o (.add 2 (t 84)) 85), [10, 0, 1, 2, 3, 4, 5, 6, 7, 8, 9]), ((n_ (.store 1 (t 85) (t 81))), [11, 6, 9, 0, 1, 2, 3, 4, 5, 6, 7, 8, 9])])) .skip)) (.seq (.seq (.ops [(w 86 10), (o (.mv (ci 0)) 87)]) (.block 0 (.loop (.seq (.ops [(o (.bin .lss 3 (t 87) (t 86)) 88)]) (.seq (.cond (t 88) .skip (.exit 0)) (.seq (.block 1 (.seq (.ops [(w 89 87), (w 11 89)]) (.seq (.ops [(w 90 1), (w 91 11), (o (.bin .mul 3 (ci 2) (t 91)) 92), (o (.bin .add 3 (ci 8) (t 92)) 93), (o (.idxS 1 (t 90) (t 93)) 94), (o (.load false 1 (t 94)) 95), (w 12 95)]) (.seq (.seq (.ops [(w 96 12), (o (.bin .gtr 42 (t 96) (.const (.int .u64 2147483647))) 97)]) (.cond (t 97) (.seq (.ops [(o (.build [zi, zu, zu, zu, zu, zu, zi, zu, zi, .nil] []) 98), (n_ (.store 10 (t 4) (t 98))), (o (.mv (cb false)) 5)]) .ret) .skip)) (.draw [((o (.add 9 (t 9)) 99), []), ((o (.load false 1 (t 99)) 100), [0]), ((w 101 12), []), ((o (.convI .i64 (t 101)) 102), [2]), ((w 103 1), []), ((w 104 11), []), ((o (.bin .mul 3 (ci 2) (t 104)) 105), [5]), ((o (.bin .add 3 (ci 8) (t 105)) 106), [6]), ((o (.bin .add 3 (t 106) (ci 1)) 107), [7]), ((o (.idxS 1 (t 103) (t 107)) 108), [4, 8]), ((o (.load false 1 (t 108)) 109), [9]), ((o (.build [zi, zu] [(0, (1, (t 102))), (1, (1, (t 109)))]) 110), [3, 10]), ((o (.bslice 2 154 1 [zi, zu] [(0, (2, (t 110)))]) 111), [11]), ((o (.app 55 154 2 16 (t 100) (t 111)) 112), [1, 12]), ((o (.add 9 (t 9)) 113), [0, 1, 2, 3, 4, 5, 6, 7, 8, 9, 10, 11, 12, 13]), ((n_ (.store 1 (t 113) (t 112))), [14, 13, 13, 0, 1, 2, 3, 4, 5, 6, 7, 8, 9, 10, 11, 12, 13])]))))) (.ops [(o (.bin .add 3 (t 87) (ci 1)) 114), (w 87 114)]))))))) (.seq (.seq (.ops [(o (.load true 3 (t 2)) 115), (o (.load true 10 (t 9)) 116), (o (.call 64 [(t 115), (t 116)]) 117), (o (.un .not (t 117)) 118), (w 119 118), (g_ (.mv (t 1)) 120 119 false), (g_ (.idxS 1 (t 120) (ci 7)) 121 119 false), (g_ (.load false 1 (t 121)) 122 119 false), (g_ (.bin .neq 42 (t 122) (.const (.int .u64 0))) 123 119 false), (o (.pick (t 119) (cb true) (t 123)) 124)]) (.cond (t 124) (.seq (.ops [(o (.build [zi, zu, zu, zu, zu, zu, zi, zu, zi, .nil] []) 125), (n_ (.store 10 (t 4) (t 125))), (o (.mv (cb false)) 5)]) .ret) .skip)) (.seq (.ops [(o (.load true 10 (t 9)) 126), (n_ (.store 10 (t 4) (t 126))), (o (.mv (cb true)) 5)]) .ret))))))))))))))
theorem f_opd_Get : Fits Tryz.prog 68 2 c_opd_Get [(.cell true 10 4), (.tmp 5)] := fits_mk Tryz.func68 (by kernel_rfl) (by kernel_rfl) (by kernel_rfl)
theorem p_opd_Get (F : Nat) (a0 : S_geo_Geo) (a1 : (List Int)) (r : S_opd_Desc × Bool) (h : m_opd_Get F a0 a1 = some r) : PC Tryz.prog 68 [S.agg [.v (.int .i64 a0.xThreads), .v (.int .i64 a0.xSlots), .v (.int .i64 a0.xThings)], S.one (.sl (flat e_i_u64 a1) a1.length)] (S.tup [S.agg [.v (.int .i64 r.1.xStatus), .v (.int .u64 r.1.xSeq), .v (.int .u64 r.1.xL.c0), .v (.int .u64 r.1.xL.c1), .v (.int .u64 r.1.xL.c2), .v (.int .u64 r.1.xL.c3), .v (.int .i64 r.1.xReply.xErr), .v (.int .u64 r.1.xReply.xW), .v (.int .i64 r.1.xReply.xN), .sl (flat e_S_wset_Write r.1.xW) r.1.xW.length], S.one (.v (.bool r.2))]) := by
 unfold m_opd_Get at h
 refine PC_go f_opd_Get rfl rfl ?_
 intro C hP
 unfold c_opd_Get; dsimp
 apply E_seq
 apply E_ops
 refine W1 (does_box rfl rfl rfl rfl) ?_
 refine W1 (does_newv rfl rfl) ?_
 apply WM
 apply W_nil
 refine E_keep [1, 2, 4] [2, 4] ?_
 (try dsimp)
 apply E_seq
 apply E_ops
 refine WQ (does_loadA_ptr rfl rfl rfl rfl (by decide)) ?_
 obtain ⟨x1, x1h, h⟩ := of_bind h
 refine W1 (does_call1 hP (p_geo_Desc F a0 (0 : Int) x1 x1h) rfl rfl rfl) ?_
 apply WM
 refine WQ (does_ext rfl rfl) ?_
 refine WQ (does_ext rfl rfl) ?_
 apply WM
 apply WM
 apply W_nil
 refine E_keep [1, 2, 4, 7] [2, 4] ?_
 (try dsimp)
 apply E_seq
 apply E_seq
 apply E_ops
 apply WM
 refine WQ (does_int rfl rfl rfl) ?_
 apply WM
 apply W_lazy
 ·rfl
 ·intro hB; (try simp only [hB, bss, ctt]); exact does_mv rfl
 apply W_lazy
 ·rfl
 ·intro hB; (try simp only [hB, bss, ctt]); exact does_len_sl rfl
 apply W_lazy
 ·rfl
 ·intro hB; (try simp only [hB, bss, ctt]); exact does_mv rfl
 apply W_lazy
 ·rfl
 ·intro hB; (try simp only [hB, bss, ctt]); exact does_int rfl rfl rfl
 refine WQ (does_or rfl rfl rfl) ?_
 apply W_nil
 refine E_keep [1, 2, 4, 25] [2, 4] ?_
 (try dsimp)
 refine E_cond rfl (fun hc2 => ?_) (fun hc2 => ?_)
 ·replace h := of_ct h hc2
  apply E_seq
  apply E_ops
  refine WQ (does_build rfl rfl) ?_
  refine W1 (does_store rfl rfl rfl rfl rfl (Nat.le_of_ble_eq_true rfl) rfl (by decide)) ?_
  apply WM
  apply W_nil
  refine E_keep [4, 5] [4] ?_
  (try dsimp)
  refine E_ghost (Le_nilR (q := 4) rfl).b ?_
  (try dsimp)
  apply E_ret
  cases h
  (try simp only [qt, qb, qn])
  refine fin_mk (xs := _) ⟨_, _, at_whole rfl (by simp), rfl, rfl, ⟨_, rfl, rfl⟩⟩ ?_
  rfl
 ·replace h := of_cf h hc2
  apply E_skip
  refine E_keep [1, 2, 4] [2, 4] ?_
  (try dsimp)
  apply E_seq
  apply E_seq
  apply E_ops
  apply WM
  obtain ⟨g3, h⟩ := of_gd h
  refine WQ (does_idx_sl rfl rfl g3.1 g3.2) ?_
  refine WQ (does_load1_slF (k := 1) rfl (fun _ => rfl) g3 0 rfl rfl) ?_
  refine WQ (does_int rfl rfl rfl) ?_
  apply W_nil
  refine E_keep [1, 2, 4, 30] [2, 4] ?_
  (try dsimp)
  refine E_cond rfl (fun hc4 => ?_) (fun hc4 => ?_)
  ·replace h := of_ct h hc4
   obtain ⟨k5, k5d, h⟩ := of_jn h
   refine E_seqJ (α := Unit) (fun (i : Unit) => (⟨[(4, S.one (.ptr 4 0)), (5, S.one (.v (.bool ((nth a1 (7 : Int)) == (0 : Int)))))], [(4, (⟨true, [.v (.int .i64 (0 : Int)), .v (.int .u64 (0 : Int)), .v (.int .u64 (0 : Int)), .v (.int .u64 (0 : Int)), .v (.int .u64 (0 : Int)), .v (.int .u64 (0 : Int)), .v (.int .i64 (0 : Int)), .v (.int .u64 (0 : Int)), .v (.int .i64 (0 : Int)), .nil]⟩ : Reg))]⟩ : St)) (fun i => k5 () = some r) (fun i h => ?_) ?_
   ·skip
    rw [k5d] at h; dsimp only at h
    (try dsimp)
    refine E_ghost (Le_nilR (q := 4) rfl).b ?_
    (try dsimp)
    apply E_ret
    cases h
    (try simp only [qt, qb, qn])
    refine fin_mk (xs := _) ⟨_, _, at_whole rfl (by simp), rfl, rfl, ⟨_, rfl, rfl⟩⟩ ?_
    rfl
   ·
    skip
    obtain ⟨g6, h⟩ := of_gd h
    refine E_draw [0] ?_
    refine XQ 0 rfl rfl rfl (does_build rfl rfl) ?_
    refine X2 rfl ?_ ?_
    ·
     refine XK rfl ((does_mv rfl).does) ?_
     refine X2 rfl ?_ ?_
     ·
      refine XK rfl ((does_idx_sl rfl rfl g6.1 g6.2).does) ?_
      refine X2 rfl ?_ ?_
      ·
       refine XK rfl ((does_load1_slF (k := 1) rfl (fun _ => rfl) g6 0 rfl rfl).does) ?_
       refine X2 rfl ?_ ?_
       ·
        refine XK rfl ((does_int rfl rfl rfl).does) ?_
        refine X1 rfl (XT rfl rfl (does_store rfl rfl rfl rfl rfl (Nat.le_of_ble_eq_true rfl) rfl (by decide)) ?_)
        refine X1 rfl (XT rfl rfl ((does_mv rfl).does) ?_)
        refine X_nil rfl ?_
        refine ⟨(), h, ?_⟩
        exact (Le.b (le_mk ⟨rfl, rfl, trivial⟩ ⟨rfl, trivial⟩))
       ·
        refine XT rfl rfl (does_store rfl rfl rfl rfl rfl (Nat.le_of_ble_eq_true rfl) rfl (by decide)) ?_
        refine X1 rfl (XT rfl rfl ((does_int rfl rfl rfl).does) ?_)
        refine X1 rfl (XT rfl rfl ((does_mv rfl).does) ?_)
        refine X_nil rfl ?_
        refine ⟨(), h, ?_⟩
        exact (Le.b (le_mk ⟨rfl, rfl, trivial⟩ ⟨rfl, trivial⟩))
      ·
       refine XT rfl rfl (does_store rfl rfl rfl rfl rfl (Nat.le_of_ble_eq_true rfl) rfl (by decide)) ?_
       refine X1 rfl (XT rfl rfl ((does_load1_slF (k := 1) rfl (fun _ => rfl) g6 0 rfl rfl).does) ?_)
       refine X1 rfl (XT rfl rfl ((does_int rfl rfl rfl).does) ?_)
       refine X1 rfl (XT rfl rfl ((does_mv rfl).does) ?_)
       refine X_nil rfl ?_
       refine ⟨(), h, ?_⟩
       exact (Le.b (le_mk ⟨rfl, rfl, trivial⟩ ⟨rfl, trivial⟩))
     ·
      refine XT rfl rfl (does_store rfl rfl rfl rfl rfl (Nat.le_of_ble_eq_true rfl) rfl (by decide)) ?_
      refine X1 rfl (XT rfl rfl ((does_idx_sl rfl rfl g6.1 g6.2).does) ?_)
      refine X1 rfl (XT rfl rfl ((does_load1_slF (k := 1) rfl (fun _ => rfl) g6 0 rfl rfl).does) ?_)
      refine X1 rfl (XT rfl rfl ((does_int rfl rfl rfl).does) ?_)
      refine X1 rfl (XT rfl rfl ((does_mv rfl).does) ?_)
      refine X_nil rfl ?_
      refine ⟨(), h, ?_⟩
      exact (Le.b (le_mk ⟨rfl, rfl, trivial⟩ ⟨rfl, trivial⟩))
    ·
     refine XT rfl rfl (does_store rfl rfl rfl rfl rfl (Nat.le_of_ble_eq_true rfl) rfl (by decide)) ?_
     refine X1 rfl (XT rfl rfl ((does_mv rfl).does) ?_)
     refine X1 rfl (XT rfl rfl ((does_idx_sl rfl rfl g6.1 g6.2).does) ?_)
     refine X1 rfl (XT rfl rfl ((does_load1_slF (k := 1) rfl (fun _ => rfl) g6 0 rfl rfl).does) ?_)
     refine X1 rfl (XT rfl rfl ((does_int rfl rfl rfl).does) ?_)
     refine X1 rfl (XT rfl rfl ((does_mv rfl).does) ?_)
     refine X_nil rfl ?_
     refine ⟨(), h, ?_⟩
     exact (Le.b (le_mk ⟨rfl, rfl, trivial⟩ ⟨rfl, trivial⟩))
  ·replace h := of_cf h hc4
   apply E_skip
   refine E_keep [1, 2, 4] [2, 4] ?_
   (try dsimp)
   apply E_seq
   obtain ⟨g7, h⟩ := of_gd h
   obtain ⟨x8, x8h, h⟩ := of_bind h
   obtain ⟨x9, x9h, h⟩ := of_bind h
   refine E_draw [0, 1, 2, 5] ?_
   refine XQ 0 rfl rfl rfl (does_mv rfl) ?_
   refine XQ 1 rfl rfl rfl (does_idx_sl rfl rfl g7.1 g7.2) ?_
   refine XQ 2 rfl rfl rfl (does_load1_slF (k := 1) rfl (fun _ => rfl) g7 0 rfl rfl) ?_
   refine X1 rfl (XK rfl (does_call1 hP (p_opd_fields F  x8 x8h) rfl rfl rfl) ?_)
   refine X1 rfl (XK rfl (does_call1 hP (p_tag_Get F (nth a1 (0 : Int)) x8 x9 x9h) rfl rfl rfl) ?_)
   refine XQ 5 rfl rfl rfl (does_mv rfl) ?_
   refine X_nil rfl ?_
   refine E_keep [1, 2, 4, 8] [2, 4] ?_
   (try dsimp)
   apply E_seq
   obtain ⟨g10, h⟩ := of_gd h
   obtain ⟨g11, h⟩ := of_gd h
   refine E_draw [0, 1, 2, 3, 4, 5, 6, 7] ?_
   refine XQ 0 rfl rfl rfl (does_mv rfl) ?_
   refine XQ 1 rfl rfl rfl (does_idx_sl rfl rfl g10.1 g10.2) ?_
   refine XQ 2 rfl rfl rfl (does_load1_slF (k := 1) rfl (fun _ => rfl) g10 0 rfl rfl) ?_
   refine XQ 3 rfl rfl rfl (does_convI rfl) ?_
   refine XQ 4 rfl rfl rfl (does_mv rfl) ?_
   refine XQ 5 rfl rfl rfl (does_idx_sl rfl rfl g11.1 g11.2) ?_
   refine XQ 6 rfl rfl rfl (does_load1_slF (k := 1) rfl (fun _ => rfl) g11 0 rfl rfl) ?_
   refine XQ 7 rfl rfl rfl (does_build rfl rfl) ?_
   (try dsimp)
   refine X1 rfl (XK rfl (does_newv rfl rfl) ?_)
   refine X1 rfl (XT rfl rfl (does_store rfl rfl rfl rfl rfl (Nat.le_of_ble_eq_true rfl) rfl (by decide)) ?_)
   refine X_nil rfl ?_
   refine E_keep [1, 2, 4, 8, 9] [2, 4, 9] ?_
   (try dsimp)
   apply E_seq
   obtain ⟨g12, h⟩ := of_gd h
   obtain ⟨g13, h⟩ := of_gd h
   refine E_draw [0, 1, 2, 3] ?_
   refine XQ 0 rfl rfl rfl (does_add_ptr rfl rfl) ?_
   refine XQ 1 rfl rfl rfl (does_slcA_ptr rfl rfl rfl rfl (by decide) (by decide) (by decide) (List.cons_ne_nil _ _)) ?_
   refine XQ 2 rfl rfl rfl (does_mv rfl) ?_
   refine XQ 3 rfl rfl rfl (does_slc_slF rfl (fun _ => rfl) rfl rfl g12.1 g12.2.1 g12.2.2) ?_
   refine X1 rfl (XT rfl rfl (does_copyL (lit := [.v (.int .u64 (nth (cut a1 (1 : Int) ((a1.length : Nat) : Int)) 0)), .v (.int .u64 (nth (cut a1 (1 : Int) ((a1.length : Nat) : Int)) 1)), .v (.int .u64 (nth (cut a1 (1 : Int) ((a1.length : Nat) : Int)) 2)), .v (.int .u64 (nth (cut a1 (1 : Int) ((a1.length : Nat) : Int)) 3))]) rfl rfl (fun _ => rfl) (fun _ => rfl) rfl (Src.slF (cut a1 (1 : Int) ((a1.length : Nat) : Int)) (fun _ => rfl)) (Nat.le_of_ble_eq_true rfl) g13 rfl) ?_)
   refine X_nil rfl ?_
   refine E_keep [1, 2, 4, 8, 9] [2, 4, 9] ?_
   (try dsimp)
   apply E_seq
   apply E_ops
   apply WM
   obtain ⟨g14, h⟩ := of_gd h
   refine WQ (does_idx_sl rfl rfl g14.1 g14.2) ?_
   refine WQ (does_load1_slF (k := 1) rfl (fun _ => rfl) g14 0 rfl rfl) ?_
   refine WQ (does_convI rfl) ?_
   refine WQ (does_add_ptr rfl rfl) ?_
   refine WQ (does_add_ptr rfl rfl) ?_
   refine W1 (does_store rfl rfl rfl rfl rfl (Nat.le_of_ble_eq_true rfl) rfl (by decide)) ?_
   apply W_nil
   refine E_keep [1, 2, 4, 8, 9] [2, 4, 9] ?_
   (try dsimp)
   apply E_seq
   apply E_ops
   apply WM
   obtain ⟨g15, h⟩ := of_gd h
   refine WQ (does_idx_sl rfl rfl g15.1 g15.2) ?_
   refine WQ (does_load1_slF (k := 1) rfl (fun _ => rfl) g15 0 rfl rfl) ?_
   refine WQ (does_convI rfl) ?_
   apply WM
   apply W_nil
   refine E_keep [1, 2, 4, 9, 10] [2, 4, 9] ?_
   (try dsimp)
   apply E_seq
   apply E_seq
   apply E_ops
   apply WM
   refine WQ (does_int rfl rfl rfl) ?_
   apply W_nil
   refine E_keep [1, 2, 4, 9, 10, 65] [2, 4, 9] ?_
   (try dsimp)
   refine E_cond rfl (fun hc16 => ?_) (fun hc16 => ?_)
   ·replace h := of_ct h hc16
    apply E_seq
    apply E_ops
    refine WQ (does_build rfl rfl) ?_
    refine W1 (does_store rfl rfl rfl rfl rfl (Nat.le_of_ble_eq_true rfl) rfl (by decide)) ?_
    apply WM
    apply W_nil
    refine E_keep [4, 5] [4] ?_
    (try dsimp)
    refine E_ghost (Le_nilR (q := 4) rfl).b ?_
    (try dsimp)
    apply E_ret
    cases h
    (try simp only [qt, qb, qn])
    refine fin_mk (xs := _) ⟨_, _, at_whole rfl (by simp), rfl, rfl, ⟨_, rfl, rfl⟩⟩ ?_
    rfl
   ·replace h := of_cf h hc16
    apply E_skip
    refine E_keep [1, 2, 4, 9, 10] [2, 4, 9] ?_
    (try dsimp)
    obtain ⟨k19, k19d, h⟩ := of_jn h
    refine E_seqJ (α := Int × Int) (fun (i : Int × Int) => (⟨[(1, S.one (.sl (flat e_i_u64 a1) a1.length)), (2, S.one (.ptr 2 0)), (4, S.one (.ptr 4 0)), (9, S.one (.ptr 9 0)), (10, S.one (.v (.int .i64 (IntKind.i64.wrap (nth x9 (2 : Int))))))], [(2, (⟨true, [.v (.int .i64 a0.xThreads), .v (.int .i64 a0.xSlots), .v (.int .i64 a0.xThings)]⟩ : Reg)), (4, (⟨true, [.v (.int .i64 (0 : Int)), .v (.int .u64 (0 : Int)), .v (.int .u64 (0 : Int)), .v (.int .u64 (0 : Int)), .v (.int .u64 (0 : Int)), .v (.int .u64 (0 : Int)), .v (.int .i64 (0 : Int)), .v (.int .u64 (0 : Int)), .v (.int .i64 (0 : Int)), .nil]⟩ : Reg)), (9, (⟨true, [.v (.int .i64 (IntKind.i64.wrap (nth x9 (0 : Int)))), .v (.int .u64 (nth x9 (3 : Int))), .v (.int .u64 (nth (cut a1 (1 : Int) ((a1.length : Nat) : Int)) 0)), .v (.int .u64 (nth (cut a1 (1 : Int) ((a1.length : Nat) : Int)) 1)), .v (.int .u64 (nth (cut a1 (1 : Int) ((a1.length : Nat) : Int)) 2)), .v (.int .u64 (nth (cut a1 (1 : Int) ((a1.length : Nat) : Int)) 3)), .v (.int .i64 (IntKind.i64.wrap (nth x9 (1 : Int)))), .v (.int .u64 i.1), .v (.int .i64 i.2), .nil]⟩ : Reg))]⟩ : St)) (fun i => k19 i.1 i.2 = some r) (fun i h => ?_) ?_
    ·obtain ⟨v17, v18⟩ := i
     rw [k19d] at h; dsimp only at h
     (try dsimp)
     obtain ⟨k21, k21d, h⟩ := of_jn h
     refine E_seqJ (α := (List S_wset_Write)) (fun (i : (List S_wset_Write)) => (⟨[(1, S.one (.sl (flat e_i_u64 a1) a1.length)), (2, S.one (.ptr 2 0)), (4, S.one (.ptr 4 0)), (9, S.one (.ptr 9 0))], [(2, (⟨true, [.v (.int .i64 a0.xThreads), .v (.int .i64 a0.xSlots), .v (.int .i64 a0.xThings)]⟩ : Reg)), (4, (⟨true, [.v (.int .i64 (0 : Int)), .v (.int .u64 (0 : Int)), .v (.int .u64 (0 : Int)), .v (.int .u64 (0 : Int)), .v (.int .u64 (0 : Int)), .v (.int .u64 (0 : Int)), .v (.int .i64 (0 : Int)), .v (.int .u64 (0 : Int)), .v (.int .i64 (0 : Int)), .nil]⟩ : Reg)), (9, (⟨false, [.v (.int .i64 (IntKind.i64.wrap (nth x9 (0 : Int)))), .v (.int .u64 (nth x9 (3 : Int))), .v (.int .u64 (nth (cut a1 (1 : Int) ((a1.length : Nat) : Int)) 0)), .v (.int .u64 (nth (cut a1 (1 : Int) ((a1.length : Nat) : Int)) 1)), .v (.int .u64 (nth (cut a1 (1 : Int) ((a1.length : Nat) : Int)) 2)), .v (.int .u64 (nth (cut a1 (1 : Int) ((a1.length : Nat) : Int)) 3)), .v (.int .i64 (IntKind.i64.wrap (nth x9 (1 : Int)))), .v (.int .u64 v17), .v (.int .i64 v18), .own 1112 0 i.length (some (2, 154))]⟩ : Reg)), (1112, (⟨true, flat e_S_wset_Write i⟩ : Reg))]⟩ : St)) (fun i => k21 i = some r) (fun i h => ?_) ?_
     ·let iv := i; change k21 i = some r at h; generalize i = v20 at h ⊢
      rw [k21d] at h; dsimp only at h
      (try dsimp)
      apply E_seq
      apply E_seq
      apply E_ops
      refine WQ (does_loadA_ptr rfl rfl rfl rfl (by decide)) ?_
      refine WQ (does_loadA_ptr rfl rfl rfl rfl (by decide)) ?_
      obtain ⟨x22, x22h, h⟩ := of_bind h
      refine W1 (does_callB hP (p_opd_Good F a0 (⟨(IntKind.i64.wrap (nth x9 (0 : Int))), (nth x9 (3 : Int)), (⟨(nth (cut a1 (1 : Int) ((a1.length : Nat) : Int)) 0), (nth (cut a1 (1 : Int) ((a1.length : Nat) : Int)) 1), (nth (cut a1 (1 : Int) ((a1.length : Nat) : Int)) 2), (nth (cut a1 (1 : Int) ((a1.length : Nat) : Int)) 3)⟩ : V4 Int), (⟨(IntKind.i64.wrap (nth x9 (1 : Int))), v17, v18⟩ : S_state_Reply), v20⟩ : S_opd_Desc) x22 x22h) rfl rfl) ?_
      refine WQ (does_not rfl) ?_
      apply WM
      apply W_lazy
      ·rfl
      ·intro hB; (try simp only [hB, bss, ctt]); exact does_mv rfl
      obtain ⟨g23, h⟩ := of_gd h
      apply W_lazy
      ·rfl
      ·intro hB; (try simp only [hB, bss, ctt]); exact does_idx_sl rfl rfl (g23 hB).1 (g23 hB).2
      apply W_lazy
      ·rfl
      ·intro hB; (try simp only [hB, bss, ctt]); exact does_load1_slF (k := 1) rfl (fun _ => rfl) (g23 hB) 0 rfl rfl
      apply W_lazy
      ·rfl
      ·intro hB; (try simp only [hB, bss, ctt]); exact does_int rfl rfl rfl
      refine WQ (does_or rfl rfl rfl) ?_
      apply W_nil
      refine E_keep [4, 9, 124] [4, 9, 1112] ?_
      (try dsimp)
      refine E_cond rfl (fun hc24 => ?_) (fun hc24 => ?_)
      ·replace h := of_ct h hc24
       apply E_seq
       apply E_ops
       refine WQ (does_build rfl rfl) ?_
       refine W1 (does_store rfl rfl rfl rfl rfl (Nat.le_of_ble_eq_true rfl) rfl (by decide)) ?_
       apply WM
       apply W_nil
       refine E_keep [4, 5] [4] ?_
       (try dsimp)
       refine E_ghost (Le_nilR (q := 4) rfl).b ?_
       (try dsimp)
       apply E_ret
       cases h
       (try simp only [qt, qb, qn])
       refine fin_mk (xs := _) ⟨_, _, at_whole rfl (by simp), rfl, rfl, ⟨_, rfl, rfl⟩⟩ ?_
       rfl
      ·replace h := of_cf h hc24
       apply E_skip
       refine E_keep [4, 9] [4, 9, 1112] ?_
       (try dsimp)
       apply E_seq
       apply E_ops
       refine WQ (does_loadA_ptr rfl rfl rfl rfl (by decide)) ?_
       refine W1 (does_store rfl rfl rfl rfl rfl (Nat.le_of_ble_eq_true rfl) rfl (by decide)) ?_
       apply WM
       apply W_nil
       refine E_keep [4, 5] [4, 1112] ?_
       (try dsimp)
       refine E_ghost (Le_frz (r := 1112) rfl rfl).b ?_
       (try dsimp)
       apply E_ret
       cases h
       (try simp only [qt, qb, qn])
       refine fin_mk (xs := _) ⟨_, _, at_whole rfl (by simp), rfl, rfl, ⟨_, rfl, rfl⟩⟩ ?_
       rfl
     ·
      skip
      apply E_seq
      apply E_ops
      apply WM
      apply WM
      apply W_nil
      refine E_keep [1, 2, 4, 9, 86, 87] [2, 4, 9] ?_
      (try dsimp)
      apply E_block
      (try dsimp)
      refine E_loopB (α := Int × (List S_wset_Write)) (fun (i : Int × (List S_wset_Write)) => (⟨[(1, S.one (.sl (flat e_i_u64 a1) a1.length)), (2, S.one (.ptr 2 0)), (4, S.one (.ptr 4 0)), (9, S.one (.ptr 9 0)), (86, S.one (.v (.int .i64 (IntKind.i64.wrap (nth x9 (2 : Int)))))), (87, S.one (.v (.int .i64 i.1)))], [(2, (⟨true, [.v (.int .i64 a0.xThreads), .v (.int .i64 a0.xSlots), .v (.int .i64 a0.xThings)]⟩ : Reg)), (4, (⟨true, [.v (.int .i64 (0 : Int)), .v (.int .u64 (0 : Int)), .v (.int .u64 (0 : Int)), .v (.int .u64 (0 : Int)), .v (.int .u64 (0 : Int)), .v (.int .u64 (0 : Int)), .v (.int .i64 (0 : Int)), .v (.int .u64 (0 : Int)), .v (.int .i64 (0 : Int)), .nil]⟩ : Reg)), (9, (⟨false, [.v (.int .i64 (IntKind.i64.wrap (nth x9 (0 : Int)))), .v (.int .u64 (nth x9 (3 : Int))), .v (.int .u64 (nth (cut a1 (1 : Int) ((a1.length : Nat) : Int)) 0)), .v (.int .u64 (nth (cut a1 (1 : Int) ((a1.length : Nat) : Int)) 1)), .v (.int .u64 (nth (cut a1 (1 : Int) ((a1.length : Nat) : Int)) 2)), .v (.int .u64 (nth (cut a1 (1 : Int) ((a1.length : Nat) : Int)) 3)), .v (.int .i64 (IntKind.i64.wrap (nth x9 (1 : Int)))), .v (.int .u64 v17), .v (.int .i64 v18), .own 1112 0 i.2.length (some (2, 154))]⟩ : Reg)), (1112, (⟨true, flat e_S_wset_Write i.2⟩ : Reg))]⟩ : St)) (fun n i => m_opd_Get_l0 F a1 x9 k21 n i.1 i.2 = some r) F ((0 : Int), ([] : List S_wset_Write)) h ?_ (fun n i h => ?_)
      ·
       refine LeB_trans (LeB_nilownB (q := 9) (j := 9) (r := 1112) 2 154 rfl rfl rfl rfl) ?_
       exact (Le.b (le_mk ⟨rfl, rfl, rfl, rfl, rfl, rfl, trivial⟩ ⟨rfl, rfl, rfl, rfl, trivial⟩))
      obtain ⟨v49, v50⟩ := i; dsimp only at h
      cases n with
      | zero => cases h
      | succ n51 =>
       unfold m_opd_Get_l0 at h
       (try dsimp)
       apply E_seq
       apply E_ops
       refine WQ (does_int rfl rfl rfl) ?_
       apply W_nil
       (try dsimp)
       apply E_seq
       refine E_cond rfl (fun hc52 => ?_) (fun hc52 => ?_)
       ·replace h := of_ct h hc52
        apply E_skip
        refine E_keep [1, 2, 4, 9, 86, 87] [2, 4, 9, 1112] ?_
        (try dsimp)
        apply E_seq
        apply E_block
        apply E_seq
        apply E_ops
        apply WM
        apply WM
        apply W_nil
        refine E_keep [1, 2, 4, 9, 11, 86, 87] [2, 4, 9, 1112] ?_
        (try dsimp)
        apply E_seq
        apply E_ops
        apply WM
        apply WM
        obtain ⟨g53, h⟩ := of_gd h
        refine WQ (does_mul rfl rfl g53.1 g53.2) ?_
        obtain ⟨g54, h⟩ := of_gd h
        refine WQ (does_add rfl rfl g54.1 g54.2) ?_
        obtain ⟨g55, h⟩ := of_gd h
        refine WQ (does_idx_sl rfl rfl g55.1 g55.2) ?_
        refine WQ (does_load1_slF (k := 1) rfl (fun _ => rfl) g55 0 rfl rfl) ?_
        apply WM
        apply W_nil
        refine E_keep [1, 2, 4, 9, 11, 12, 86, 87] [2, 4, 9, 1112] ?_
        (try dsimp)
        apply E_seq
        apply E_seq
        apply E_ops
        apply WM
        refine WQ (does_int rfl rfl rfl) ?_
        apply W_nil
        refine E_keep [1, 2, 4, 9, 11, 12, 86, 87, 97] [2, 4, 9, 1112] ?_
        (try dsimp)
        refine E_cond rfl (fun hc56 => ?_) (fun hc56 => ?_)
        ·replace h := of_ct h hc56
         apply E_seq
         apply E_ops
         refine WQ (does_build rfl rfl) ?_
         refine W1 (does_store rfl rfl rfl rfl rfl (Nat.le_of_ble_eq_true rfl) rfl (by decide)) ?_
         apply WM
         apply W_nil
         refine E_keep [4, 5] [4] ?_
         (try dsimp)
         refine E_ghost (Le_nilR (q := 4) rfl).b ?_
         (try dsimp)
         apply E_ret
         cases h
         (try simp only [qt, qb, qn])
         refine fin_mk (xs := _) ⟨_, _, at_whole rfl (by simp), rfl, rfl, ⟨_, rfl, rfl⟩⟩ ?_
         rfl
        ·replace h := of_cf h hc56
         apply E_skip
         refine E_keep [1, 2, 4, 9, 11, 12, 86, 87] [2, 4, 9, 1112] ?_
         (try dsimp)
         obtain ⟨g57, h⟩ := of_gd h
         obtain ⟨g58, h⟩ := of_gd h
         obtain ⟨g59, h⟩ := of_gd h
         obtain ⟨g60, h⟩ := of_gd h
         obtain ⟨g61, h⟩ := of_gd h
         refine E_draw [0, 1, 2, 3, 4, 7, 8, 9, 10, 11] ?_
         refine XQ 0 rfl rfl rfl (does_add_ptr rfl rfl) ?_
         refine XQ 1 rfl rfl rfl (does_load1_ptr rfl rfl rfl) ?_
         refine XQ 2 rfl rfl rfl (does_mv rfl) ?_
         refine XQ 3 rfl rfl rfl (does_convI rfl) ?_
         refine XQ 4 rfl rfl rfl (does_mv rfl) ?_
         refine X1 rfl (XK rfl ((does_mv rfl).does) ?_)
         refine X1 rfl (XK rfl ((does_mul rfl rfl g57.1 g57.2).does) ?_)
         refine XQ 7 rfl rfl rfl (does_add rfl rfl g58.1 g58.2) ?_
         refine XQ 8 rfl rfl rfl (does_add rfl rfl g59.1 g59.2) ?_
         refine XQ 9 rfl rfl rfl (does_idx_sl rfl rfl g60.1 g60.2) ?_
         refine XQ 10 rfl rfl rfl (does_load1_slF (k := 1) rfl (fun _ => rfl) g60 0 rfl rfl) ?_
         refine XQ 11 rfl rfl rfl (does_build rfl rfl) ?_
         refine X1 rfl (XK rfl (does_bslice rfl rfl rfl rfl) ?_)
         refine X1 rfl (XT rfl rfl (does_appF (e := e_S_wset_Write) rfl rfl (fun _ => rfl) (fun _ => rfl) rfl (Src.lit (e := e_S_wset_Write) ([(⟨(IntKind.i64.wrap (nth a1 ((8 : Int) + ((2 : Int) * v49)))), (nth a1 (((8 : Int) + ((2 : Int) * v49)) + (1 : Int)))⟩ : S_wset_Write)] : List S_wset_Write) rfl (fun _ => rfl) rfl rfl) g61 rfl) ?_)
         refine X1 rfl (XT rfl rfl ((does_add_ptr rfl rfl).does) ?_)
         refine X1 rfl (XT rfl rfl (does_store rfl rfl rfl rfl rfl (Nat.le_of_ble_eq_true rfl) rfl (by decide)) ?_)
         refine X_nil rfl ?_
         refine E_keep [1, 2, 4, 9, 86, 87] [2, 4, 9, 1112] ?_
         (try dsimp)
         apply E_ops
         obtain ⟨g62, h⟩ := of_gd h
         refine WQ (does_add rfl rfl g62.1 g62.2) ?_
         apply WM
         apply W_nil
         refine ⟨n51, ((v49 + (1 : Int)), (v50 ++ ([(⟨(IntKind.i64.wrap (nth a1 ((8 : Int) + ((2 : Int) * v49)))), (nth a1 (((8 : Int) + ((2 : Int) * v49)) + (1 : Int)))⟩ : S_wset_Write)] : List S_wset_Write))), Nat.lt_succ_self _, h, ?_⟩
         exact (Le.b (le_mk ⟨rfl, rfl, rfl, rfl, rfl, rfl, trivial⟩ ⟨rfl, rfl, rfl, rfl, trivial⟩))
       ·replace h := of_cf h hc52
        apply E_exit
        refine ⟨v50, h, ?_⟩
        exact (Le.b (le_mk ⟨rfl, rfl, rfl, rfl, trivial⟩ ⟨rfl, rfl, rfl, rfl, trivial⟩))
    ·
     skip
     apply E_seq
     apply E_ops
     refine WQ (does_add_ptr rfl rfl) ?_
     refine WQ (does_load1_ptr rfl rfl rfl) ?_
     refine WQ (does_int rfl rfl rfl) ?_
     apply W_nil
     refine E_keep [1, 2, 4, 9, 10, 69] [2, 4, 9] ?_
     (try dsimp)
     refine E_cond rfl (fun hc63 => ?_) (fun hc63 => ?_)
     ·replace h := of_ct h hc63
      apply E_seq
      apply E_seq
      apply E_ops
      apply WM
      obtain ⟨g64, h⟩ := of_gd h
      refine WQ (does_idx_sl rfl rfl g64.1 g64.2) ?_
      refine WQ (does_load1_slF (k := 1) rfl (fun _ => rfl) g64 0 rfl rfl) ?_
      refine WQ (does_int rfl rfl rfl) ?_
      apply W_nil
      refine E_keep [1, 2, 4, 9, 10, 73] [2, 4, 9] ?_
      (try dsimp)
      refine E_cond rfl (fun hc65 => ?_) (fun hc65 => ?_)
      ·replace h := of_ct h hc65
       apply E_seq
       apply E_ops
       refine WQ (does_build rfl rfl) ?_
       refine W1 (does_store rfl rfl rfl rfl rfl (Nat.le_of_ble_eq_true rfl) rfl (by decide)) ?_
       apply WM
       apply W_nil
       refine E_keep [4, 5] [4] ?_
       (try dsimp)
       refine E_ghost (Le_nilR (q := 4) rfl).b ?_
       (try dsimp)
       apply E_ret
       cases h
       (try simp only [qt, qb, qn])
       refine fin_mk (xs := _) ⟨_, _, at_whole rfl (by simp), rfl, rfl, ⟨_, rfl, rfl⟩⟩ ?_
       rfl
      ·replace h := of_cf h hc65
       apply E_skip
       refine E_keep [1, 2, 4, 9, 10] [2, 4, 9] ?_
       (try dsimp)
       obtain ⟨g66, h⟩ := of_gd h
       obtain ⟨g67, h⟩ := of_gd h
       refine E_draw [0, 1, 2, 3, 4, 5, 7, 8] ?_
       refine XQ 0 rfl rfl rfl (does_mv rfl) ?_
       refine XQ 1 rfl rfl rfl (does_idx_sl rfl rfl g66.1 g66.2) ?_
       refine XQ 2 rfl rfl rfl (does_load1_slF (k := 1) rfl (fun _ => rfl) g66 0 rfl rfl) ?_
       refine XQ 3 rfl rfl rfl (does_mv rfl) ?_
       refine XQ 4 rfl rfl rfl (does_idx_sl rfl rfl g67.1 g67.2) ?_
       refine XQ 5 rfl rfl rfl (does_load1_slF (k := 1) rfl (fun _ => rfl) g67 0 rfl rfl) ?_
       refine XQ 7 rfl rfl rfl (does_add_ptr rfl rfl) ?_
       refine XQ 8 rfl rfl rfl (does_add_ptr rfl rfl) ?_
       (try dsimp)
       refine X2 rfl ?_ ?_
       ·
        refine XK rfl ((does_convI rfl).does) ?_
        refine X1 rfl (XT rfl rfl (does_store rfl rfl rfl rfl rfl (Nat.le_of_ble_eq_true rfl) rfl (by decide)) ?_)
        refine X1 rfl (XT rfl rfl ((does_add_ptr rfl rfl).does) ?_)
        refine X1 rfl (XT rfl rfl ((does_add_ptr rfl rfl).does) ?_)
        refine X1 rfl (XT rfl rfl (does_store rfl rfl rfl rfl rfl (Nat.le_of_ble_eq_true rfl) rfl (by decide)) ?_)
        refine X_nil rfl ?_
        refine ⟨((nth a1 (5 : Int)), (IntKind.i64.wrap (nth a1 (6 : Int)))), h, ?_⟩
        exact (Le.b (le_mk ⟨rfl, rfl, rfl, rfl, rfl, trivial⟩ ⟨rfl, rfl, rfl, trivial⟩))
       ·
        refine XT rfl rfl (does_store rfl rfl rfl rfl rfl (Nat.le_of_ble_eq_true rfl) rfl (by decide)) ?_
        refine X1 rfl (XT rfl rfl ((does_convI rfl).does) ?_)
        refine X1 rfl (XT rfl rfl ((does_add_ptr rfl rfl).does) ?_)
        refine X1 rfl (XT rfl rfl ((does_add_ptr rfl rfl).does) ?_)
        refine X1 rfl (XT rfl rfl (does_store rfl rfl rfl rfl rfl (Nat.le_of_ble_eq_true rfl) rfl (by decide)) ?_)
        refine X_nil rfl ?_
        refine ⟨((nth a1 (5 : Int)), (IntKind.i64.wrap (nth a1 (6 : Int)))), h, ?_⟩
        exact (Le.b (le_mk ⟨rfl, rfl, rfl, rfl, rfl, trivial⟩ ⟨rfl, rfl, rfl, trivial⟩))
     ·replace h := of_cf h hc63
      apply E_skip
      refine ⟨((0 : Int), (0 : Int)), h, ?_⟩
      exact (Le.b (le_mk ⟨rfl, rfl, rfl, rfl, rfl, trivial⟩ ⟨rfl, rfl, rfl, trivial⟩))
/- slices.Clone[[]uint64,uint64] -/
def c_slices_Clone_uint64 : VCode := (.seq (.ops [(o (.mv cn) 2)]) (.seq (.seq (.ops [(w 3 0), (o (.bin .eql 36 (t 3) cn) 4)]) (.cond (t 4) (.seq (.ops [(o (.mv cn) 2)]) .ret) .skip)) (.seq (.ops [(o (.bslice 1 42 0 [] []) 5), (w 6 0), (o (.app 36 42 1 8 (t 5) (t 6)) 7), (w 2 7)]) .ret)))
theorem f_slices_Clone_uint64 : Fits Tryz.prog 83 1 c_slices_Clone_uint64 [(.tmp 2)] := fits_mk Tryz.func83 (by kernel_rfl) (by kernel_rfl) (by kernel_rfl)
theorem oc_slices_Clone_uint64 (l : List Int) (g : l.length * 8 ≤ 140737488355328) : OC Tryz.prog 83 [S.one (.sl (flat e_i_u64 l) l.length)] 1 42 l.length (flat e_i_u64 l) := by
  unfold OC
  refine AC_go f_slices_Clone_uint64 rfl ?_
  intro C hP
  unfold c_slices_Clone_uint64; dsimp
  refine E_seq ?_
  refine E_ops ?_
  refine WQ (does_mv rfl) ?_
  refine W_nil ?_
  dsimp only [QThen, QBlock, Nat.reduceBEq, cond_true, cond_false]
  refine E_keep [0] [] ?_
  dsimp
  refine E_seq ?_
  refine E_seq ?_
  refine E_ops ?_
  refine WQ (does_mv rfl) ?_
  refine W_do (does_eqNil (e := 42) (by rw [hP]; exact Tryz.underlying36) rfl rfl) ?_
  rintro s' ⟨b, rfl, hb⟩
  refine W_nil ?_
  dsimp only [QThen, QBlock, Nat.reduceBEq, cond_true, cond_false]
  refine E_keep [0, 4] [] ?_
  dsimp
  refine E_cond rfl (fun hc => ?_) (fun hc => ?_)
  · refine E_seq ?_
    refine E_ops ?_
    refine WQ (does_mv rfl) ?_
    refine W_nil ?_
    dsimp only [QThen, QBlock, Nat.reduceBEq, cond_true, cond_false]
    refine E_keep [2] [] ?_
    dsimp
    obtain rfl : l = [] := List.eq_nil_of_length_eq_zero (hb hc)
    refine E_ghost (LeB_nilown (i := 2) (r := 5) 1 42 rfl rfl) ?_
    dsimp
    refine E_ret ?_
    (try dsimp only [QThen, QBlock, Nat.reduceBEq, cond_true, cond_false])
    refine fin_mk (xs := _) ⟨_, rfl, rfl⟩ ?_
    exact ⟨5, rfl, rfl⟩
  · refine E_skip ?_
    dsimp only [QThen, QBlock, Nat.reduceBEq, cond_true, cond_false]
    refine E_keep [0] [] ?_
    dsimp
    refine E_seq ?_
    refine E_ops ?_
    refine W1 (does_bslice rfl rfl rfl rfl) ?_
    refine WQ (does_mv rfl) ?_
    refine W_ghost (Le_reg (r := 5) (g' := ⟨true, flat e_i_u64 ([] : List Int)⟩) rfl rfl).b ?_
    dsimp
    refine W1 (does_appF (e := e_i_u64) (l := ([] : List Int)) rfl rfl (fun _ => rfl) (fun _ => rfl) rfl (Src.slF l (fun _ => rfl)) (by simpa using g) rfl) ?_
    refine WQ (does_mv rfl) ?_
    refine W_nil ?_
    dsimp only [QThen, QBlock, Nat.reduceBEq, cond_true, cond_false]
    refine E_keep [2] [5] ?_
    dsimp
    refine E_ret ?_
    (try dsimp only [QThen, QBlock, Nat.reduceBEq, cond_true, cond_false])
    refine fin_mk (xs := _) ⟨_, rfl, rfl⟩ ?_
    exact ⟨5, rfl, rfl⟩
/- reeve/wset.Do -/
def c_wset_Do : VCode := (.seq (.ops [(o (.mv cn) 4)]) (.seq (.ops [(w 8 0), (o (.call 83 [(t 8)]) 9), (w 5 9)]) (.seq (.seq (.ops [(w 10 1), (o (.len false (t 10)) 11), (o (.mv (ci 0)) 12)]) (.block 0 (.loop (.seq (.ops [(o (.bin .lss 3 (t 12) (t 11)) 13)]) (.seq (.cond (t 13) .skip (.exit 0)) (.seq (.block 1 (.seq (.ops [(o (.idxS 2 (t 10) (t 12)) 14), (o (.load true 2 (t 14)) 15), (o (.newv [zi, zu]) 7), (n_ (.store 2 (t 7) (t 15)))]) (.seq (.ops [(o (.add 0 (t 7)) 16), (o (.load false 1 (t 16)) 17), (o (.bin .geq 3 (t 17) (ci 0)) 18), (w 19 18), (g_ (.add 0 (t 7)) 20 19 true), (g_ (.load false 1 (t 20)) 21 19 true), (g_ (.mv (t 5)) 22 19 true), (g_ (.len false (t 22)) 23 19 true), (g_ (.bin .lss 3 (t 21) (t 23)) 24 19 true), (o (.pick (t 19) (t 24) (cb false)) 25)]) (.cond (t 25) (.ops [(w 26 5), (o (.add 0 (t 7)) 27), (o (.load false 1 (t 27)) 28), (o (.add 1 (t 7)) 29), (o (.load false 1 (t 29)) 30), (o (.idxS 1 (t 26) (t 28)) 31), (n_ (.store 1 (t 31) (t 30)))]) .skip)))) (.ops [(o (.bin .add 3 (t 12) (ci 1)) 32), (w 12 32)]))))))) (.seq (.ops [(w 33 5), (w 4 33)]) .ret))))
theorem f_wset_Do : Fits Tryz.prog 53 2 c_wset_Do [(.tmp 4)] := fits_mk Tryz.func53 (by kernel_rfl) (by kernel_rfl) (by kernel_rfl)
theorem p_wset_Do (F : Nat) (a0 : (List Int)) (a1 : (List S_wset_Write)) (r : (List Int)) (h : m_wset_Do F a0 a1 = some r) : PC Tryz.prog 53 [S.one (.sl (flat e_i_u64 a0) a0.length), S.one (.sl (flat e_S_wset_Write a1) a1.length)] (S.one (.sl (flat e_i_u64 r) r.length)) := by
 unfold m_wset_Do at h
 refine PC_go f_wset_Do rfl rfl ?_
 intro C hP
 unfold c_wset_Do; dsimp
 apply E_seq
 apply E_ops
 apply WM
 apply W_nil
 refine E_keep [0, 1] [] ?_
 (try dsimp)
 apply E_seq
 apply E_ops
 apply WM
 obtain ⟨g1, h⟩ := of_gd h
 refine W1 (does_callF hP (oc_slices_Clone_uint64 a0 g1) rfl rfl rfl) ?_
 apply WM
 apply W_nil
 refine E_keep [1, 5] [9] ?_
 (try dsimp)
 obtain ⟨k3, k3d, h⟩ := of_jn h
 refine E_seqJ (α := (List Int)) (fun (i : (List Int)) => (⟨[(5, S.one (.own 9 0 i.length (some (1, 42))))], [(9, (⟨true, flat e_i_u64 i⟩ : Reg))]⟩ : St)) (fun i => k3 i = some r) (fun i h => ?_) ?_
 ·let iv := i; change k3 i = some r at h; generalize i = v2 at h ⊢
  rw [k3d] at h; dsimp only at h
  (try dsimp)
  apply E_seq
  apply E_ops
  apply WM
  apply WM
  apply W_nil
  refine E_keep [4] [9] ?_
  (try dsimp)
  refine E_ghost (Le_frz (r := 9) rfl rfl).b ?_
  (try dsimp)
  apply E_ret
  cases h
  (try simp only [qt, qb, qn])
  refine fin_mk (xs := _) ⟨_, rfl, rfl⟩ ?_
  rfl
 ·
  skip
  apply E_seq
  apply E_ops
  apply WM
  refine WQ (does_len_sl rfl) ?_
  apply WM
  apply W_nil
  refine E_keep [5, 10, 11, 12] [9] ?_
  (try dsimp)
  apply E_block
  (try dsimp)
  refine E_loopB (α := Int × (List Int)) (fun (i : Int × (List Int)) => (⟨[(5, S.one (.own 9 0 i.2.length (some (1, 42)))), (10, S.one (.sl (flat e_S_wset_Write a1) a1.length)), (11, S.one (.v (.int .i64 ((a1.length : Nat) : Int)))), (12, S.one (.v (.int .i64 i.1)))], [(9, (⟨true, flat e_i_u64 i.2⟩ : Reg))]⟩ : St)) (fun n i => m_wset_Do_l0 F a1 k3 n i.1 i.2 = some r) F ((0 : Int), a0) h ?_ (fun n i h => ?_)
  ·
   exact (Le.b (le_mk ⟨rfl, rfl, rfl, rfl, trivial⟩ ⟨rfl, trivial⟩))
  obtain ⟨v20, v21⟩ := i; dsimp only at h
  cases n with
  | zero => cases h
  | succ n22 =>
   unfold m_wset_Do_l0 at h
   (try dsimp)
   apply E_seq
   apply E_ops
   refine WQ (does_int rfl rfl rfl) ?_
   apply W_nil
   (try dsimp)
   apply E_seq
   refine E_cond rfl (fun hc23 => ?_) (fun hc23 => ?_)
   ·replace h := of_ct h hc23
    apply E_skip
    refine E_keep [5, 10, 11, 12] [9] ?_
    (try dsimp)
    obtain ⟨k25, k25d, h⟩ := of_jn h
    refine E_seqJ (α := (List Int)) (fun (i : (List Int)) => (⟨[(5, S.one (.own 9 0 i.length (some (1, 42)))), (10, S.one (.sl (flat e_S_wset_Write a1) a1.length)), (11, S.one (.v (.int .i64 ((a1.length : Nat) : Int)))), (12, S.one (.v (.int .i64 v20)))], [(9, (⟨true, flat e_i_u64 i⟩ : Reg))]⟩ : St)) (fun i => k25 i = some r) (fun i h => ?_) ?_
    ·let iv := i; change k25 i = some r at h; generalize i = v24 at h ⊢
     rw [k25d] at h; dsimp only at h
     (try dsimp)
     apply E_ops
     obtain ⟨g26, h⟩ := of_gd h
     refine WQ (does_add rfl rfl g26.1 g26.2) ?_
     apply WM
     apply W_nil
     refine ⟨n22, ((v20 + (1 : Int)), v24), Nat.lt_succ_self _, h, ?_⟩
     exact (Le.b (le_mk ⟨rfl, rfl, rfl, rfl, trivial⟩ ⟨rfl, trivial⟩))
    ·
     skip
     apply E_block
     apply E_seq
     apply E_ops
     obtain ⟨g27, h⟩ := of_gd h
     refine WQ (does_idx_sl rfl rfl g27.1 g27.2) ?_
     refine WQ (does_loadA_slF (k := 2) rfl (fun _ => rfl) g27 0 rfl rfl rfl) ?_
     refine W1 (does_newv rfl rfl) ?_
     refine W1 (does_store rfl rfl rfl rfl rfl (Nat.le_of_ble_eq_true rfl) rfl (by decide)) ?_
     apply W_nil
     refine E_keep [5, 7, 10, 11, 12] [7, 9] ?_
     (try dsimp)
     apply E_seq
     apply E_ops
     refine WQ (does_add_ptr rfl rfl) ?_
     refine WQ (does_load1_ptr rfl rfl rfl) ?_
     refine WQ (does_int rfl rfl rfl) ?_
     apply WM
     apply W_lazy
     ·rfl
     ·intro hB; (try simp only [hB, bss, ctt]); exact does_add_ptr rfl rfl
     apply W_lazy
     ·rfl
     ·intro hB; (try simp only [hB, bss, ctt]); exact does_load1_ptr rfl rfl rfl
     apply W_lazy
     ·rfl
     ·intro hB; (try simp only [hB, bss, ctt]); exact does_mv rfl
     apply W_lazy
     ·rfl
     ·intro hB; (try simp only [hB, bss, ctt]); exact does_len_own rfl rfl
     apply W_lazy
     ·rfl
     ·intro hB; (try simp only [hB, bss, ctt]); exact does_int rfl rfl rfl
     refine WQ (does_and rfl rfl rfl) ?_
     apply W_nil
     refine E_keep [5, 7, 10, 11, 12, 25] [7, 9] ?_
     (try dsimp)
     refine E_cond rfl (fun hc28 => ?_) (fun hc28 => ?_)
     ·replace h := of_ct h hc28
      apply E_ops
      apply WM
      refine WQ (does_add_ptr rfl rfl) ?_
      refine WQ (does_load1_ptr rfl rfl rfl) ?_
      refine WQ (does_add_ptr rfl rfl) ?_
      refine WQ (does_load1_ptr rfl rfl rfl) ?_
      obtain ⟨g29, h⟩ := of_gd h
      refine WQ (does_idx_own rfl rfl rfl g29.1 g29.2) ?_
      refine W1 (does_store_rgF (e := e_i_u64) (n := 1) (k := 1) rfl rfl (fun _ => rfl) g29 0 (by omega) rfl rfl rfl (by decide) ((nth a1 v20).xV) rfl (by decide) rfl) ?_
      apply W_nil
      refine ⟨(setn v21 ((nth a1 v20).xAt) ((nth a1 v20).xV)), h, ?_⟩
      refine LeB_trans (Le_ownlen (i := 5) _ rfl (by simp [setn_length, cpy_length, sortI_length] : v21.length = (setn v21 ((nth a1 v20).xAt) ((nth a1 v20).xV)).length)).b ?_
      exact (Le.b (le_mk ⟨rfl, rfl, rfl, rfl, trivial⟩ ⟨rfl, trivial⟩))
     ·replace h := of_cf h hc28
      apply E_skip
      refine ⟨v21, h, ?_⟩
      exact (Le.b (le_mk ⟨rfl, rfl, rfl, rfl, trivial⟩ ⟨rfl, trivial⟩))
   ·replace h := of_cf h hc23
    apply E_exit
    refine ⟨v21, h, ?_⟩
    exact (Le.b (le_mk ⟨rfl, trivial⟩ ⟨rfl, trivial⟩))
/- reeve/tag.Rest -/
def c_tag_Rest : VCode := (.seq (.ops [(o (.mv (.const (.int .u64 0))) 4)]) (.seq (.ops [(w 8 1), (o (.call 159 [(t 8)]) 9), (w 7 9), (o (.ext 0 (t 7)) 10), (o (.ext 1 (t 7)) 11), (w 5 10), (w 6 11)]) (.seq (.ops [(w 12 0), (w 13 5), (o (.bin .andNot 42 (t 12) (t 13)) 14), (w 4 14)]) .ret)))
theorem f_tag_Rest : Fits Tryz.prog 124 2 c_tag_Rest [(.tmp 4)] := fits_mk Tryz.func124 (by kernel_rfl) (by kernel_rfl) (by kernel_rfl)
theorem p_tag_Rest (F : Nat) (a0 : Int) (a1 : (List S_tag_Field)) (r : Int) (h : m_tag_Rest F a0 a1 = some r) : PC Tryz.prog 124 [S.one (.v (.int .u64 a0)), S.one (.sl (flat e_S_tag_Field a1) a1.length)] (S.one (.v (.int .u64 r))) := by
 unfold m_tag_Rest at h
 refine PC_go f_tag_Rest rfl rfl ?_
 intro C hP
 unfold c_tag_Rest; dsimp
 apply E_seq
 apply E_ops
 apply WM
 apply W_nil
 refine E_keep [0, 1] [] ?_
 (try dsimp)
 apply E_seq
 apply E_ops
 apply WM
 obtain ⟨x1, x1h, h⟩ := of_bind h
 refine W1 (does_call1 hP (p_tag_all F a1 x1 x1h) rfl rfl rfl) ?_
 apply WM
 refine WQ (does_ext rfl rfl) ?_
 refine WQ (does_ext rfl rfl) ?_
 apply WM
 apply WM
 apply W_nil
 refine E_keep [0, 5] [] ?_
 (try dsimp)
 apply E_seq
 apply E_ops
 apply WM
 apply WM
 refine WQ (does_int rfl rfl rfl) ?_
 apply WM
 apply W_nil
 refine E_keep [4] [] ?_
 (try dsimp)
 apply E_ret
 cases h
 (try simp only [qt, qb, qn])
 refine fin_mk (xs := _) ⟨_, rfl, rfl⟩ ?_
 rfl
/- reeve/cap.Get -/
def c_cap_Get : VCode := (.seq (.ops [(o (.newv [zi, zi, zi, zi]) 2), (o (.mv (cb false)) 3)]) (.seq (.ops [(w 6 0), (o (.call 99 []) 7), (o (.call 106 [(t 6), (t 7)]) 8), (w 4 8)]) (.seq (.draw [((w 9 4), []), ((o (.idxS 1 (t 9) (ci 0)) 10), [0]), ((o (.load false 1 (t 10)) 11), [1]), ((o (.convI .i64 (t 11)) 12), [2]), ((w 13 4), []), ((o (.idxS 1 (t 13) (ci 3)) 14), [4]), ((o (.load false 1 (t 14)) 15), [5]), ((o (.convI .i64 (t 15)) 16), [6]), ((w 17 4), []), ((o (.idxS 1 (t 17) (ci 1)) 18), [8]), ((o (.load false 1 (t 18)) 19), [9]), ((o (.convI .i64 (t 19)) 20), [10]), ((w 21 4), []), ((o (.idxS 1 (t 21) (ci 2)) 22), [12]), ((o (.load false 1 (t 22)) 23), [13]), ((o (.convI .i64 (t 23)) 24), [14]), ((o (.build [zi, zi, zi, zi] [(0, (1, (t 12))), (1, (1, (t 16))), (2, (1, (t 20))), (3, (1, (t 24)))]) 25), [3, 7, 11, 15]), ((o (.newv [zi, zi, zi, zi]) 5), []), ((n_ (.store 4 (t 5) (t 25))), [17, 16, 0, 1, 2, 3, 4, 5, 6, 7, 8, 9, 10, 11, 12, 13, 14, 15, 16, 17])]) (.seq (.seq (.ops [(w 26 0), (o (.call 99 []) 27), (o (.call 124 [(t 26), (t 27)]) 28), (o (.bin .neq 42 (t 28) (.const (.int .u64 0))) 29), (w 30 29), (g_ (.load true 4 (t 5)) 31 30 false), (g_ (.call 97 [(t 31)]) 32 30 false), (g_ (.un .not (t 32)) 33 30 false), (o (.pick (t 30) (cb true) (t 33)) 34)]) (.cond (t 34) (.seq (.ops [(o (.build [zi, zi, zi, zi] []) 35), (n_ (.store 4 (t 2) (t 35))), (o (.mv (cb false)) 3)]) .ret) .skip)) (.seq (.ops [(o (.load true 4 (t 5)) 36), (n_ (.store 4 (t 2) (t 36))), (o (.mv (cb true)) 3)]) .ret)))))
theorem f_cap_Get : Fits Tryz.prog 84 1 c_cap_Get [(.cell true 4 2), (.tmp 3)] := fits_mk Tryz.func84 (by kernel_rfl) (by kernel_rfl) (by kernel_rfl)
theorem p_cap_Get (F : Nat) (a0 : Int) (r : S_cap_Cap × Bool) (h : m_cap_Get F a0 = some r) : PC Tryz.prog 84 [S.one (.v (.int .u64 a0))] (S.tup [S.agg [.v (.int .i64 r.1.xType), .v (.int .i64 r.1.xThing), .v (.int .i64 r.1.xRights), .v (.int .i64 r.1.xBadge)], S.one (.v (.bool r.2))]) := by
 unfold m_cap_Get at h
 refine PC_go f_cap_Get rfl rfl ?_
 intro C hP
 unfold c_cap_Get; dsimp
 apply E_seq
 apply E_ops
 refine W1 (does_newv rfl rfl) ?_
 apply WM
 apply W_nil
 refine E_keep [0, 2] [2] ?_
 (try dsimp)
 apply E_seq
 apply E_ops
 apply WM
 obtain ⟨x1, x1h, h⟩ := of_bind h
 refine W1 (does_call1 hP (p_cap_fields F  x1 x1h) rfl rfl rfl) ?_
 obtain ⟨x2, x2h, h⟩ := of_bind h
 refine W1 (does_call1 hP (p_tag_Get F a0 x1 x2 x2h) rfl rfl rfl) ?_
 apply WM
 apply W_nil
 refine E_keep [0, 2, 4] [2] ?_
 (try dsimp)
 apply E_seq
 obtain ⟨g3, h⟩ := of_gd h
 obtain ⟨g4, h⟩ := of_gd h
 obtain ⟨g5, h⟩ := of_gd h
 obtain ⟨g6, h⟩ := of_gd h
 refine E_draw [0, 1, 2, 3, 4, 5, 6, 7, 8, 9, 10, 11, 12, 13, 14, 15, 16] ?_
 refine XQ 0 rfl rfl rfl (does_mv rfl) ?_
 refine XQ 1 rfl rfl rfl (does_idx_sl rfl rfl g3.1 g3.2) ?_
 refine XQ 2 rfl rfl rfl (does_load1_slF (k := 1) rfl (fun _ => rfl) g3 0 rfl rfl) ?_
 refine XQ 3 rfl rfl rfl (does_convI rfl) ?_
 refine XQ 4 rfl rfl rfl (does_mv rfl) ?_
 refine XQ 5 rfl rfl rfl (does_idx_sl rfl rfl g4.1 g4.2) ?_
 refine XQ 6 rfl rfl rfl (does_load1_slF (k := 1) rfl (fun _ => rfl) g4 0 rfl rfl) ?_
 refine XQ 7 rfl rfl rfl (does_convI rfl) ?_
 refine XQ 8 rfl rfl rfl (does_mv rfl) ?_
 refine XQ 9 rfl rfl rfl (does_idx_sl rfl rfl g5.1 g5.2) ?_
 refine XQ 10 rfl rfl rfl (does_load1_slF (k := 1) rfl (fun _ => rfl) g5 0 rfl rfl) ?_
 refine XQ 11 rfl rfl rfl (does_convI rfl) ?_
 refine XQ 12 rfl rfl rfl (does_mv rfl) ?_
 refine XQ 13 rfl rfl rfl (does_idx_sl rfl rfl g6.1 g6.2) ?_
 refine XQ 14 rfl rfl rfl (does_load1_slF (k := 1) rfl (fun _ => rfl) g6 0 rfl rfl) ?_
 refine XQ 15 rfl rfl rfl (does_convI rfl) ?_
 refine XQ 16 rfl rfl rfl (does_build rfl rfl) ?_
 (try dsimp)
 refine X1 rfl (XK rfl (does_newv rfl rfl) ?_)
 refine X1 rfl (XT rfl rfl (does_store rfl rfl rfl rfl rfl (Nat.le_of_ble_eq_true rfl) rfl (by decide)) ?_)
 refine X_nil rfl ?_
 refine E_keep [0, 2, 5] [2, 5] ?_
 (try dsimp)
 apply E_seq
 apply E_seq
 apply E_ops
 apply WM
 obtain ⟨x7, x7h, h⟩ := of_bind h
 refine W1 (does_call1 hP (p_cap_fields F  x7 x7h) rfl rfl rfl) ?_
 obtain ⟨x8, x8h, h⟩ := of_bind h
 refine W1 (does_call1 hP (p_tag_Rest F a0 x7 x8 x8h) rfl rfl rfl) ?_
 refine WQ (does_int rfl rfl rfl) ?_
 apply WM
 apply W_lazy
 ·rfl
 ·intro hB; (try simp only [hB, bss, ctt]); exact does_loadA_ptr rfl rfl rfl rfl (by decide)
 obtain ⟨x9, x9h, h⟩ := of_bind h
 apply W_lazyD
 ·rfl
 ·intro hB; (try simp only [hB, bss, ctt]); exact does_call1 hP (p_cap_Good F (⟨(IntKind.i64.wrap (nth x2 (0 : Int))), (IntKind.i64.wrap (nth x2 (3 : Int))), (IntKind.i64.wrap (nth x2 (1 : Int))), (IntKind.i64.wrap (nth x2 (2 : Int)))⟩ : S_cap_Cap) x9 (of_lz x9h (bt hB))) rfl rfl rfl
 apply W_lazy
 ·rfl
 ·intro hB; (try simp only [hB, bss, ctt]); exact does_not rfl
 refine WQ (does_or rfl rfl rfl) ?_
 apply W_nil
 refine E_keep [2, 5, 34] [2, 5] ?_
 (try dsimp)
 refine E_cond rfl (fun hc10 => ?_) (fun hc10 => ?_)
 ·replace h := of_ct h hc10
  apply E_seq
  apply E_ops
  refine WQ (does_build rfl rfl) ?_
  refine W1 (does_store rfl rfl rfl rfl rfl (Nat.le_of_ble_eq_true rfl) rfl (by decide)) ?_
  apply WM
  apply W_nil
  refine E_keep [2, 3] [2] ?_
  (try dsimp)
  apply E_ret
  cases h
  (try simp only [qt, qb, qn])
  refine fin_mk (xs := _) ⟨_, _, at_whole rfl (by simp), rfl, rfl, ⟨_, rfl, rfl⟩⟩ ?_
  rfl
 ·replace h := of_cf h hc10
  apply E_skip
  refine E_keep [2, 5] [2, 5] ?_
  (try dsimp)
  apply E_seq
  apply E_ops
  refine WQ (does_loadA_ptr rfl rfl rfl rfl (by decide)) ?_
  refine W1 (does_store rfl rfl rfl rfl rfl (Nat.le_of_ble_eq_true rfl) rfl (by decide)) ?_
  apply WM
  apply W_nil
  refine E_keep [2, 3] [2] ?_
  (try dsimp)
  apply E_ret
  cases h
  (try simp only [qt, qb, qn])
  refine fin_mk (xs := _) ⟨_, _, at_whole rfl (by simp), rfl, rfl, ⟨_, rfl, rfl⟩⟩ ?_
  rfl
/- reeve/thing.Get -/
def c_thing_Get : VCode := (.seq (.ops [(o (.newv [zi, zi, zi, zi, zi, zi, zi, zb, zu, zu, zu, zu, zu]) 2), (o (.mv (cb false)) 3)]) (.seq (.seq (.ops [(w 7 0), (o (.len false (t 7)) 8), (o (.bin .neq 3 (t 8) (ci 8)) 9)]) (.cond (t 9) (.seq (.ops [(o (.build [zi, zi, zi, zi, zi, zi, zi, zb, zu, zu, zu, zu, zu] []) 10), (n_ (.store 13 (t 2) (t 10))), (o (.mv (cb false)) 3)]) .ret) .skip)) (.seq (.draw [((w 11 0), []), ((o (.idxS 1 (t 11) (ci 0)) 12), [0]), ((o (.load false 1 (t 12)) 13), [1]), ((o (.call 100 []) 14), []), ((o (.call 106 [(t 13), (t 14)]) 15), [2, 3, 3]), ((w 16 0), []), ((o (.idxS 1 (t 16) (ci 1)) 17), [5]), ((o (.load false 1 (t 17)) 18), [6]), ((o (.call 101 []) 19), [4]), ((o (.call 106 [(t 18), (t 19)]) 20), [7, 8, 8]), ((w 4 15), [4, 9, 0, 1, 2, 3, 4]), ((w 5 20), [9, 10, 0, 1, 2, 3, 4, 5, 6, 7, 8, 9, 10])]) (.seq (.draw [((w 21 4), []), ((o (.idxS 1 (t 21) (ci 0)) 22), [0]), ((o (.load false 1 (t 22)) 23), [1]), ((o (.convI .i64 (t 23)) 24), [2]), ((w 25 4), []), ((o (.idxS 1 (t 25) (ci 1)) 26), [4]), ((o (.load false 1 (t 26)) 27), [5]), ((o (.convI .i64 (t 27)) 28), [6]), ((w 29 4), []), ((o (.idxS 1 (t 29) (ci 2)) 30), [8]), ((o (.load false 1 (t 30)) 31), [9]), ((o (.convI .i64 (t 31)) 32), [10]), ((w 33 4), []), ((o (.idxS 1 (t 33) (ci 3)) 34), [12]), ((o (.load false 1 (t 34)) 35), [13]), ((o (.bin .eql 42 (t 35) (.const (.int .u64 1))) 36), [14]), ((w 37 4), []), ((o (.idxS 1 (t 37) (ci 4)) 38), [16]), ((o (.load false 1 (t 38)) 39), [17]), ((o (.convI .i64 (t 39)) 40), [18]), ((w 41 5), []), ((o (.idxS 1 (t 41) (ci 0)) 42), [20]), ((o (.load false 1 (t 42)) 43), [21]), ((o (.convI .i64 (t 43)) 44), [22]), ((w 45 5), []), ((o (.idxS 1 (t 45) (ci 1)) 46), [24]), ((o (.load false 1 (t 46)) 47), [25]), ((o (.convI .i64 (t 47)) 48), [26]), ((w 49 5), []), ((o (.idxS 1 (t 49) (ci 2)) 50), [28]), ((o (.load false 1 (t 50)) 51), [29]), ((o (.convI .i64 (t 51)) 52), [30]), ((w 53 0), []), ((o (.idxS 1 (t 53) (ci 2)) 54), [32]), ((o (.load false 1 (t 54)) 55), [33]), ((o (.build [zi, zi, zi, zi, zi, zi, zi, zb, zu, zu, zu, zu, zu] [(0, (1, (t 24))), (1, (1, (t 28))), (2, (1, (t 32))), (7, (1, (t 36))), (5, (1, (t 40))), (3, (1, (t 44))), (4, (1, (t 48))), (6, (1, (t 52))), (8, (1, (t 55)))]) 56), [3, 7, 11, 15, 19, 23, 27, 31, 34]), ((o (.newv [zi, zi, zi, zi, zi, zi, zi, zb, zu, zu, zu, zu, zu]) 6), []), ((n_ (.store 13 (t 6) (t 56))), [36, 35, 0, 1, 2, 3, 4, 5, 6, 7, 8, 9, 10, 11, 12, 13, 14, 15, 16, 17, 18, 19, 20, 21, 22, 23, 24, 25, 26, 27, 28, 29, 30, 31, 32, 33, 34, 35, 36])]) (.seq (.draw [((o (.add 9 (t 6)) 57), []), ((o (.slcA 1 4 (t 57) .none .none) 58), [0]), ((w 59 0), []), ((o (.slc 1 (t 59) (.some (ci 3)) .none .none) 60), [2]), ((o (.copy 1 (t 58) (t 60)) 61), [1, 3])]) (.seq (.seq (.ops [(o (.load true 13 (t 6)) 62), (o (.call 62 [(t 62)]) 63), (w 64 0), (o (.call 105 [(t 63), (t 64)]) 65), (o (.un .not (t 65)) 66)]) (.cond (t 66) (.seq (.ops [(o (.build [zi, zi, zi, zi, zi, zi, zi, zb, zu, zu, zu, zu, zu] []) 67), (n_ (.store 13 (t 2) (t 67))), (o (.mv (cb false)) 3)]) .ret) .skip)) (.seq (.ops [(o (.load true 13 (t 6)) 68), (n_ (.store 13 (t 2) (t 68))), (o (.mv (cb true)) 3)]) .ret)))))))
theorem f_thing_Get : Fits Tryz.prog 85 1 c_thing_Get [(.cell true 13 2), (.tmp 3)] := fits_mk Tryz.func85 (by kernel_rfl) (by kernel_rfl) (by kernel_rfl)
theorem p_thing_Get (F : Nat) (a0 : (List Int)) (r : S_thing_Thing × Bool) (h : m_thing_Get F a0 = some r) : PC Tryz.prog 85 [S.one (.sl (flat e_i_u64 a0) a0.length)] (S.tup [S.agg [.v (.int .i64 r.1.xType), .v (.int .i64 r.1.xBits), .v (.int .i64 r.1.xBase), .v (.int .i64 r.1.xSize), .v (.int .i64 r.1.xUsed), .v (.int .i64 r.1.xFrom), .v (.int .i64 r.1.xBadge), .v (.bool r.1.xFull), .v (.int .u64 r.1.xWord), .v (.int .u64 r.1.xData.c0), .v (.int .u64 r.1.xData.c1), .v (.int .u64 r.1.xData.c2), .v (.int .u64 r.1.xData.c3)], S.one (.v (.bool r.2))]) := by
 unfold m_thing_Get at h
 refine PC_go f_thing_Get rfl rfl ?_
 intro C hP
 unfold c_thing_Get; dsimp
 apply E_seq
 apply E_ops
 refine W1 (does_newv rfl rfl) ?_
 apply WM
 apply W_nil
 refine E_keep [0, 2] [2] ?_
 (try dsimp)
 apply E_seq
 apply E_seq
 apply E_ops
 apply WM
 refine WQ (does_len_sl rfl) ?_
 refine WQ (does_int rfl rfl rfl) ?_
 apply W_nil
 refine E_keep [0, 2, 9] [2] ?_
 (try dsimp)
 refine E_cond rfl (fun hc1 => ?_) (fun hc1 => ?_)
 ·replace h := of_ct h hc1
  apply E_seq
  apply E_ops
  refine WQ (does_build rfl rfl) ?_
  refine W1 (does_store rfl rfl rfl rfl rfl (Nat.le_of_ble_eq_true rfl) rfl (by decide)) ?_
  apply WM
  apply W_nil
  refine E_keep [2, 3] [2] ?_
  (try dsimp)
  apply E_ret
  cases h
  (try simp only [qt, qb, qn])
  refine fin_mk (xs := _) ⟨_, _, at_whole rfl (by simp), rfl, rfl, ⟨_, rfl, rfl⟩⟩ ?_
  rfl
 ·replace h := of_cf h hc1
  apply E_skip
  refine E_keep [0, 2] [2] ?_
  (try dsimp)
  apply E_seq
  obtain ⟨g2, h⟩ := of_gd h
  obtain ⟨x3, x3h, h⟩ := of_bind h
  obtain ⟨x4, x4h, h⟩ := of_bind h
  obtain ⟨g5, h⟩ := of_gd h
  obtain ⟨x6, x6h, h⟩ := of_bind h
  obtain ⟨x7, x7h, h⟩ := of_bind h
  refine E_draw [0, 1, 2, 5, 6, 7, 10, 11] ?_
  refine XQ 0 rfl rfl rfl (does_mv rfl) ?_
  refine XQ 1 rfl rfl rfl (does_idx_sl rfl rfl g2.1 g2.2) ?_
  refine XQ 2 rfl rfl rfl (does_load1_slF (k := 1) rfl (fun _ => rfl) g2 0 rfl rfl) ?_
  refine XQ 5 rfl rfl rfl (does_mv rfl) ?_
  refine XQ 6 rfl rfl rfl (does_idx_sl rfl rfl g5.1 g5.2) ?_
  refine XQ 7 rfl rfl rfl (does_load1_slF (k := 1) rfl (fun _ => rfl) g5 0 rfl rfl) ?_
  refine X1 rfl (XK rfl (does_call1 hP (p_thing_bytes F  x3 x3h) rfl rfl rfl) ?_)
  refine X1 rfl (XK rfl (does_call1 hP (p_tag_Get F (nth a0 (0 : Int)) x3 x4 x4h) rfl rfl rfl) ?_)
  refine X1 rfl (XK rfl (does_call1 hP (p_thing_pairs F  x6 x6h) rfl rfl rfl) ?_)
  refine X1 rfl (XK rfl (does_call1 hP (p_tag_Get F (nth a0 (1 : Int)) x6 x7 x7h) rfl rfl rfl) ?_)
  refine XQ 10 rfl rfl rfl (does_mv rfl) ?_
  refine XQ 11 rfl rfl rfl (does_mv rfl) ?_
  refine X_nil rfl ?_
  refine E_keep [0, 2, 4, 5] [2] ?_
  (try dsimp)
  apply E_seq
  obtain ⟨g8, h⟩ := of_gd h
  obtain ⟨g9, h⟩ := of_gd h
  obtain ⟨g10, h⟩ := of_gd h
  obtain ⟨g11, h⟩ := of_gd h
  obtain ⟨g12, h⟩ := of_gd h
  obtain ⟨g13, h⟩ := of_gd h
  obtain ⟨g14, h⟩ := of_gd h
  obtain ⟨g15, h⟩ := of_gd h
  obtain ⟨g16, h⟩ := of_gd h
  refine E_draw [0, 1, 2, 3, 4, 5, 6, 7, 8, 9, 10, 11, 12, 13, 14, 15, 16, 17, 18, 19, 20, 21, 22, 23, 24, 25, 26, 27, 28, 29, 30, 31, 32, 33, 34, 35] ?_
  refine XQ 0 rfl rfl rfl (does_mv rfl) ?_
  refine XQ 1 rfl rfl rfl (does_idx_sl rfl rfl g8.1 g8.2) ?_
  refine XQ 2 rfl rfl rfl (does_load1_slF (k := 1) rfl (fun _ => rfl) g8 0 rfl rfl) ?_
  refine XQ 3 rfl rfl rfl (does_convI rfl) ?_
  refine XQ 4 rfl rfl rfl (does_mv rfl) ?_
  refine XQ 5 rfl rfl rfl (does_idx_sl rfl rfl g9.1 g9.2) ?_
  refine XQ 6 rfl rfl rfl (does_load1_slF (k := 1) rfl (fun _ => rfl) g9 0 rfl rfl) ?_
  refine XQ 7 rfl rfl rfl (does_convI rfl) ?_
  refine XQ 8 rfl rfl rfl (does_mv rfl) ?_
  refine XQ 9 rfl rfl rfl (does_idx_sl rfl rfl g10.1 g10.2) ?_
  refine XQ 10 rfl rfl rfl (does_load1_slF (k := 1) rfl (fun _ => rfl) g10 0 rfl rfl) ?_
  refine XQ 11 rfl rfl rfl (does_convI rfl) ?_
  refine XQ 12 rfl rfl rfl (does_mv rfl) ?_
  refine XQ 13 rfl rfl rfl (does_idx_sl rfl rfl g11.1 g11.2) ?_
  refine XQ 14 rfl rfl rfl (does_load1_slF (k := 1) rfl (fun _ => rfl) g11 0 rfl rfl) ?_
  refine XQ 15 rfl rfl rfl (does_int rfl rfl rfl) ?_
  refine XQ 16 rfl rfl rfl (does_mv rfl) ?_
  refine XQ 17 rfl rfl rfl (does_idx_sl rfl rfl g12.1 g12.2) ?_
  refine XQ 18 rfl rfl rfl (does_load1_slF (k := 1) rfl (fun _ => rfl) g12 0 rfl rfl) ?_
  refine XQ 19 rfl rfl rfl (does_convI rfl) ?_
  refine XQ 20 rfl rfl rfl (does_mv rfl) ?_
  refine XQ 21 rfl rfl rfl (does_idx_sl rfl rfl g13.1 g13.2) ?_
  refine XQ 22 rfl rfl rfl (does_load1_slF (k := 1) rfl (fun _ => rfl) g13 0 rfl rfl) ?_
  refine XQ 23 rfl rfl rfl (does_convI rfl) ?_
  refine XQ 24 rfl rfl rfl (does_mv rfl) ?_
  refine XQ 25 rfl rfl rfl (does_idx_sl rfl rfl g14.1 g14.2) ?_
  refine XQ 26 rfl rfl rfl (does_load1_slF (k := 1) rfl (fun _ => rfl) g14 0 rfl rfl) ?_
  refine XQ 27 rfl rfl rfl (does_convI rfl) ?_
  refine XQ 28 rfl rfl rfl (does_mv rfl) ?_
  refine XQ 29 rfl rfl rfl (does_idx_sl rfl rfl g15.1 g15.2) ?_
  refine XQ 30 rfl rfl rfl (does_load1_slF (k := 1) rfl (fun _ => rfl) g15 0 rfl rfl) ?_
  refine XQ 31 rfl rfl rfl (does_convI rfl) ?_
  refine XQ 32 rfl rfl rfl (does_mv rfl) ?_
  refine XQ 33 rfl rfl rfl (does_idx_sl rfl rfl g16.1 g16.2) ?_
  refine XQ 34 rfl rfl rfl (does_load1_slF (k := 1) rfl (fun _ => rfl) g16 0 rfl rfl) ?_
  refine XQ 35 rfl rfl rfl (does_build rfl rfl) ?_
  (try dsimp)
  refine X1 rfl (XK rfl (does_newv rfl rfl) ?_)
  refine X1 rfl (XT rfl rfl (does_store rfl rfl rfl rfl rfl (Nat.le_of_ble_eq_true rfl) rfl (by decide)) ?_)
  refine X_nil rfl ?_
  refine E_keep [0, 2, 6] [2, 6] ?_
  (try dsimp)
  apply E_seq
  obtain ⟨g17, h⟩ := of_gd h
  obtain ⟨g18, h⟩ := of_gd h
  refine E_draw [0, 1, 2, 3] ?_
  refine XQ 0 rfl rfl rfl (does_add_ptr rfl rfl) ?_
  refine XQ 1 rfl rfl rfl (does_slcA_ptr rfl rfl rfl rfl (by decide) (by decide) (by decide) (List.cons_ne_nil _ _)) ?_
  refine XQ 2 rfl rfl rfl (does_mv rfl) ?_
  refine XQ 3 rfl rfl rfl (does_slc_slF rfl (fun _ => rfl) rfl rfl g17.1 g17.2.1 g17.2.2) ?_
  refine X1 rfl (XT rfl rfl (does_copyL (lit := [.v (.int .u64 (nth (cut a0 (3 : Int) ((a0.length : Nat) : Int)) 0)), .v (.int .u64 (nth (cut a0 (3 : Int) ((a0.length : Nat) : Int)) 1)), .v (.int .u64 (nth (cut a0 (3 : Int) ((a0.length : Nat) : Int)) 2)), .v (.int .u64 (nth (cut a0 (3 : Int) ((a0.length : Nat) : Int)) 3))]) rfl rfl (fun _ => rfl) (fun _ => rfl) rfl (Src.slF (cut a0 (3 : Int) ((a0.length : Nat) : Int)) (fun _ => rfl)) (Nat.le_of_ble_eq_true rfl) g18 rfl) ?_)
  refine X_nil rfl ?_
  refine E_keep [0, 2, 6] [2, 6] ?_
  (try dsimp)
  apply E_seq
  apply E_seq
  apply E_ops
  refine WQ (does_loadA_ptr rfl rfl rfl rfl (by decide)) ?_
  obtain ⟨x19, x19h, h⟩ := of_bind h
  refine W1 (does_call1 hP (p_thing_Put F (⟨(IntKind.i64.wrap (nth x4 (0 : Int))), (IntKind.i64.wrap (nth x4 (1 : Int))), (IntKind.i64.wrap (nth x4 (2 : Int))), (IntKind.i64.wrap (nth x7 (0 : Int))), (IntKind.i64.wrap (nth x7 (1 : Int))), (IntKind.i64.wrap (nth x4 (4 : Int))), (IntKind.i64.wrap (nth x7 (2 : Int))), ((nth x4 (3 : Int)) == (1 : Int)), (nth a0 (2 : Int)), (⟨(nth (cut a0 (3 : Int) ((a0.length : Nat) : Int)) 0), (nth (cut a0 (3 : Int) ((a0.length : Nat) : Int)) 1), (nth (cut a0 (3 : Int) ((a0.length : Nat) : Int)) 2), (nth (cut a0 (3 : Int) ((a0.length : Nat) : Int)) 3)⟩ : V4 Int)⟩ : S_thing_Thing) x19 x19h) rfl rfl rfl) ?_
  apply WM
  obtain ⟨x20, x20h, h⟩ := of_bind h
  refine W1 (does_call1 hP (p_slices_Equal_uint64 F x19 a0 x20 x20h) rfl rfl rfl) ?_
  refine WQ (does_not rfl) ?_
  apply W_nil
  refine E_keep [2, 6, 66] [2, 6] ?_
  (try dsimp)
  refine E_cond rfl (fun hc21 => ?_) (fun hc21 => ?_)
  ·replace h := of_ct h hc21
   apply E_seq
   apply E_ops
   refine WQ (does_build rfl rfl) ?_
   refine W1 (does_store rfl rfl rfl rfl rfl (Nat.le_of_ble_eq_true rfl) rfl (by decide)) ?_
   apply WM
   apply W_nil
   refine E_keep [2, 3] [2] ?_
   (try dsimp)
   apply E_ret
   cases h
   (try simp only [qt, qb, qn])
   refine fin_mk (xs := _) ⟨_, _, at_whole rfl (by simp), rfl, rfl, ⟨_, rfl, rfl⟩⟩ ?_
   rfl
  ·replace h := of_cf h hc21
   apply E_skip
   refine E_keep [2, 6] [2, 6] ?_
   (try dsimp)
   apply E_seq
   apply E_ops
   refine WQ (does_loadA_ptr rfl rfl rfl rfl (by decide)) ?_
   refine W1 (does_store rfl rfl rfl rfl rfl (Nat.le_of_ble_eq_true rfl) rfl (by decide)) ?_
   apply WM
   apply W_nil
   refine E_keep [2, 3] [2] ?_
   (try dsimp)
   apply E_ret
   cases h
   (try simp only [qt, qb, qn])
   refine fin_mk (xs := _) ⟨_, _, at_whole rfl (by simp), rfl, rfl, ⟨_, rfl, rfl⟩⟩ ?_
   rfl
/- reeve/image.Get -/
def c_image_Get : VCode := (.seq (.ops [(o (.newv [zi, zi, zi, .nil, .nil]) 2), (o (.mv (ci 0)) 3)]) (.seq (.ops [(w 18 0), (o (.call 66 [(t 18)]) 19), (w 17 19), (o (.ext 0 (t 17)) 20), (o (.ext 1 (t 17)) 21), (o (.ext 2 (t 17)) 22), (o (.newv [zi, zi, zi, zu]) 4), (n_ (.store 4 (t 4) (t 20))), (w 5 21), (w 6 22)]) (.seq (.seq (.ops [(w 23 5), (o (.un .not (t 23)) 24), (w 25 24), (g_ (.mv (t 6)) 26 25 true), (g_ (.un .not (t 26)) 27 25 true), (o (.pick (t 25) (t 27) (cb false)) 28)]) (.cond (t 28) (.seq (.ops [(o (.build [zi, zi, zi, .nil, .nil] []) 29), (n_ (.store 5 (t 2) (t 29))), (o (.mv (ci 2)) 3)]) .ret) .skip)) (.seq (.ops [(o (.add 0 (t 4)) 30), (o (.load true 3 (t 30)) 31), (o (.newv [zi, zi, zi]) 7), (n_ (.store 3 (t 7) (t 31)))]) (.seq (.ops [(o (.load true 3 (t 7)) 32), (o (.build [zi, zi, zi, .nil, .nil] [(0, (3, (t 32)))]) 33), (o (.newv [zi, zi, zi, .nil, .nil]) 8), (n_ (.store 5 (t 8) (t 33)))]) (.seq (.seq (.ops [(o (.add 1 (t 7)) 34), (o (.load false 1 (t 34)) 35), (o (.mv (ci 0)) 36)]) (.block 0 (.loop (.seq (.ops [(o (.bin .lss 3 (t 36) (t 35)) 37)]) (.seq (.cond (t 37) .skip (.exit 0)) (.seq (.block 1 (.seq (.ops [(w 38 36), (w 9 38)]) (.seq (.ops [(o (.load true 3 (t 7)) 39), (w 40 9), (o (.call 59 [(t 39), (t 40)]) 41), (w 10 41)]) (.seq (.ops [(w 43 0), (w 44 10), (o (.idxS 1 (t 43) (t 44)) 45), (o (.load false 1 (t 45)) 46), (o (.call 84 [(t 46)]) 47), (w 42 47), (o (.ext 0 (t 42)) 48), (o (.ext 1 (t 42)) 49), (o (.newv [zi, zi, zi, zi]) 11), (n_ (.store 4 (t 11) (t 48))), (w 12 49)]) (.seq (.seq (.ops [(w 50 12), (o (.un .not (t 50)) 51), (w 52 51), (g_ (.mv (t 0)) 53 52 false), (g_ (.mv (t 10)) 54 52 false), (g_ (.bin .add 3 (t 54) (ci 1)) 55 52 false), (g_ (.idxS 1 (t 53) (t 55)) 56 52 false), (g_ (.load false 1 (t 56)) 57 52 false), (g_ (.bin .gtr 42 (t 57) (.const (.int .u64 96))) 58 52 false), (o (.pick (t 52) (cb true) (t 58)) 59)]) (.cond (t 59) (.seq (.ops [(o (.build [zi, zi, zi, .nil, .nil] []) 60), (n_ (.store 5 (t 2) (t 60))), (o (.mv (ci 2)) 3)]) .ret) .skip)) (.draw [((o (.add 3 (t 8)) 61), []), ((o (.load false 1 (t 61)) 62), [0]), ((o (.load true 4 (t 11)) 63), []), ((w 64 0), []), ((w 65 10), []), ((o (.bin .add 3 (t 65) (ci 1)) 66), [4]), ((o (.idxS 1 (t 64) (t 66)) 67), [3, 5]), ((o (.load false 1 (t 67)) 68), [6]), ((o (.convI .i64 (t 68)) 69), [7]), ((o (.bin .sub 3 (t 69) (ci 1)) 70), [8]), ((o (.build [zi, zi, zi, zi, zi] [(0, (4, (t 63))), (4, (1, (t 70)))]) 71), [2, 9]), ((o (.bslice 5 111 1 [zi, zi, zi, zi, zi] [(0, (5, (t 71)))]) 72), [10]), ((o (.app 24 111 5 40 (t 62) (t 72)) 73), [1, 11]), ((o (.add 3 (t 8)) 74), [0, 1, 2, 3, 4, 5, 6, 7, 8, 9, 10, 11, 12]), ((n_ (.store 1 (t 74) (t 73))), [13, 12, 12, 0, 1, 2, 3, 4, 5, 6, 7, 8, 9, 10, 11, 12])])))))) (.ops [(o (.bin .add 3 (t 36) (ci 1)) 75), (w 36 75)]))))))) (.seq (.seq (.ops [(o (.add 2 (t 7)) 76), (o (.load false 1 (t 76)) 77), (o (.mv (ci 0)) 78)]) (.block 2 (.loop (.seq (.ops [(o (.bin .lss 3 (t 78) (t 77)) 79)]) (.seq (.cond (t 79) .skip (.exit 2)) (.seq (.block 3 (.seq (.ops [(w 80 78), (w 13 80)]) (.seq (.ops [(o (.load true 3 (t 7)) 81), (w 82 13), (o (.call 61 [(t 81), (t 82)]) 83), (w 14 83)]) (.seq (.ops [(w 85 0), (w 86 14), (w 87 14), (o (.bin .add 3 (t 87) (ci 8)) 88), (o (.slc 1 (t 85) (.some (t 86)) (.some (t 88)) .none) 89), (o (.call 85 [(t 89)]) 90), (w 84 90), (o (.ext 0 (t 84)) 91), (o (.ext 1 (t 84)) 92), (o (.newv [zi, zi, zi, zi, zi, zi, zi, zb, zu, zu, zu, zu, zu]) 15), (n_ (.store 13 (t 15) (t 91))), (w 16 92)]) (.seq (.seq (.ops [(w 93 16), (o (.un .not (t 93)) 94)]) (.cond (t 94) (.seq (.ops [(o (.build [zi, zi, zi, .nil, .nil] []) 95), (n_ (.store 5 (t 2) (t 95))), (o (.mv (ci 2)) 3)]) .ret) .skip)) (.ops [(o (.add 4 (t 8)) 96), (o (.load false 1 (t 96)) 97), (o (.load true 13 (t 15)) 98), (o (.bslice 13 104 1 [zi, zi, zi, zi, zi, zi, zi, zb, zu, zu, zu, zu, zu] [(0, (13, (t 98)))]) 99), (o (.app 25 104 13 104 (t 97) (t 99)) 100), (o (.add 4 (t 8)) 101), (n_ (.store 1 (t 101) (t 100)))])))))) (.ops [(o (.bin .add 3 (t 78) (ci 1)) 102), (w 78 102)]))))))) (.seq (.seq (.ops [(o (.load true 5 (t 8)) 103), (o (.call 55 [(t 103)]) 104), (o (.un .not (t 104)) 105)]) (.cond (t 105) (.seq (.ops [(o (.build [zi, zi, zi, .nil, .nil] []) 106), (n_ (.store 5 (t 2) (t 106))), (o (.mv (ci 2)) 3)]) .ret) .skip)) (.seq (.ops [(o (.load true 5 (t 8)) 107), (n_ (.store 5 (t 2) (t 107))), (o (.mv (ci 0)) 3)]) .ret)))))))))
theorem f_image_Get : Fits Tryz.prog 54 1 c_image_Get [(.cell true 5 2), (.tmp 3)] := fits_mk Tryz.func54 (by kernel_rfl) (by kernel_rfl) (by kernel_rfl)
theorem p_image_Get (F : Nat) (a0 : (List Int)) (r : S_state_State × Int) (h : m_image_Get F a0 = some r) : PC Tryz.prog 54 [S.one (.sl (flat e_i_u64 a0) a0.length)] (S.tup [S.agg [.v (.int .i64 r.1.xGeo.xThreads), .v (.int .i64 r.1.xGeo.xSlots), .v (.int .i64 r.1.xGeo.xThings), .sl (flat e_S_state_Slot r.1.xSlots) r.1.xSlots.length, .sl (flat e_S_thing_Thing r.1.xThings) r.1.xThings.length], S.one (.v (.int .i64 r.2))]) := by
 unfold m_image_Get at h
 refine PC_go f_image_Get rfl rfl ?_
 intro C hP
 unfold c_image_Get; dsimp
 apply E_seq
 apply E_ops
 refine W1 (does_newv rfl rfl) ?_
 apply WM
 apply W_nil
 refine E_keep [0, 2] [2] ?_
 (try dsimp)
 apply E_seq
 apply E_ops
 apply WM
 obtain ⟨x1, x1h, h⟩ := of_bind h
 refine W1 (does_call1 hP (p_super_Find F a0 x1 x1h) rfl rfl rfl) ?_
 apply WM
 refine WQ (does_ext rfl rfl) ?_
 refine WQ (does_ext rfl rfl) ?_
 refine WQ (does_ext rfl rfl) ?_
 refine W1 (does_newv rfl rfl) ?_
 refine W1 (does_store rfl rfl rfl rfl rfl (Nat.le_of_ble_eq_true rfl) rfl (by decide)) ?_
 apply WM
 apply WM
 apply W_nil
 refine E_keep [0, 2, 4, 5, 6] [2, 4] ?_
 (try dsimp)
 apply E_seq
 apply E_seq
 apply E_ops
 apply WM
 refine WQ (does_not rfl) ?_
 apply WM
 apply W_lazy
 ·rfl
 ·intro hB; (try simp only [hB, bss, ctt]); exact does_mv rfl
 apply W_lazy
 ·rfl
 ·intro hB; (try simp only [hB, bss, ctt]); exact does_not rfl
 refine WQ (does_and rfl rfl rfl) ?_
 apply W_nil
 refine E_keep [0, 2, 4, 28] [2, 4] ?_
 (try dsimp)
 refine E_cond rfl (fun hc2 => ?_) (fun hc2 => ?_)
 ·replace h := of_ct h hc2
  apply E_seq
  apply E_ops
  refine WQ (does_build rfl rfl) ?_
  refine W1 (does_store rfl rfl rfl rfl rfl (Nat.le_of_ble_eq_true rfl) rfl (by decide)) ?_
  apply WM
  apply W_nil
  refine E_keep [2, 3] [2] ?_
  (try dsimp)
  refine E_ghost (Le_nilR (q := 2) rfl).b ?_
  (try dsimp)
  apply E_ret
  cases h
  (try simp only [qt, qb, qn])
  refine fin_mk (xs := _) ⟨_, _, at_whole rfl (by simp), rfl, rfl, ⟨_, rfl, rfl⟩⟩ ?_
  rfl
 ·replace h := of_cf h hc2
  apply E_skip
  refine E_keep [0, 2, 4] [2, 4] ?_
  (try dsimp)
  apply E_seq
  apply E_ops
  refine WQ (does_add_ptr rfl rfl) ?_
  refine WQ (does_loadA_ptr rfl rfl rfl rfl (by decide)) ?_
  refine W1 (does_newv rfl rfl) ?_
  refine W1 (does_store rfl rfl rfl rfl rfl (Nat.le_of_ble_eq_true rfl) rfl (by decide)) ?_
  apply W_nil
  refine E_keep [0, 2, 7] [2, 7] ?_
  (try dsimp)
  apply E_seq
  apply E_ops
  refine WQ (does_loadA_ptr rfl rfl rfl rfl (by decide)) ?_
  refine WQ (does_build rfl rfl) ?_
  refine W1 (does_newv rfl rfl) ?_
  refine W1 (does_store rfl rfl rfl rfl rfl (Nat.le_of_ble_eq_true rfl) rfl (by decide)) ?_
  apply W_nil
  refine E_keep [0, 2, 7, 8] [2, 7, 8] ?_
  (try dsimp)
  obtain ⟨k4, k4d, h⟩ := of_jn h
  refine E_seqJ (α := (List S_state_Slot)) (fun (i : (List S_state_Slot)) => (⟨[(0, S.one (.sl (flat e_i_u64 a0) a0.length)), (2, S.one (.ptr 2 0)), (7, S.one (.ptr 7 0)), (8, S.one (.ptr 8 0))], [(2, (⟨true, [.v (.int .i64 (0 : Int)), .v (.int .i64 (0 : Int)), .v (.int .i64 (0 : Int)), .nil, .nil]⟩ : Reg)), (7, (⟨true, [.v (.int .i64 x1.1.xGeo.xThreads), .v (.int .i64 x1.1.xGeo.xSlots), .v (.int .i64 x1.1.xGeo.xThings)]⟩ : Reg)), (8, (⟨false, [.v (.int .i64 x1.1.xGeo.xThreads), .v (.int .i64 x1.1.xGeo.xSlots), .v (.int .i64 x1.1.xGeo.xThings), .own 1073 0 i.length (some (5, 111)), .nil]⟩ : Reg)), (1073, (⟨true, flat e_S_state_Slot i⟩ : Reg))]⟩ : St)) (fun i => k4 i = some r) (fun i h => ?_) ?_
  ·let iv := i; change k4 i = some r at h; generalize i = v3 at h ⊢
   rw [k4d] at h; dsimp only at h
   (try dsimp)
   obtain ⟨k6, k6d, h⟩ := of_jn h
   refine E_seqJ (α := (List S_thing_Thing)) (fun (i : (List S_thing_Thing)) => (⟨[(2, S.one (.ptr 2 0)), (8, S.one (.ptr 8 0))], [(2, (⟨true, [.v (.int .i64 (0 : Int)), .v (.int .i64 (0 : Int)), .v (.int .i64 (0 : Int)), .nil, .nil]⟩ : Reg)), (8, (⟨false, [.v (.int .i64 x1.1.xGeo.xThreads), .v (.int .i64 x1.1.xGeo.xSlots), .v (.int .i64 x1.1.xGeo.xThings), .own 1073 0 v3.length (some (5, 111)), .own 1100 0 i.length (some (13, 104))]⟩ : Reg)), (1073, (⟨true, flat e_S_state_Slot v3⟩ : Reg)), (1100, (⟨true, flat e_S_thing_Thing i⟩ : Reg))]⟩ : St)) (fun i => k6 i = some r) (fun i h => ?_) ?_
   ·let iv := i; change k6 i = some r at h; generalize i = v5 at h ⊢
    rw [k6d] at h; dsimp only at h
    (try dsimp)
    apply E_seq
    apply E_seq
    apply E_ops
    refine WQ (does_loadA_ptr rfl rfl rfl rfl (by decide)) ?_
    obtain ⟨x7, x7h, h⟩ := of_bind h
    refine W1 (does_callB hP (p_state_Good F (⟨x1.1.xGeo, v3, v5⟩ : S_state_State) x7 x7h) rfl rfl) ?_
    refine WQ (does_not rfl) ?_
    apply W_nil
    refine E_keep [2, 8, 105] [2, 8, 1073, 1100] ?_
    (try dsimp)
    refine E_cond rfl (fun hc8 => ?_) (fun hc8 => ?_)
    ·replace h := of_ct h hc8
     apply E_seq
     apply E_ops
     refine WQ (does_build rfl rfl) ?_
     refine W1 (does_store rfl rfl rfl rfl rfl (Nat.le_of_ble_eq_true rfl) rfl (by decide)) ?_
     apply WM
     apply W_nil
     refine E_keep [2, 3] [2] ?_
     (try dsimp)
     refine E_ghost (Le_nilR (q := 2) rfl).b ?_
     (try dsimp)
     apply E_ret
     cases h
     (try simp only [qt, qb, qn])
     refine fin_mk (xs := _) ⟨_, _, at_whole rfl (by simp), rfl, rfl, ⟨_, rfl, rfl⟩⟩ ?_
     rfl
    ·replace h := of_cf h hc8
     apply E_skip
     refine E_keep [2, 8] [2, 8, 1073, 1100] ?_
     (try dsimp)
     apply E_seq
     apply E_ops
     refine WQ (does_loadA_ptr rfl rfl rfl rfl (by decide)) ?_
     refine W1 (does_store rfl rfl rfl rfl rfl (Nat.le_of_ble_eq_true rfl) rfl (by decide)) ?_
     apply WM
     apply W_nil
     refine E_keep [2, 3] [2, 1073, 1100] ?_
     (try dsimp)
     refine E_ghost (Le_frz (r := 1073) rfl rfl).b ?_
     (try dsimp)
     refine E_ghost (Le_frz (r := 1100) rfl rfl).b ?_
     (try dsimp)
     apply E_ret
     cases h
     (try simp only [qt, qb, qn])
     refine fin_mk (xs := _) ⟨_, _, at_whole rfl (by simp), rfl, rfl, ⟨_, rfl, rfl⟩⟩ ?_
     rfl
   ·
    skip
    apply E_seq
    apply E_ops
    refine WQ (does_add_ptr rfl rfl) ?_
    refine WQ (does_load1_ptr rfl rfl rfl) ?_
    apply WM
    apply W_nil
    refine E_keep [0, 2, 7, 8, 77, 78] [2, 7, 8, 1073] ?_
    (try dsimp)
    apply E_block
    (try dsimp)
    refine E_loopB (α := Int × (List S_thing_Thing)) (fun (i : Int × (List S_thing_Thing)) => (⟨[(0, S.one (.sl (flat e_i_u64 a0) a0.length)), (2, S.one (.ptr 2 0)), (7, S.one (.ptr 7 0)), (8, S.one (.ptr 8 0)), (77, S.one (.v (.int .i64 x1.1.xGeo.xThings))), (78, S.one (.v (.int .i64 i.1)))], [(2, (⟨true, [.v (.int .i64 (0 : Int)), .v (.int .i64 (0 : Int)), .v (.int .i64 (0 : Int)), .nil, .nil]⟩ : Reg)), (7, (⟨true, [.v (.int .i64 x1.1.xGeo.xThreads), .v (.int .i64 x1.1.xGeo.xSlots), .v (.int .i64 x1.1.xGeo.xThings)]⟩ : Reg)), (8, (⟨false, [.v (.int .i64 x1.1.xGeo.xThreads), .v (.int .i64 x1.1.xGeo.xSlots), .v (.int .i64 x1.1.xGeo.xThings), .own 1073 0 v3.length (some (5, 111)), .own 1100 0 i.2.length (some (13, 104))]⟩ : Reg)), (1073, (⟨true, flat e_S_state_Slot v3⟩ : Reg)), (1100, (⟨true, flat e_S_thing_Thing i.2⟩ : Reg))]⟩ : St)) (fun n i => m_image_Get_l0 F a0 x1 k6 n i.1 i.2 = some r) F ((0 : Int), ([] : List S_thing_Thing)) h ?_ (fun n i h => ?_)
    ·
     refine LeB_trans (LeB_nilownB (q := 8) (j := 4) (r := 1100) 13 104 rfl rfl rfl rfl) ?_
     exact (Le.b (le_mk ⟨rfl, rfl, rfl, rfl, rfl, rfl, trivial⟩ ⟨rfl, rfl, rfl, rfl, rfl, trivial⟩))
    obtain ⟨v27, v28⟩ := i; dsimp only at h
    cases n with
    | zero => cases h
    | succ n29 =>
     unfold m_image_Get_l0 at h
     (try dsimp)
     apply E_seq
     apply E_ops
     refine WQ (does_int rfl rfl rfl) ?_
     apply W_nil
     (try dsimp)
     apply E_seq
     refine E_cond rfl (fun hc30 => ?_) (fun hc30 => ?_)
     ·replace h := of_ct h hc30
      apply E_skip
      refine E_keep [0, 2, 7, 8, 77, 78] [2, 7, 8, 1073, 1100] ?_
      (try dsimp)
      apply E_seq
      apply E_block
      apply E_seq
      apply E_ops
      apply WM
      apply WM
      apply W_nil
      refine E_keep [0, 2, 7, 8, 13, 77, 78] [2, 7, 8, 1073, 1100] ?_
      (try dsimp)
      apply E_seq
      apply E_ops
      refine WQ (does_loadA_ptr rfl rfl rfl rfl (by decide)) ?_
      apply WM
      obtain ⟨x31, x31h, h⟩ := of_bind h
      refine W1 (does_call1 hP (p_geo_Thing F x1.1.xGeo v27 x31 x31h) rfl rfl rfl) ?_
      apply WM
      apply W_nil
      refine E_keep [0, 2, 7, 8, 14, 77, 78] [2, 7, 8, 1073, 1100] ?_
      (try dsimp)
      apply E_seq
      apply E_ops
      apply WM
      apply WM
      apply WM
      obtain ⟨g32, h⟩ := of_gd h
      refine WQ (does_add rfl rfl g32.1 g32.2) ?_
      obtain ⟨g33, h⟩ := of_gd h
      refine WQ (does_slc_slF rfl (fun _ => rfl) rfl rfl g33.1 g33.2.1 g33.2.2) ?_
      obtain ⟨x34, x34h, h⟩ := of_bind h
      refine W1 (does_call1 hP (p_thing_Get F (cut a0 x31 (x31 + (8 : Int))) x34 x34h) rfl rfl rfl) ?_
      apply WM
      refine WQ (does_ext rfl rfl) ?_
      refine WQ (does_ext rfl rfl) ?_
      refine W1 (does_newv rfl rfl) ?_
      refine W1 (does_store rfl rfl rfl rfl rfl (Nat.le_of_ble_eq_true rfl) rfl (by decide)) ?_
      apply WM
      apply W_nil
      refine E_keep [0, 2, 7, 8, 15, 16, 77, 78] [2, 7, 8, 15, 1073, 1100] ?_
      (try dsimp)
      apply E_seq
      apply E_seq
      apply E_ops
      apply WM
      refine WQ (does_not rfl) ?_
      apply W_nil
      refine E_keep [0, 2, 7, 8, 15, 77, 78, 94] [2, 7, 8, 15, 1073, 1100] ?_
      (try dsimp)
      refine E_cond rfl (fun hc35 => ?_) (fun hc35 => ?_)
      ·replace h := of_ct h hc35
       apply E_seq
       apply E_ops
       refine WQ (does_build rfl rfl) ?_
       refine W1 (does_store rfl rfl rfl rfl rfl (Nat.le_of_ble_eq_true rfl) rfl (by decide)) ?_
       apply WM
       apply W_nil
       refine E_keep [2, 3] [2] ?_
       (try dsimp)
       refine E_ghost (Le_nilR (q := 2) rfl).b ?_
       (try dsimp)
       apply E_ret
       cases h
       (try simp only [qt, qb, qn])
       refine fin_mk (xs := _) ⟨_, _, at_whole rfl (by simp), rfl, rfl, ⟨_, rfl, rfl⟩⟩ ?_
       rfl
      ·replace h := of_cf h hc35
       apply E_skip
       refine E_keep [0, 2, 7, 8, 15, 77, 78] [2, 7, 8, 15, 1073, 1100] ?_
       (try dsimp)
       apply E_ops
       refine WQ (does_add_ptr rfl rfl) ?_
       refine WQ (does_load1_ptr rfl rfl rfl) ?_
       refine WQ (does_loadA_ptr rfl rfl rfl rfl (by decide)) ?_
       refine W1 (does_bslice rfl rfl rfl rfl) ?_
       obtain ⟨g36, h⟩ := of_gd h
       refine W1 (does_appF (e := e_S_thing_Thing) rfl rfl (fun _ => rfl) (fun _ => rfl) rfl (Src.lit (e := e_S_thing_Thing) ([x34.1] : List S_thing_Thing) rfl (fun _ => rfl) rfl rfl) g36 rfl) ?_
       refine WQ (does_add_ptr rfl rfl) ?_
       refine W1 (does_store rfl rfl rfl rfl rfl (Nat.le_of_ble_eq_true rfl) rfl (by decide)) ?_
       apply W_nil
       refine E_keep [0, 2, 7, 8, 77, 78] [2, 7, 8, 1073, 1100] ?_
       (try dsimp)
       apply E_ops
       obtain ⟨g37, h⟩ := of_gd h
       refine WQ (does_add rfl rfl g37.1 g37.2) ?_
       apply WM
       apply W_nil
       refine ⟨n29, ((v27 + (1 : Int)), (v28 ++ ([x34.1] : List S_thing_Thing))), Nat.lt_succ_self _, h, ?_⟩
       exact (Le.b (le_mk ⟨rfl, rfl, rfl, rfl, rfl, rfl, trivial⟩ ⟨rfl, rfl, rfl, rfl, rfl, trivial⟩))
     ·replace h := of_cf h hc30
      apply E_exit
      refine ⟨v28, h, ?_⟩
      exact (Le.b (le_mk ⟨rfl, rfl, trivial⟩ ⟨rfl, rfl, rfl, rfl, trivial⟩))
  ·
   skip
   apply E_seq
   apply E_ops
   refine WQ (does_add_ptr rfl rfl) ?_
   refine WQ (does_load1_ptr rfl rfl rfl) ?_
   apply WM
   apply W_nil
   refine E_keep [0, 2, 7, 8, 35, 36] [2, 7, 8] ?_
   (try dsimp)
   apply E_block
   (try dsimp)
   refine E_loopB (α := Int × (List S_state_Slot)) (fun (i : Int × (List S_state_Slot)) => (⟨[(0, S.one (.sl (flat e_i_u64 a0) a0.length)), (2, S.one (.ptr 2 0)), (7, S.one (.ptr 7 0)), (8, S.one (.ptr 8 0)), (35, S.one (.v (.int .i64 x1.1.xGeo.xSlots))), (36, S.one (.v (.int .i64 i.1)))], [(2, (⟨true, [.v (.int .i64 (0 : Int)), .v (.int .i64 (0 : Int)), .v (.int .i64 (0 : Int)), .nil, .nil]⟩ : Reg)), (7, (⟨true, [.v (.int .i64 x1.1.xGeo.xThreads), .v (.int .i64 x1.1.xGeo.xSlots), .v (.int .i64 x1.1.xGeo.xThings)]⟩ : Reg)), (8, (⟨false, [.v (.int .i64 x1.1.xGeo.xThreads), .v (.int .i64 x1.1.xGeo.xSlots), .v (.int .i64 x1.1.xGeo.xThings), .own 1073 0 i.2.length (some (5, 111)), .nil]⟩ : Reg)), (1073, (⟨true, flat e_S_state_Slot i.2⟩ : Reg))]⟩ : St)) (fun n i => m_image_Get_l1 F a0 x1 k4 n i.1 i.2 = some r) F ((0 : Int), ([] : List S_state_Slot)) h ?_ (fun n i h => ?_)
   ·
    refine LeB_trans (LeB_nilownB (q := 8) (j := 3) (r := 1073) 5 111 rfl rfl rfl rfl) ?_
    exact (Le.b (le_mk ⟨rfl, rfl, rfl, rfl, rfl, rfl, trivial⟩ ⟨rfl, rfl, rfl, rfl, trivial⟩))
   obtain ⟨v68, v69⟩ := i; dsimp only at h
   cases n with
   | zero => cases h
   | succ n70 =>
    unfold m_image_Get_l1 at h
    (try dsimp)
    apply E_seq
    apply E_ops
    refine WQ (does_int rfl rfl rfl) ?_
    apply W_nil
    (try dsimp)
    apply E_seq
    refine E_cond rfl (fun hc71 => ?_) (fun hc71 => ?_)
    ·replace h := of_ct h hc71
     apply E_skip
     refine E_keep [0, 2, 7, 8, 35, 36] [2, 7, 8, 1073] ?_
     (try dsimp)
     obtain ⟨k73, k73d, h⟩ := of_jn h
     refine E_seqJ (α := (List S_state_Slot)) (fun (i : (List S_state_Slot)) => (⟨[(0, S.one (.sl (flat e_i_u64 a0) a0.length)), (2, S.one (.ptr 2 0)), (7, S.one (.ptr 7 0)), (8, S.one (.ptr 8 0)), (35, S.one (.v (.int .i64 x1.1.xGeo.xSlots))), (36, S.one (.v (.int .i64 v68)))], [(2, (⟨true, [.v (.int .i64 (0 : Int)), .v (.int .i64 (0 : Int)), .v (.int .i64 (0 : Int)), .nil, .nil]⟩ : Reg)), (7, (⟨true, [.v (.int .i64 x1.1.xGeo.xThreads), .v (.int .i64 x1.1.xGeo.xSlots), .v (.int .i64 x1.1.xGeo.xThings)]⟩ : Reg)), (8, (⟨false, [.v (.int .i64 x1.1.xGeo.xThreads), .v (.int .i64 x1.1.xGeo.xSlots), .v (.int .i64 x1.1.xGeo.xThings), .own 1073 0 i.length (some (5, 111)), .nil]⟩ : Reg)), (1073, (⟨true, flat e_S_state_Slot i⟩ : Reg))]⟩ : St)) (fun i => k73 i = some r) (fun i h => ?_) ?_
     ·let iv := i; change k73 i = some r at h; generalize i = v72 at h ⊢
      rw [k73d] at h; dsimp only at h
      (try dsimp)
      apply E_ops
      obtain ⟨g74, h⟩ := of_gd h
      refine WQ (does_add rfl rfl g74.1 g74.2) ?_
      apply WM
      apply W_nil
      refine ⟨n70, ((v68 + (1 : Int)), v72), Nat.lt_succ_self _, h, ?_⟩
      exact (Le.b (le_mk ⟨rfl, rfl, rfl, rfl, rfl, rfl, trivial⟩ ⟨rfl, rfl, rfl, rfl, trivial⟩))
     ·
      skip
      apply E_block
      apply E_seq
      apply E_ops
      apply WM
      apply WM
      apply W_nil
      refine E_keep [0, 2, 7, 8, 9, 35, 36] [2, 7, 8, 1073] ?_
      (try dsimp)
      apply E_seq
      apply E_ops
      refine WQ (does_loadA_ptr rfl rfl rfl rfl (by decide)) ?_
      apply WM
      obtain ⟨x75, x75h, h⟩ := of_bind h
      refine W1 (does_call1 hP (p_geo_Slot F x1.1.xGeo v68 x75 x75h) rfl rfl rfl) ?_
      apply WM
      apply W_nil
      refine E_keep [0, 2, 7, 8, 10, 35, 36] [2, 7, 8, 1073] ?_
      (try dsimp)
      apply E_seq
      apply E_ops
      apply WM
      apply WM
      obtain ⟨g76, h⟩ := of_gd h
      refine WQ (does_idx_sl rfl rfl g76.1 g76.2) ?_
      refine WQ (does_load1_slF (k := 1) rfl (fun _ => rfl) g76 0 rfl rfl) ?_
      obtain ⟨x77, x77h, h⟩ := of_bind h
      refine W1 (does_call1 hP (p_cap_Get F (nth a0 x75) x77 x77h) rfl rfl rfl) ?_
      apply WM
      refine WQ (does_ext rfl rfl) ?_
      refine WQ (does_ext rfl rfl) ?_
      refine W1 (does_newv rfl rfl) ?_
      refine W1 (does_store rfl rfl rfl rfl rfl (Nat.le_of_ble_eq_true rfl) rfl (by decide)) ?_
      apply WM
      apply W_nil
      refine E_keep [0, 2, 7, 8, 10, 11, 12, 35, 36] [2, 7, 8, 11, 1073] ?_
      (try dsimp)
      apply E_seq
      apply E_seq
      apply E_ops
      apply WM
      refine WQ (does_not rfl) ?_
      apply WM
      apply W_lazy
      ·rfl
      ·intro hB; (try simp only [hB, bss, ctt]); exact does_mv rfl
      apply W_lazy
      ·rfl
      ·intro hB; (try simp only [hB, bss, ctt]); exact does_mv rfl
      obtain ⟨g78, h⟩ := of_gd h
      apply W_lazy
      ·rfl
      ·intro hB; (try simp only [hB, bss, ctt]); exact does_add rfl rfl (g78 hB).1 (g78 hB).2
      obtain ⟨g79, h⟩ := of_gd h
      apply W_lazy
      ·rfl
      ·intro hB; (try simp only [hB, bss, ctt]); exact does_idx_sl rfl rfl (g79 hB).1 (g79 hB).2
      apply W_lazy
      ·rfl
      ·intro hB; (try simp only [hB, bss, ctt]); exact does_load1_slF (k := 1) rfl (fun _ => rfl) (g79 hB) 0 rfl rfl
      apply W_lazy
      ·rfl
      ·intro hB; (try simp only [hB, bss, ctt]); exact does_int rfl rfl rfl
      refine WQ (does_or rfl rfl rfl) ?_
      apply W_nil
      refine E_keep [0, 2, 7, 8, 10, 11, 35, 36, 59] [2, 7, 8, 11, 1073] ?_
      (try dsimp)
      refine E_cond rfl (fun hc80 => ?_) (fun hc80 => ?_)
      ·replace h := of_ct h hc80
       apply E_seq
       apply E_ops
       refine WQ (does_build rfl rfl) ?_
       refine W1 (does_store rfl rfl rfl rfl rfl (Nat.le_of_ble_eq_true rfl) rfl (by decide)) ?_
       apply WM
       apply W_nil
       refine E_keep [2, 3] [2] ?_
       (try dsimp)
       refine E_ghost (Le_nilR (q := 2) rfl).b ?_
       (try dsimp)
       apply E_ret
       cases h
       (try simp only [qt, qb, qn])
       refine fin_mk (xs := _) ⟨_, _, at_whole rfl (by simp), rfl, rfl, ⟨_, rfl, rfl⟩⟩ ?_
       rfl
      ·replace h := of_cf h hc80
       apply E_skip
       refine E_keep [0, 2, 7, 8, 10, 11, 35, 36] [2, 7, 8, 11, 1073] ?_
       (try dsimp)
       obtain ⟨g81, h⟩ := of_gd h
       obtain ⟨g82, h⟩ := of_gd h
       obtain ⟨g83, h⟩ := of_gd h
       obtain ⟨g84, h⟩ := of_gd h
       refine E_draw [0, 1, 2, 6, 7, 8, 9, 10] ?_
       refine XQ 0 rfl rfl rfl (does_add_ptr rfl rfl) ?_
       refine XQ 1 rfl rfl rfl (does_load1_ptr rfl rfl rfl) ?_
       refine XQ 2 rfl rfl rfl (does_loadA_ptr rfl rfl rfl rfl (by decide)) ?_
       refine X2 rfl ?_ ?_
       ·
        refine XK rfl ((does_mv rfl).does) ?_
        refine X1 rfl (XK rfl ((does_mv rfl).does) ?_)
        refine X1 rfl (XK rfl ((does_add rfl rfl g81.1 g81.2).does) ?_)
        refine XQ 6 rfl rfl rfl (does_idx_sl rfl rfl g82.1 g82.2) ?_
        refine XQ 7 rfl rfl rfl (does_load1_slF (k := 1) rfl (fun _ => rfl) g82 0 rfl rfl) ?_
        refine XQ 8 rfl rfl rfl (does_convI rfl) ?_
        refine XQ 9 rfl rfl rfl (does_sub rfl rfl g83.1 g83.2) ?_
        refine XQ 10 rfl rfl rfl (does_build rfl rfl) ?_
        refine X1 rfl (XK rfl (does_bslice rfl rfl rfl rfl) ?_)
        refine X1 rfl (XT rfl rfl (does_appF (e := e_S_state_Slot) rfl rfl (fun _ => rfl) (fun _ => rfl) rfl (Src.lit (e := e_S_state_Slot) ([(⟨x77.1, ((IntKind.i64.wrap (nth a0 (x75 + (1 : Int)))) - (1 : Int))⟩ : S_state_Slot)] : List S_state_Slot) rfl (fun _ => rfl) rfl rfl) g84 rfl) ?_)
        refine X1 rfl (XT rfl rfl ((does_add_ptr rfl rfl).does) ?_)
        refine X1 rfl (XT rfl rfl (does_store rfl rfl rfl rfl rfl (Nat.le_of_ble_eq_true rfl) rfl (by decide)) ?_)
        refine X_nil rfl ?_
        refine ⟨(v69 ++ ([(⟨x77.1, ((IntKind.i64.wrap (nth a0 (x75 + (1 : Int)))) - (1 : Int))⟩ : S_state_Slot)] : List S_state_Slot)), h, ?_⟩
        exact (Le.b (le_mk ⟨rfl, rfl, rfl, rfl, rfl, rfl, trivial⟩ ⟨rfl, rfl, rfl, rfl, trivial⟩))
       ·
        refine XK rfl ((does_mv rfl).does) ?_
        refine X2 rfl ?_ ?_
        ·
         refine XK rfl ((does_mv rfl).does) ?_
         refine X1 rfl (XK rfl ((does_add rfl rfl g81.1 g81.2).does) ?_)
         refine XQ 6 rfl rfl rfl (does_idx_sl rfl rfl g82.1 g82.2) ?_
         refine XQ 7 rfl rfl rfl (does_load1_slF (k := 1) rfl (fun _ => rfl) g82 0 rfl rfl) ?_
         refine XQ 8 rfl rfl rfl (does_convI rfl) ?_
         refine XQ 9 rfl rfl rfl (does_sub rfl rfl g83.1 g83.2) ?_
         refine XQ 10 rfl rfl rfl (does_build rfl rfl) ?_
         refine X1 rfl (XK rfl (does_bslice rfl rfl rfl rfl) ?_)
         refine X1 rfl (XT rfl rfl (does_appF (e := e_S_state_Slot) rfl rfl (fun _ => rfl) (fun _ => rfl) rfl (Src.lit (e := e_S_state_Slot) ([(⟨x77.1, ((IntKind.i64.wrap (nth a0 (x75 + (1 : Int)))) - (1 : Int))⟩ : S_state_Slot)] : List S_state_Slot) rfl (fun _ => rfl) rfl rfl) g84 rfl) ?_)
         refine X1 rfl (XT rfl rfl ((does_add_ptr rfl rfl).does) ?_)
         refine X1 rfl (XT rfl rfl (does_store rfl rfl rfl rfl rfl (Nat.le_of_ble_eq_true rfl) rfl (by decide)) ?_)
         refine X_nil rfl ?_
         refine ⟨(v69 ++ ([(⟨x77.1, ((IntKind.i64.wrap (nth a0 (x75 + (1 : Int)))) - (1 : Int))⟩ : S_state_Slot)] : List S_state_Slot)), h, ?_⟩
         exact (Le.b (le_mk ⟨rfl, rfl, rfl, rfl, rfl, rfl, trivial⟩ ⟨rfl, rfl, rfl, rfl, trivial⟩))
        ·
         refine XK rfl ((does_add rfl rfl g81.1 g81.2).does) ?_
         refine X1 rfl (XK rfl ((does_mv rfl).does) ?_)
         refine XQ 6 rfl rfl rfl (does_idx_sl rfl rfl g82.1 g82.2) ?_
         refine XQ 7 rfl rfl rfl (does_load1_slF (k := 1) rfl (fun _ => rfl) g82 0 rfl rfl) ?_
         refine XQ 8 rfl rfl rfl (does_convI rfl) ?_
         refine XQ 9 rfl rfl rfl (does_sub rfl rfl g83.1 g83.2) ?_
         refine XQ 10 rfl rfl rfl (does_build rfl rfl) ?_
         refine X1 rfl (XK rfl (does_bslice rfl rfl rfl rfl) ?_)
         refine X1 rfl (XT rfl rfl (does_appF (e := e_S_state_Slot) rfl rfl (fun _ => rfl) (fun _ => rfl) rfl (Src.lit (e := e_S_state_Slot) ([(⟨x77.1, ((IntKind.i64.wrap (nth a0 (x75 + (1 : Int)))) - (1 : Int))⟩ : S_state_Slot)] : List S_state_Slot) rfl (fun _ => rfl) rfl rfl) g84 rfl) ?_)
         refine X1 rfl (XT rfl rfl ((does_add_ptr rfl rfl).does) ?_)
         refine X1 rfl (XT rfl rfl (does_store rfl rfl rfl rfl rfl (Nat.le_of_ble_eq_true rfl) rfl (by decide)) ?_)
         refine X_nil rfl ?_
         refine ⟨(v69 ++ ([(⟨x77.1, ((IntKind.i64.wrap (nth a0 (x75 + (1 : Int)))) - (1 : Int))⟩ : S_state_Slot)] : List S_state_Slot)), h, ?_⟩
         exact (Le.b (le_mk ⟨rfl, rfl, rfl, rfl, rfl, rfl, trivial⟩ ⟨rfl, rfl, rfl, rfl, trivial⟩))
    ·replace h := of_cf h hc71
     apply E_exit
     refine ⟨v69, h, ?_⟩
     exact (Le.b (le_mk ⟨rfl, rfl, rfl, rfl, trivial⟩ ⟨rfl, rfl, rfl, rfl, trivial⟩))
/- reeve/boot.read -/
def c_boot_read : VCode := (.seq (.ops [(o (.newv [zi, zi, zi, .nil, .nil, .nil, zu, zb]) 2), (o (.mv (cb false)) 3)]) (.seq (.ops [(w 20 0), (o (.call 66 [(t 20)]) 21), (w 19 21), (o (.ext 0 (t 19)) 22), (o (.ext 1 (t 19)) 23), (o (.ext 2 (t 19)) 24), (o (.newv [zi, zi, zi, zu]) 4), (n_ (.store 4 (t 4) (t 22))), (w 5 23), (w 6 24)]) (.seq (.seq (.ops [(w 25 5), (o (.un .not (t 25)) 26), (w 27 26), (g_ (.mv (t 6)) 28 27 true), (g_ (.un .not (t 28)) 29 27 true), (o (.pick (t 27) (t 29) (cb false)) 30)]) (.cond (t 30) (.seq (.ops [(o (.build [zi, zi, zi, .nil, .nil, .nil, zu, zb] []) 31), (n_ (.store 8 (t 2) (t 31))), (o (.mv (cb false)) 3)]) .ret) .skip)) (.seq (.ops [(o (.add 3 (t 4)) 32), (o (.load false 1 (t 32)) 33), (w 34 5), (o (.build [zi, zi, zi, .nil, .nil, .nil, zu, zb] [(6, (1, (t 33))), (7, (1, (t 34)))]) 35), (o (.newv [zi, zi, zi, .nil, .nil, .nil, zu, zb]) 7), (n_ (.store 8 (t 7) (t 35)))]) (.seq (.seq (.ops [(w 37 0), (w 38 0), (o (.len false (t 38)) 39), (o (.bin .sub 3 (t 39) (ci 8)) 40), (o (.slc 1 (t 37) (.some (t 40)) .none .none) 41), (o (.call 67 [(t 41)]) 42), (w 36 42), (o (.ext 0 (t 36)) 43), (o (.ext 1 (t 36)) 44), (o (.newv [zi, zi, zi, zu]) 8), (n_ (.store 4 (t 8) (t 43))), (w 9 44)]) (.seq (.ops [(w 45 9), (w 46 45), (g_ (.mv (t 6)) 47 46 true), (o (.pick (t 46) (t 47) (cb false)) 48)]) (.cond (t 48) (.ops [(o (.add 6 (t 7)) 49), (o (.load false 1 (t 49)) 50), (o (.add 3 (t 8)) 51), (o (.load false 1 (t 51)) 52), (o (.bi .max #[42, 42] 42 #[false, false] [(t 50), (t 52)]) 53), (o (.add 6 (t 7)) 54), (n_ (.store 1 (t 54) (t 53)))]) .skip))) (.seq (.seq (.ops [(o (.add 6 (t 7)) 55), (o (.load false 1 (t 55)) 56), (o (.bin .geq 42 (t 56) (.const (.int .u64 4611686018427387904))) 57)]) (.cond (t 57) (.seq (.ops [(o (.build [zi, zi, zi, .nil, .nil, .nil, zu, zb] []) 58), (n_ (.store 8 (t 2) (t 58))), (o (.mv (cb false)) 3)]) .ret) .skip)) (.seq (.ops [(o (.add 6 (t 7)) 59), (o (.load false 1 (t 59)) 60), (o (.bin .add 42 (t 60) (.const (.int .u64 1))) 61), (o (.add 6 (t 7)) 62), (n_ (.store 1 (t 62) (t 61)))]) (.seq (.ops [(o (.add 0 (t 4)) 63), (o (.load true 3 (t 63)) 64), (o (.newv [zi, zi, zi]) 10), (n_ (.store 3 (t 10) (t 64)))]) (.seq (.ops [(o (.mv (ci 0)) 11)]) (.seq (.seq (.ops [(o (.add 0 (t 10)) 65), (o (.load false 1 (t 65)) 66), (o (.mv (ci 0)) 67)]) (.block 0 (.loop (.seq (.ops [(o (.bin .lss 3 (t 67) (t 66)) 68)]) (.seq (.cond (t 68) .skip (.exit 0)) (.seq (.block 1 (.seq (.ops [(w 69 67), (w 12 69)]) (.seq (.ops [(o (.load true 3 (t 10)) 71), (w 72 12), (o (.call 30 [(t 71), (t 72)]) 73), (w 70 73), (o (.ext 0 (t 70)) 74), (o (.ext 1 (t 70)) 75), (w 13 74), (w 14 75)]) (.seq (.draw [((o (.load true 3 (t 10)) 77), []), ((w 78 0), []), ((w 79 13), []), ((w 80 13), []), ((w 81 14), []), ((o (.bin .add 3 (t 80) (t 81)) 82), [3, 4]), ((o (.slc 1 (t 78) (.some (t 79)) (.some (t 82)) .none) 83), [1, 2, 5]), ((o (.call 68 [(t 77), (t 83)]) 84), [0, 6]), ((w 76 84), [7]), ((o (.ext 0 (t 76)) 85), [8]), ((o (.ext 1 (t 76)) 86), [8]), ((o (.newv [zi, zu, zu, zu, zu, zu, zi, zu, zi, .nil]) 15), []), ((n_ (.store 10 (t 15) (t 85))), [11, 9, 7, 0, 1, 2, 3, 4, 5, 6, 7, 8, 9, 11]), ((w 16 86), [10, 12, 0, 1, 2, 3, 4, 5, 6, 7, 8, 9, 10, 11, 12])]) (.seq (.seq (.ops [(w 87 16), (o (.un .not (t 87)) 88)]) (.cond (t 88) (.seq (.ops [(o (.build [zi, zi, zi, .nil, .nil, .nil, zu, zb] []) 89), (n_ (.store 8 (t 2) (t 89))), (o (.mv (cb false)) 3)]) .ret) .skip)) (.seq (.seq (.ops [(o (.add 0 (t 15)) 90), (o (.load false 1 (t 90)) 91), (o (.bin .eql 3 (t 91) (ci 2)) 92)]) (.cond (t 92) (.seq (.ops [(w 93 11), (o (.bin .add 3 (t 93) (ci 1)) 94), (w 11 94)]) (.ops [(w 95 0), (o (.add 9 (t 15)) 96), (o (.load false 1 (t 96)) 97), (o (.call 53 [(t 95), (t 97)]) 98), (w 0 98)])) .skip)) (.ops [(o (.add 5 (t 7)) 99), (o (.load false 1 (t 99)) 100), (o (.load true 10 (t 15)) 101), (o (.bslice 10 57 1 [zi, zu, zu, zu, zu, zu, zi, zu, zi, .nil] [(0, (10, (t 101)))]) 102), (o (.app 28 57 10 96 (t 100) (t 102)) 103), (o (.add 5 (t 7)) 104), (n_ (.store 1 (t 104) (t 103)))]))))))) (.ops [(o (.bin .add 3 (t 67) (ci 1)) 105), (w 67 105)]))))))) (.seq (.ops [(w 107 0), (o (.call 54 [(t 107)]) 108), (w 106 108), (o (.ext 0 (t 106)) 109), (o (.ext 1 (t 106)) 110), (o (.newv [zi, zi, zi, .nil, .nil]) 17), (n_ (.store 5 (t 17) (t 109))), (w 18 110)]) (.seq (.ops [(o (.load true 5 (t 17)) 111), (o (.add 0 (t 7)) 112), (n_ (.store 5 (t 112) (t 111)))]) (.seq (.ops [(o (.load true 8 (t 7)) 113), (w 114 11), (o (.bin .leq 3 (t 114) (ci 1)) 115), (w 116 115), (g_ (.mv (t 18)) 117 116 true), (g_ (.bin .eql 33 (t 117) (ci 0)) 118 116 true), (o (.pick (t 116) (t 118) (cb false)) 119), (n_ (.store 8 (t 2) (t 113))), (w 3 119)]) .ret)))))))))))))
theorem f_boot_read : Fits Tryz.prog 33 1 c_boot_read [(.cell true 8 2), (.tmp 3)] := fits_mk Tryz.func33 (by kernel_rfl) (by kernel_rfl) (by kernel_rfl)
theorem p_boot_read (F : Nat) (a0 : (List Int)) (r : S_boot_plan × Bool) (h : m_boot_read F a0 = some r) : PC Tryz.prog 33 [S.one (.sl (flat e_i_u64 a0) a0.length)] (S.tup [S.agg [.v (.int .i64 r.1.xs.xGeo.xThreads), .v (.int .i64 r.1.xs.xGeo.xSlots), .v (.int .i64 r.1.xs.xGeo.xThings), .sl (flat e_S_state_Slot r.1.xs.xSlots) r.1.xs.xSlots.length, .sl (flat e_S_thing_Thing r.1.xs.xThings) r.1.xs.xThings.length, .sl (flat e_S_opd_Desc r.1.xwas) r.1.xwas.length, .v (.int .u64 r.1.xboot), .v (.bool r.1.xfirst)], S.one (.v (.bool r.2))]) := by
 unfold m_boot_read at h
 refine PC_go f_boot_read rfl rfl ?_
 intro C hP
 unfold c_boot_read; dsimp
 apply E_seq
 apply E_ops
 refine W1 (does_newv rfl rfl) ?_
 apply WM
 apply W_nil
 refine E_keep [0, 2] [2] ?_
 (try dsimp)
 apply E_seq
 apply E_ops
 apply WM
 obtain ⟨x1, x1h, h⟩ := of_bind h
 refine W1 (does_call1 hP (p_super_Find F a0 x1 x1h) rfl rfl rfl) ?_
 apply WM
 refine WQ (does_ext rfl rfl) ?_
 refine WQ (does_ext rfl rfl) ?_
 refine WQ (does_ext rfl rfl) ?_
 refine W1 (does_newv rfl rfl) ?_
 refine W1 (does_store rfl rfl rfl rfl rfl (Nat.le_of_ble_eq_true rfl) rfl (by decide)) ?_
 apply WM
 apply WM
 apply W_nil
 refine E_keep [0, 2, 4, 5, 6] [2, 4] ?_
 (try dsimp)
 apply E_seq
 apply E_seq
 apply E_ops
 apply WM
 refine WQ (does_not rfl) ?_
 apply WM
 apply W_lazy
 ·rfl
 ·intro hB; (try simp only [hB, bss, ctt]); exact does_mv rfl
 apply W_lazy
 ·rfl
 ·intro hB; (try simp only [hB, bss, ctt]); exact does_not rfl
 refine WQ (does_and rfl rfl rfl) ?_
 apply W_nil
 refine E_keep [0, 2, 4, 5, 6, 30] [2, 4] ?_
 (try dsimp)
 refine E_cond rfl (fun hc2 => ?_) (fun hc2 => ?_)
 ·replace h := of_ct h hc2
  apply E_seq
  apply E_ops
  refine WQ (does_build rfl rfl) ?_
  refine W1 (does_store rfl rfl rfl rfl rfl (Nat.le_of_ble_eq_true rfl) rfl (by decide)) ?_
  apply WM
  apply W_nil
  refine E_keep [2, 3] [2] ?_
  (try dsimp)
  refine E_ghost (Le_nilR (q := 2) rfl).b ?_
  (try dsimp)
  apply E_ret
  cases h
  (try simp only [qt, qb, qn])
  refine fin_mk (xs := _) ⟨_, _, at_whole rfl (by simp), rfl, rfl, ⟨_, rfl, rfl⟩⟩ ?_
  rfl
 ·replace h := of_cf h hc2
  apply E_skip
  refine E_keep [0, 2, 4, 5, 6] [2, 4] ?_
  (try dsimp)
  apply E_seq
  apply E_ops
  refine WQ (does_add_ptr rfl rfl) ?_
  refine WQ (does_load1_ptr rfl rfl rfl) ?_
  apply WM
  refine WQ (does_build rfl rfl) ?_
  refine W1 (does_newv rfl rfl) ?_
  refine W1 (does_store rfl rfl rfl rfl rfl (Nat.le_of_ble_eq_true rfl) rfl (by decide)) ?_
  apply W_nil
  refine E_keep [0, 2, 4, 6, 7] [2, 4, 7] ?_
  (try dsimp)
  obtain ⟨k4, k4d, h⟩ := of_jn h
  refine E_seqJ (α := Int) (fun (i : Int) => (⟨[(0, S.one (.sl (flat e_i_u64 a0) a0.length)), (2, S.one (.ptr 2 0)), (4, S.one (.ptr 4 0)), (7, S.one (.ptr 7 0))], [(2, (⟨true, [.v (.int .i64 (0 : Int)), .v (.int .i64 (0 : Int)), .v (.int .i64 (0 : Int)), .nil, .nil, .nil, .v (.int .u64 (0 : Int)), .v (.bool false)]⟩ : Reg)), (4, (⟨true, [.v (.int .i64 x1.1.xGeo.xThreads), .v (.int .i64 x1.1.xGeo.xSlots), .v (.int .i64 x1.1.xGeo.xThings), .v (.int .u64 x1.1.xBoot)]⟩ : Reg)), (7, (⟨true, [.v (.int .i64 (0 : Int)), .v (.int .i64 (0 : Int)), .v (.int .i64 (0 : Int)), .nil, .nil, .nil, .v (.int .u64 i), .v (.bool x1.2.1)]⟩ : Reg))]⟩ : St)) (fun i => k4 i = some r) (fun i h => ?_) ?_
  ·let iv := i; change k4 i = some r at h; generalize i = v3 at h ⊢
   rw [k4d] at h; dsimp only at h
   (try dsimp)
   apply E_seq
   apply E_seq
   apply E_ops
   refine WQ (does_add_ptr rfl rfl) ?_
   refine WQ (does_load1_ptr rfl rfl rfl) ?_
   refine WQ (does_int rfl rfl rfl) ?_
   apply W_nil
   refine E_keep [0, 2, 4, 7, 57] [2, 4, 7] ?_
   (try dsimp)
   refine E_cond rfl (fun hc5 => ?_) (fun hc5 => ?_)
   ·replace h := of_ct h hc5
    apply E_seq
    apply E_ops
    refine WQ (does_build rfl rfl) ?_
    refine W1 (does_store rfl rfl rfl rfl rfl (Nat.le_of_ble_eq_true rfl) rfl (by decide)) ?_
    apply WM
    apply W_nil
    refine E_keep [2, 3] [2] ?_
    (try dsimp)
    refine E_ghost (Le_nilR (q := 2) rfl).b ?_
    (try dsimp)
    apply E_ret
    cases h
    (try simp only [qt, qb, qn])
    refine fin_mk (xs := _) ⟨_, _, at_whole rfl (by simp), rfl, rfl, ⟨_, rfl, rfl⟩⟩ ?_
    rfl
   ·replace h := of_cf h hc5
    apply E_skip
    refine E_keep [0, 2, 4, 7] [2, 4, 7] ?_
    (try dsimp)
    apply E_seq
    apply E_ops
    refine WQ (does_add_ptr rfl rfl) ?_
    refine WQ (does_load1_ptr rfl rfl rfl) ?_
    refine WQ (does_int rfl rfl rfl) ?_
    refine WQ (does_add_ptr rfl rfl) ?_
    refine W1 (does_store rfl rfl rfl rfl rfl (Nat.le_of_ble_eq_true rfl) rfl (by decide)) ?_
    apply W_nil
    refine E_keep [0, 2, 4, 7] [2, 4, 7] ?_
    (try dsimp)
    apply E_seq
    apply E_ops
    refine WQ (does_add_ptr rfl rfl) ?_
    refine WQ (does_loadA_ptr rfl rfl rfl rfl (by decide)) ?_
    refine W1 (does_newv rfl rfl) ?_
    refine W1 (does_store rfl rfl rfl rfl rfl (Nat.le_of_ble_eq_true rfl) rfl (by decide)) ?_
    apply W_nil
    refine E_keep [0, 2, 7, 10] [2, 7, 10] ?_
    (try dsimp)
    apply E_seq
    apply E_ops
    apply WM
    apply W_nil
    (try dsimp)
    obtain ⟨k9, k9d, h⟩ := of_jn h
    refine E_seqJ (α := (List Int) × Int × (List S_opd_Desc)) (fun (i : (List Int) × Int × (List S_opd_Desc)) => (⟨[(0, S.one (.sl (flat e_i_u64 i.1) i.1.length)), (2, S.one (.ptr 2 0)), (7, S.one (.ptr 7 0)), (11, S.one (.v (.int .i64 i.2.1)))], [(2, (⟨true, [.v (.int .i64 (0 : Int)), .v (.int .i64 (0 : Int)), .v (.int .i64 (0 : Int)), .nil, .nil, .nil, .v (.int .u64 (0 : Int)), .v (.bool false)]⟩ : Reg)), (7, (⟨false, [.v (.int .i64 (0 : Int)), .v (.int .i64 (0 : Int)), .v (.int .i64 (0 : Int)), .nil, .nil, .own 1103 0 i.2.2.length (some (10, 57)), .v (.int .u64 (IntKind.u64.wrap (v3 + (1 : Int)))), .v (.bool x1.2.1)]⟩ : Reg)), (1103, (⟨true, flat e_S_opd_Desc i.2.2⟩ : Reg))]⟩ : St)) (fun i => k9 i.1 i.2.1 i.2.2 = some r) (fun i h => ?_) ?_
    ·obtain ⟨v6, v7, v8⟩ := i
     rw [k9d] at h; dsimp only at h
     (try dsimp)
     apply E_seq
     apply E_ops
     apply WM
     obtain ⟨x10, x10h, h⟩ := of_bind h
     refine W1 (does_call1 hP (p_image_Get F v6 x10 x10h) rfl rfl rfl) ?_
     apply WM
     refine WQ (does_ext rfl rfl) ?_
     refine WQ (does_ext rfl rfl) ?_
     refine W1 (does_newv rfl rfl) ?_
     refine W1 (does_store rfl rfl rfl rfl rfl (Nat.le_of_ble_eq_true rfl) rfl (by decide)) ?_
     apply WM
     apply W_nil
     refine E_keep [2, 7, 11, 17, 18] [2, 7, 17, 1103] ?_
     (try dsimp)
     apply E_seq
     apply E_ops
     refine WQ (does_loadA_ptr rfl rfl rfl rfl (by decide)) ?_
     refine WQ (does_add_ptr rfl rfl) ?_
     refine W1 (does_store rfl rfl rfl rfl rfl (Nat.le_of_ble_eq_true rfl) rfl (by decide)) ?_
     apply W_nil
     refine E_keep [2, 7, 11, 18] [2, 7, 1103] ?_
     (try dsimp)
     apply E_seq
     apply E_ops
     refine WQ (does_loadA_ptr rfl rfl rfl rfl (by decide)) ?_
     apply WM
     refine WQ (does_int rfl rfl rfl) ?_
     apply WM
     apply W_lazy
     ·rfl
     ·intro hB; (try simp only [hB, bss, ctt]); exact does_mv rfl
     apply W_lazy
     ·rfl
     ·intro hB; (try simp only [hB, bss, ctt]); exact does_int rfl rfl rfl
     refine WQ (does_and rfl rfl rfl) ?_
     refine W1 (does_store rfl rfl rfl rfl rfl (Nat.le_of_ble_eq_true rfl) rfl (by decide)) ?_
     apply WM
     apply W_nil
     refine E_keep [2, 3] [2, 1103] ?_
     (try dsimp)
     refine E_ghost (Le_frz (r := 1103) rfl rfl).b ?_
     (try dsimp)
     apply E_ret
     cases h
     (try simp only [qt, qb, qn])
     refine fin_mk (xs := _) ⟨_, _, at_whole rfl (by simp), rfl, rfl, ⟨_, rfl, rfl⟩⟩ ?_
     rfl
    ·
     skip
     apply E_seq
     apply E_ops
     refine WQ (does_add_ptr rfl rfl) ?_
     refine WQ (does_load1_ptr rfl rfl rfl) ?_
     apply WM
     apply W_nil
     refine E_keep [0, 2, 7, 10, 11, 66, 67] [2, 7, 10] ?_
     (try dsimp)
     apply E_block
     (try dsimp)
     refine E_loopB (α := (List Int) × Int × Int × (List S_opd_Desc)) (fun (i : (List Int) × Int × Int × (List S_opd_Desc)) => (⟨[(0, S.one (.sl (flat e_i_u64 i.1) i.1.length)), (2, S.one (.ptr 2 0)), (7, S.one (.ptr 7 0)), (10, S.one (.ptr 10 0)), (11, S.one (.v (.int .i64 i.2.1))), (66, S.one (.v (.int .i64 x1.1.xGeo.xThreads))), (67, S.one (.v (.int .i64 i.2.2.1)))], [(2, (⟨true, [.v (.int .i64 (0 : Int)), .v (.int .i64 (0 : Int)), .v (.int .i64 (0 : Int)), .nil, .nil, .nil, .v (.int .u64 (0 : Int)), .v (.bool false)]⟩ : Reg)), (7, (⟨false, [.v (.int .i64 (0 : Int)), .v (.int .i64 (0 : Int)), .v (.int .i64 (0 : Int)), .nil, .nil, .own 1103 0 i.2.2.2.length (some (10, 57)), .v (.int .u64 (IntKind.u64.wrap (v3 + (1 : Int)))), .v (.bool x1.2.1)]⟩ : Reg)), (10, (⟨true, [.v (.int .i64 x1.1.xGeo.xThreads), .v (.int .i64 x1.1.xGeo.xSlots), .v (.int .i64 x1.1.xGeo.xThings)]⟩ : Reg)), (1103, (⟨true, flat e_S_opd_Desc i.2.2.2⟩ : Reg))]⟩ : St)) (fun n i => m_boot_read_l0 F x1 k9 n i.1 i.2.1 i.2.2.1 i.2.2.2 = some r) F (a0, (0 : Int), (0 : Int), ([] : List S_opd_Desc)) h ?_ (fun n i h => ?_)
     ·
      refine LeB_trans (LeB_nilownB (q := 7) (j := 5) (r := 1103) 10 57 rfl rfl rfl rfl) ?_
      exact (Le.b (le_mk ⟨rfl, rfl, rfl, rfl, rfl, rfl, rfl, trivial⟩ ⟨rfl, rfl, rfl, rfl, trivial⟩))
     obtain ⟨v67, v68, v69, v70⟩ := i; dsimp only at h
     cases n with
     | zero => cases h
     | succ n71 =>
      unfold m_boot_read_l0 at h
      (try dsimp)
      apply E_seq
      apply E_ops
      refine WQ (does_int rfl rfl rfl) ?_
      apply W_nil
      (try dsimp)
      apply E_seq
      refine E_cond rfl (fun hc72 => ?_) (fun hc72 => ?_)
      ·replace h := of_ct h hc72
       apply E_skip
       refine E_keep [0, 2, 7, 10, 11, 66, 67] [2, 7, 10, 1103] ?_
       (try dsimp)
       apply E_seq
       apply E_block
       apply E_seq
       apply E_ops
       apply WM
       apply WM
       apply W_nil
       refine E_keep [0, 2, 7, 10, 11, 12, 66, 67] [2, 7, 10, 1103] ?_
       (try dsimp)
       apply E_seq
       apply E_ops
       refine WQ (does_loadA_ptr rfl rfl rfl rfl (by decide)) ?_
       apply WM
       obtain ⟨x73, x73h, h⟩ := of_bind h
       refine W1 (does_call1 hP (p_geo_Desc F x1.1.xGeo v69 x73 x73h) rfl rfl rfl) ?_
       apply WM
       refine WQ (does_ext rfl rfl) ?_
       refine WQ (does_ext rfl rfl) ?_
       apply WM
       apply WM
       apply W_nil
       refine E_keep [0, 2, 7, 10, 11, 13, 14, 66, 67] [2, 7, 10, 1103] ?_
       (try dsimp)
       obtain ⟨k85, k85d, h⟩ := of_jn h
       refine E_seqJ (α := Bool × Int × Int × Int × Int × Int × Int × Int × Int × Int × (List S_wset_Write)) (fun (i : Bool × Int × Int × Int × Int × Int × Int × Int × Int × Int × (List S_wset_Write)) => (⟨[(0, S.one (.sl (flat e_i_u64 v67) v67.length)), (2, S.one (.ptr 2 0)), (7, S.one (.ptr 7 0)), (10, S.one (.ptr 10 0)), (11, S.one (.v (.int .i64 v68))), (15, S.one (.ptr 15 0)), (16, S.one (.v (.bool i.1))), (66, S.one (.v (.int .i64 x1.1.xGeo.xThreads))), (67, S.one (.v (.int .i64 v69)))], [(2, (⟨true, [.v (.int .i64 (0 : Int)), .v (.int .i64 (0 : Int)), .v (.int .i64 (0 : Int)), .nil, .nil, .nil, .v (.int .u64 (0 : Int)), .v (.bool false)]⟩ : Reg)), (7, (⟨false, [.v (.int .i64 (0 : Int)), .v (.int .i64 (0 : Int)), .v (.int .i64 (0 : Int)), .nil, .nil, .own 1103 0 v70.length (some (10, 57)), .v (.int .u64 (IntKind.u64.wrap (v3 + (1 : Int)))), .v (.bool x1.2.1)]⟩ : Reg)), (10, (⟨true, [.v (.int .i64 x1.1.xGeo.xThreads), .v (.int .i64 x1.1.xGeo.xSlots), .v (.int .i64 x1.1.xGeo.xThings)]⟩ : Reg)), (15, (⟨true, [.v (.int .i64 i.2.1), .v (.int .u64 i.2.2.1), .v (.int .u64 i.2.2.2.1), .v (.int .u64 i.2.2.2.2.1), .v (.int .u64 i.2.2.2.2.2.1), .v (.int .u64 i.2.2.2.2.2.2.1), .v (.int .i64 i.2.2.2.2.2.2.2.1), .v (.int .u64 i.2.2.2.2.2.2.2.2.1), .v (.int .i64 i.2.2.2.2.2.2.2.2.2.1), .sl (flat e_S_wset_Write i.2.2.2.2.2.2.2.2.2.2) i.2.2.2.2.2.2.2.2.2.2.length]⟩ : Reg)), (1103, (⟨true, flat e_S_opd_Desc v70⟩ : Reg))]⟩ : St)) (fun i => k85 i.1 i.2.1 i.2.2.1 i.2.2.2.1 i.2.2.2.2.1 i.2.2.2.2.2.1 i.2.2.2.2.2.2.1 i.2.2.2.2.2.2.2.1 i.2.2.2.2.2.2.2.2.1 i.2.2.2.2.2.2.2.2.2.1 i.2.2.2.2.2.2.2.2.2.2 = some r) (fun i h => ?_) ?_
       ·obtain ⟨v74, v75, v76, v77, v78, v79, v80, v81, v82, v83, v84⟩ := i
        rw [k85d] at h; dsimp only at h
        (try dsimp)
        apply E_seq
        apply E_seq
        apply E_ops
        apply WM
        refine WQ (does_not rfl) ?_
        apply W_nil
        refine E_keep [0, 2, 7, 10, 11, 15, 66, 67, 88] [2, 7, 10, 15, 1103] ?_
        (try dsimp)
        refine E_cond rfl (fun hc86 => ?_) (fun hc86 => ?_)
        ·replace h := of_ct h hc86
         apply E_seq
         apply E_ops
         refine WQ (does_build rfl rfl) ?_
         refine W1 (does_store rfl rfl rfl rfl rfl (Nat.le_of_ble_eq_true rfl) rfl (by decide)) ?_
         apply WM
         apply W_nil
         refine E_keep [2, 3] [2] ?_
         (try dsimp)
         refine E_ghost (Le_nilR (q := 2) rfl).b ?_
         (try dsimp)
         apply E_ret
         cases h
         (try simp only [qt, qb, qn])
         refine fin_mk (xs := _) ⟨_, _, at_whole rfl (by simp), rfl, rfl, ⟨_, rfl, rfl⟩⟩ ?_
         rfl
        ·replace h := of_cf h hc86
         apply E_skip
         refine E_keep [0, 2, 7, 10, 11, 15, 66, 67] [2, 7, 10, 15, 1103] ?_
         (try dsimp)
         obtain ⟨k89, k89d, h⟩ := of_jn h
         refine E_seqJ (α := (List Int) × Int) (fun (i : (List Int) × Int) => (⟨[(0, S.one (.sl (flat e_i_u64 i.1) i.1.length)), (2, S.one (.ptr 2 0)), (7, S.one (.ptr 7 0)), (10, S.one (.ptr 10 0)), (11, S.one (.v (.int .i64 i.2))), (15, S.one (.ptr 15 0)), (66, S.one (.v (.int .i64 x1.1.xGeo.xThreads))), (67, S.one (.v (.int .i64 v69)))], [(2, (⟨true, [.v (.int .i64 (0 : Int)), .v (.int .i64 (0 : Int)), .v (.int .i64 (0 : Int)), .nil, .nil, .nil, .v (.int .u64 (0 : Int)), .v (.bool false)]⟩ : Reg)), (7, (⟨false, [.v (.int .i64 (0 : Int)), .v (.int .i64 (0 : Int)), .v (.int .i64 (0 : Int)), .nil, .nil, .own 1103 0 v70.length (some (10, 57)), .v (.int .u64 (IntKind.u64.wrap (v3 + (1 : Int)))), .v (.bool x1.2.1)]⟩ : Reg)), (10, (⟨true, [.v (.int .i64 x1.1.xGeo.xThreads), .v (.int .i64 x1.1.xGeo.xSlots), .v (.int .i64 x1.1.xGeo.xThings)]⟩ : Reg)), (15, (⟨true, [.v (.int .i64 v75), .v (.int .u64 v76), .v (.int .u64 v77), .v (.int .u64 v78), .v (.int .u64 v79), .v (.int .u64 v80), .v (.int .i64 v81), .v (.int .u64 v82), .v (.int .i64 v83), .sl (flat e_S_wset_Write v84) v84.length]⟩ : Reg)), (1103, (⟨true, flat e_S_opd_Desc v70⟩ : Reg))]⟩ : St)) (fun i => k89 i.1 i.2 = some r) (fun i h => ?_) ?_
         ·obtain ⟨v87, v88⟩ := i
          rw [k89d] at h; dsimp only at h
          (try dsimp)
          apply E_ops
          refine WQ (does_add_ptr rfl rfl) ?_
          refine WQ (does_load1_ptr rfl rfl rfl) ?_
          refine WQ (does_loadA_ptr rfl rfl rfl rfl (by decide)) ?_
          refine W1 (does_bslice rfl rfl rfl rfl) ?_
          obtain ⟨g90, h⟩ := of_gd h
          refine W1 (does_appF (e := e_S_opd_Desc) rfl rfl (fun _ => rfl) (fun _ => rfl) rfl (Src.lit (e := e_S_opd_Desc) ([(⟨v75, v76, (⟨v77, v78, v79, v80⟩ : V4 Int), (⟨v81, v82, v83⟩ : S_state_Reply), v84⟩ : S_opd_Desc)] : List S_opd_Desc) rfl (fun _ => rfl) rfl rfl) g90 rfl) ?_
          refine WQ (does_add_ptr rfl rfl) ?_
          refine W1 (does_store rfl rfl rfl rfl rfl (Nat.le_of_ble_eq_true rfl) rfl (by decide)) ?_
          apply W_nil
          refine E_keep [0, 2, 7, 10, 11, 66, 67] [2, 7, 10, 1103] ?_
          (try dsimp)
          apply E_ops
          obtain ⟨g91, h⟩ := of_gd h
          refine WQ (does_add rfl rfl g91.1 g91.2) ?_
          apply WM
          apply W_nil
          refine ⟨n71, (v87, v88, (v69 + (1 : Int)), (v70 ++ ([(⟨v75, v76, (⟨v77, v78, v79, v80⟩ : V4 Int), (⟨v81, v82, v83⟩ : S_state_Reply), v84⟩ : S_opd_Desc)] : List S_opd_Desc))), Nat.lt_succ_self _, h, ?_⟩
          exact (Le.b (le_mk ⟨rfl, rfl, rfl, rfl, rfl, rfl, rfl, trivial⟩ ⟨rfl, rfl, rfl, rfl, trivial⟩))
         ·
          skip
          apply E_seq
          apply E_ops
          refine WQ (does_add_ptr rfl rfl) ?_
          refine WQ (does_load1_ptr rfl rfl rfl) ?_
          refine WQ (does_int rfl rfl rfl) ?_
          apply W_nil
          refine E_keep [0, 2, 7, 10, 11, 15, 66, 67, 92] [2, 7, 10, 15, 1103] ?_
          (try dsimp)
          refine E_cond rfl (fun hc92 => ?_) (fun hc92 => ?_)
          ·replace h := of_ct h hc92
           apply E_seq
           apply E_ops
           apply WM
           obtain ⟨g93, h⟩ := of_gd h
           refine WQ (does_add rfl rfl g93.1 g93.2) ?_
           apply WM
           apply W_nil
           refine E_keep [0, 2, 7, 10, 11, 15, 66, 67] [2, 7, 10, 15, 1103] ?_
           (try dsimp)
           apply E_ops
           apply WM
           refine WQ (does_add_ptr rfl rfl) ?_
           refine WQ (does_load1_ptr rfl rfl rfl) ?_
           obtain ⟨x94, x94h, h⟩ := of_bind h
           refine W1 (does_call1 hP (p_wset_Do F v67 v84 x94 x94h) rfl rfl rfl) ?_
           apply WM
           apply W_nil
           refine ⟨(x94, (v68 + (1 : Int))), h, ?_⟩
           exact (Le.b (le_mk ⟨rfl, rfl, rfl, rfl, rfl, rfl, rfl, rfl, trivial⟩ ⟨rfl, rfl, rfl, rfl, rfl, trivial⟩))
          ·replace h := of_cf h hc92
           apply E_skip
           refine ⟨(v67, v68), h, ?_⟩
           exact (Le.b (le_mk ⟨rfl, rfl, rfl, rfl, rfl, rfl, rfl, rfl, trivial⟩ ⟨rfl, rfl, rfl, rfl, rfl, trivial⟩))
       ·
        skip
        obtain ⟨g95, h⟩ := of_gd h
        obtain ⟨g96, h⟩ := of_gd h
        obtain ⟨x97, x97h, h⟩ := of_bind h
        refine E_draw [0, 1, 2, 3, 4, 5, 6, 8, 9] ?_
        refine XQ 0 rfl rfl rfl (does_loadA_ptr rfl rfl rfl rfl (by decide)) ?_
        refine XQ 1 rfl rfl rfl (does_mv rfl) ?_
        refine XQ 2 rfl rfl rfl (does_mv rfl) ?_
        refine XQ 3 rfl rfl rfl (does_mv rfl) ?_
        refine XQ 4 rfl rfl rfl (does_mv rfl) ?_
        refine XQ 5 rfl rfl rfl (does_add rfl rfl g95.1 g95.2) ?_
        refine XQ 6 rfl rfl rfl (does_slc_slF rfl (fun _ => rfl) rfl rfl g96.1 g96.2.1 g96.2.2) ?_
        (try dsimp)
        refine X2 rfl ?_ ?_
        ·
         refine XK rfl (does_call1 hP (p_opd_Get F x1.1.xGeo (cut v67 x73.1 (x73.1 + x73.2)) x97 x97h) rfl rfl rfl) ?_
         refine XQ 8 rfl rfl rfl (does_mv rfl) ?_
         refine XQ 9 rfl rfl rfl (does_ext rfl rfl) ?_
         refine X2 rfl ?_ ?_
         ·
          refine XK rfl ((does_ext rfl rfl).does) ?_
          refine X1 rfl (XK rfl (does_newv rfl rfl) ?_)
          refine X1 rfl (XT rfl rfl (does_store rfl rfl rfl rfl rfl (Nat.le_of_ble_eq_true rfl) rfl (by decide)) ?_)
          refine X1 rfl (XT rfl rfl ((does_mv rfl).does) ?_)
          refine X_nil rfl ?_
          refine ⟨(x97.2, x97.1.xStatus, x97.1.xSeq, x97.1.xL.c0, x97.1.xL.c1, x97.1.xL.c2, x97.1.xL.c3, x97.1.xReply.xErr, x97.1.xReply.xW, x97.1.xReply.xN, x97.1.xW), h, ?_⟩
          exact (Le.b (le_mk ⟨rfl, rfl, rfl, rfl, rfl, rfl, rfl, rfl, rfl, trivial⟩ ⟨rfl, rfl, rfl, rfl, rfl, trivial⟩))
         ·
          refine XK rfl (does_newv rfl rfl) ?_
          refine X2 rfl ?_ ?_
          ·
           refine XK rfl ((does_ext rfl rfl).does) ?_
           refine X1 rfl (XT rfl rfl (does_store rfl rfl rfl rfl rfl (Nat.le_of_ble_eq_true rfl) rfl (by decide)) ?_)
           refine X1 rfl (XT rfl rfl ((does_mv rfl).does) ?_)
           refine X_nil rfl ?_
           refine ⟨(x97.2, x97.1.xStatus, x97.1.xSeq, x97.1.xL.c0, x97.1.xL.c1, x97.1.xL.c2, x97.1.xL.c3, x97.1.xReply.xErr, x97.1.xReply.xW, x97.1.xReply.xN, x97.1.xW), h, ?_⟩
           exact (Le.b (le_mk ⟨rfl, rfl, rfl, rfl, rfl, rfl, rfl, rfl, rfl, trivial⟩ ⟨rfl, rfl, rfl, rfl, rfl, trivial⟩))
          ·
           refine XT rfl rfl (does_store rfl rfl rfl rfl rfl (Nat.le_of_ble_eq_true rfl) rfl (by decide)) ?_
           refine X1 rfl (XT rfl rfl ((does_ext rfl rfl).does) ?_)
           refine X1 rfl (XT rfl rfl ((does_mv rfl).does) ?_)
           refine X_nil rfl ?_
           refine ⟨(x97.2, x97.1.xStatus, x97.1.xSeq, x97.1.xL.c0, x97.1.xL.c1, x97.1.xL.c2, x97.1.xL.c3, x97.1.xReply.xErr, x97.1.xReply.xW, x97.1.xReply.xN, x97.1.xW), h, ?_⟩
           exact (Le.b (le_mk ⟨rfl, rfl, rfl, rfl, rfl, rfl, rfl, rfl, rfl, trivial⟩ ⟨rfl, rfl, rfl, rfl, rfl, trivial⟩))
        ·
         refine XK rfl (does_newv rfl rfl) ?_
         refine X1 rfl (XK rfl (does_call1 hP (p_opd_Get F x1.1.xGeo (cut v67 x73.1 (x73.1 + x73.2)) x97 x97h) rfl rfl rfl) ?_)
         refine XQ 8 rfl rfl rfl (does_mv rfl) ?_
         refine XQ 9 rfl rfl rfl (does_ext rfl rfl) ?_
         refine X2 rfl ?_ ?_
         ·
          refine XK rfl ((does_ext rfl rfl).does) ?_
          refine X1 rfl (XT rfl rfl (does_store rfl rfl rfl rfl rfl (Nat.le_of_ble_eq_true rfl) rfl (by decide)) ?_)
          refine X1 rfl (XT rfl rfl ((does_mv rfl).does) ?_)
          refine X_nil rfl ?_
          refine ⟨(x97.2, x97.1.xStatus, x97.1.xSeq, x97.1.xL.c0, x97.1.xL.c1, x97.1.xL.c2, x97.1.xL.c3, x97.1.xReply.xErr, x97.1.xReply.xW, x97.1.xReply.xN, x97.1.xW), h, ?_⟩
          exact (Le.b (le_mk ⟨rfl, rfl, rfl, rfl, rfl, rfl, rfl, rfl, rfl, trivial⟩ ⟨rfl, rfl, rfl, rfl, rfl, trivial⟩))
         ·
          refine XT rfl rfl (does_store rfl rfl rfl rfl rfl (Nat.le_of_ble_eq_true rfl) rfl (by decide)) ?_
          refine X1 rfl (XT rfl rfl ((does_ext rfl rfl).does) ?_)
          refine X1 rfl (XT rfl rfl ((does_mv rfl).does) ?_)
          refine X_nil rfl ?_
          refine ⟨(x97.2, x97.1.xStatus, x97.1.xSeq, x97.1.xL.c0, x97.1.xL.c1, x97.1.xL.c2, x97.1.xL.c3, x97.1.xReply.xErr, x97.1.xReply.xW, x97.1.xReply.xN, x97.1.xW), h, ?_⟩
          exact (Le.b (le_mk ⟨rfl, rfl, rfl, rfl, rfl, rfl, rfl, rfl, rfl, trivial⟩ ⟨rfl, rfl, rfl, rfl, rfl, trivial⟩))
      ·replace h := of_cf h hc72
       apply E_exit
       refine ⟨(v67, v68, v70), h, ?_⟩
       exact (Le.b (le_mk ⟨rfl, rfl, rfl, rfl, trivial⟩ ⟨rfl, rfl, rfl, trivial⟩))
  ·
   skip
   apply E_seq
   apply E_ops
   apply WM
   apply WM
   refine WQ (does_len_sl rfl) ?_
   obtain ⟨g98, h⟩ := of_gd h
   refine WQ (does_sub rfl rfl g98.1 g98.2) ?_
   obtain ⟨g99, h⟩ := of_gd h
   refine WQ (does_slc_slF rfl (fun _ => rfl) rfl rfl g99.1 g99.2.1 g99.2.2) ?_
   obtain ⟨x100, x100h, h⟩ := of_bind h
   refine W1 (does_call1 hP (p_super_Get F (cut a0 (((a0.length : Nat) : Int) - (8 : Int)) ((a0.length : Nat) : Int)) x100 x100h) rfl rfl rfl) ?_
   apply WM
   refine WQ (does_ext rfl rfl) ?_
   refine WQ (does_ext rfl rfl) ?_
   refine W1 (does_newv rfl rfl) ?_
   refine W1 (does_store rfl rfl rfl rfl rfl (Nat.le_of_ble_eq_true rfl) rfl (by decide)) ?_
   apply WM
   apply W_nil
   refine E_keep [0, 2, 4, 6, 7, 8, 9] [2, 4, 7, 8] ?_
   (try dsimp)
   apply E_seq
   apply E_ops
   apply WM
   apply WM
   apply W_lazy
   ·rfl
   ·intro hB; (try simp only [hB, bss, ctt]); exact does_mv rfl
   refine WQ (does_and rfl rfl rfl) ?_
   apply W_nil
   refine E_keep [0, 2, 4, 7, 8, 48] [2, 4, 7, 8] ?_
   (try dsimp)
   refine E_cond rfl (fun hc101 => ?_) (fun hc101 => ?_)
   ·replace h := of_ct h hc101
    apply E_ops
    refine WQ (does_add_ptr rfl rfl) ?_
    refine WQ (does_load1_ptr rfl rfl rfl) ?_
    refine WQ (does_add_ptr rfl rfl) ?_
    refine WQ (does_load1_ptr rfl rfl rfl) ?_
    obtain ⟨x102, x102h, h⟩ := of_bind h
    refine WQ (does_bu (vs := [(.int .u64 x1.1.xBoot), (.int .u64 x100.1.xBoot)]) hP rfl (X_i x102h) rfl) ?_
    refine WQ (does_add_ptr rfl rfl) ?_
    refine W1 (does_store rfl rfl rfl rfl rfl (Nat.le_of_ble_eq_true rfl) rfl (by decide)) ?_
    apply W_nil
    refine ⟨x102, h, ?_⟩
    exact (Le.b (le_mk ⟨rfl, rfl, rfl, rfl, trivial⟩ ⟨rfl, rfl, rfl, trivial⟩))
   ·replace h := of_cf h hc101
    apply E_skip
    refine ⟨x1.1.xBoot, h, ?_⟩
    exact (Le.b (le_mk ⟨rfl, rfl, rfl, rfl, trivial⟩ ⟨rfl, rfl, rfl, trivial⟩))
/- reeve/boot.then -/
def c_boot_then : VCode := (.seq (.ops [(o (.box 57 (t 0)) 1), (o (.newv [zi, zu, zu, zu, zu, zu, zi, zu, zi, .nil]) 2)]) (.seq (.seq (.ops [(o (.add 0 (t 1)) 3), (o (.load false 1 (t 3)) 4)]) (.block 0 (.seq (.ops [(o (.bin .eql 3 (t 4) (ci 2)) 6), (w 5 6)]) (.cond (t 5) (.ops [(o (.add 0 (t 1)) 7), (n_ (.store 1 (t 7) (ci 3)))]) (.seq (.ops [(o (.bin .eql 3 (t 4) (ci 1)) 9), (w 8 9)]) (.cond (t 8) (.ops [(o (.add 0 (t 1)) 10), (n_ (.store 1 (t 10) (ci 4)))]) .skip)))))) (.seq (.ops [(o (.load true 10 (t 1)) 11), (n_ (.store 10 (t 2) (t 11)))]) .ret)))
theorem f_boot_then : Fits Tryz.prog 40 1 c_boot_then [(.cell true 10 2)] := fits_mk Tryz.func40 (by kernel_rfl) (by kernel_rfl) (by kernel_rfl)
theorem p_boot_then (F : Nat) (a0 : S_opd_Desc) (r : S_opd_Desc) (h : m_boot_then F a0 = some r) : PC Tryz.prog 40 [S.agg [.v (.int .i64 a0.xStatus), .v (.int .u64 a0.xSeq), .v (.int .u64 a0.xL.c0), .v (.int .u64 a0.xL.c1), .v (.int .u64 a0.xL.c2), .v (.int .u64 a0.xL.c3), .v (.int .i64 a0.xReply.xErr), .v (.int .u64 a0.xReply.xW), .v (.int .i64 a0.xReply.xN), .sl (flat e_S_wset_Write a0.xW) a0.xW.length]] (S.agg [.v (.int .i64 r.xStatus), .v (.int .u64 r.xSeq), .v (.int .u64 r.xL.c0), .v (.int .u64 r.xL.c1), .v (.int .u64 r.xL.c2), .v (.int .u64 r.xL.c3), .v (.int .i64 r.xReply.xErr), .v (.int .u64 r.xReply.xW), .v (.int .i64 r.xReply.xN), .sl (flat e_S_wset_Write r.xW) r.xW.length]) := by
 unfold m_boot_then at h
 refine PC_go f_boot_then rfl rfl ?_
 intro C hP
 unfold c_boot_then; dsimp
 apply E_seq
 apply E_ops
 refine W1 (does_box rfl rfl rfl rfl) ?_
 refine W1 (does_newv rfl rfl) ?_
 apply W_nil
 refine E_keep [1, 2] [1, 2] ?_
 (try dsimp)
 obtain ⟨k2, k2d, h⟩ := of_jn h
 refine E_seqJ (α := Int) (fun (i : Int) => (⟨[(1, S.one (.ptr 1 0)), (2, S.one (.ptr 2 0))], [(1, (⟨true, [.v (.int .i64 i), .v (.int .u64 a0.xSeq), .v (.int .u64 a0.xL.c0), .v (.int .u64 a0.xL.c1), .v (.int .u64 a0.xL.c2), .v (.int .u64 a0.xL.c3), .v (.int .i64 a0.xReply.xErr), .v (.int .u64 a0.xReply.xW), .v (.int .i64 a0.xReply.xN), .sl (flat e_S_wset_Write a0.xW) a0.xW.length]⟩ : Reg)), (2, (⟨true, [.v (.int .i64 (0 : Int)), .v (.int .u64 (0 : Int)), .v (.int .u64 (0 : Int)), .v (.int .u64 (0 : Int)), .v (.int .u64 (0 : Int)), .v (.int .u64 (0 : Int)), .v (.int .i64 (0 : Int)), .v (.int .u64 (0 : Int)), .v (.int .i64 (0 : Int)), .nil]⟩ : Reg))]⟩ : St)) (fun i => k2 i = some r) (fun i h => ?_) ?_
 ·let iv := i; change k2 i = some r at h; generalize i = v1 at h ⊢
  rw [k2d] at h; dsimp only at h
  (try dsimp)
  apply E_seq
  apply E_ops
  refine WQ (does_loadA_ptr rfl rfl rfl rfl (by decide)) ?_
  refine W1 (does_store rfl rfl rfl rfl rfl (Nat.le_of_ble_eq_true rfl) rfl (by decide)) ?_
  apply W_nil
  refine E_keep [2] [2] ?_
  (try dsimp)
  apply E_ret
  cases h
  (try simp only [qt, qb, qn])
  refine fin_mk (xs := _) ⟨_, _, at_whole rfl (by simp), rfl, rfl, rfl⟩ ?_
  rfl
 ·
  skip
  apply E_seq
  apply E_ops
  refine WQ (does_add_ptr rfl rfl) ?_
  refine WQ (does_load1_ptr rfl rfl rfl) ?_
  apply W_nil
  refine E_keep [1, 2, 4] [1, 2] ?_
  (try dsimp)
  apply E_block
  apply E_seq
  apply E_ops
  refine WQ (does_int rfl rfl rfl) ?_
  apply WM
  apply W_nil
  refine E_keep [1, 2, 4, 5] [1, 2] ?_
  (try dsimp)
  refine E_cond rfl (fun hc3 => ?_) (fun hc3 => ?_)
  ·replace h := of_ct h hc3
   apply E_ops
   refine WQ (does_add_ptr rfl rfl) ?_
   refine W1 (does_store rfl rfl rfl rfl rfl (Nat.le_of_ble_eq_true rfl) rfl (by decide)) ?_
   apply W_nil
   refine ⟨(3 : Int), h, ?_⟩
   exact (Le.b (le_mk ⟨rfl, rfl, trivial⟩ ⟨rfl, rfl, trivial⟩))
  ·replace h := of_cf h hc3
   apply E_seq
   apply E_ops
   refine WQ (does_int rfl rfl rfl) ?_
   apply WM
   apply W_nil
   refine E_keep [1, 2, 8] [1, 2] ?_
   (try dsimp)
   refine E_cond rfl (fun hc4 => ?_) (fun hc4 => ?_)
   ·replace h := of_ct h hc4
    apply E_ops
    refine WQ (does_add_ptr rfl rfl) ?_
    refine W1 (does_store rfl rfl rfl rfl rfl (Nat.le_of_ble_eq_true rfl) rfl (by decide)) ?_
    apply W_nil
    refine ⟨(4 : Int), h, ?_⟩
    exact (Le.b (le_mk ⟨rfl, rfl, trivial⟩ ⟨rfl, rfl, trivial⟩))
   ·replace h := of_cf h hc4
    apply E_skip
    refine ⟨a0.xStatus, h, ?_⟩
    exact (Le.b (le_mk ⟨rfl, rfl, trivial⟩ ⟨rfl, rfl, trivial⟩))
/- slices.Max[[]uint64,uint64] -/
def c_slices_Max_uint64 : VCode := (.seq (.ops [(o (.mv (.const (.int .u64 0))) 2)]) (.seq (.seq (.ops [(w 5 0), (o (.len false (t 5)) 6), (o (.bin .lss 3 (t 6) (ci 1)) 7)]) (.cond (t 7) (.ops [(o .bad 8), (n_ .bad)]) .skip)) (.seq (.ops [(w 9 0), (o (.idxS 1 (t 9) (ci 0)) 10), (o (.load false 1 (t 10)) 11), (w 3 11)]) (.seq (.seq (.ops [(o (.mv (ci 1)) 4)]) (.block 0 (.loop (.seq (.seq (.ops [(w 12 4), (w 13 0), (o (.len false (t 13)) 14), (o (.bin .lss 3 (t 12) (t 14)) 15)]) (.cond (t 15) .skip (.exit 0))) (.seq (.block 1 (.ops [(w 18 3), (w 19 0), (w 20 4), (o (.idxS 1 (t 19) (t 20)) 21), (o (.load false 1 (t 21)) 22), (o (.bi .max #[42, 42] 42 #[false, false] [(t 18), (t 22)]) 23), (w 3 23)])) (.ops [(w 16 4), (o (.bin .add 3 (t 16) (ci 1)) 17), (w 4 17)])))))) (.seq (.ops [(w 24 3), (w 2 24)]) .ret)))))
theorem f_slices_Max_uint64 : Fits Tryz.prog 104 1 c_slices_Max_uint64 [(.tmp 2)] := fits_mk Tryz.func104 (by kernel_rfl) (by kernel_rfl) (by kernel_rfl)
theorem p_slices_Max_uint64 (F : Nat) (a0 : (List Int)) (r : Int) (h : m_slices_Max_uint64 F a0 = some r) : PC Tryz.prog 104 [S.one (.sl (flat e_i_u64 a0) a0.length)] (S.one (.v (.int .u64 r))) := by
 unfold m_slices_Max_uint64 at h
 refine PC_go f_slices_Max_uint64 rfl rfl ?_
 intro C hP
 unfold c_slices_Max_uint64; dsimp
 apply E_seq
 apply E_ops
 apply WM
 apply W_nil
 refine E_keep [0] [] ?_
 (try dsimp)
 obtain ⟨k1, k1d, h⟩ := of_jn h
 refine E_seqJ (α := Unit) (fun (i : Unit) => (⟨[(0, S.one (.sl (flat e_i_u64 a0) a0.length))], []⟩ : St)) (fun i => k1 () = some r) (fun i h => ?_) ?_
 ·skip
  rw [k1d] at h; dsimp only at h
  (try dsimp)
  apply E_seq
  apply E_ops
  apply WM
  obtain ⟨g2, h⟩ := of_gd h
  refine WQ (does_idx_sl rfl rfl g2.1 g2.2) ?_
  refine WQ (does_load1_slF (k := 1) rfl (fun _ => rfl) g2 0 rfl rfl) ?_
  apply WM
  apply W_nil
  refine E_keep [0, 3] [] ?_
  (try dsimp)
  obtain ⟨k4, k4d, h⟩ := of_jn h
  refine E_seqJ (α := Int) (fun (i : Int) => (⟨[(3, S.one (.v (.int .u64 i)))], []⟩ : St)) (fun i => k4 i = some r) (fun i h => ?_) ?_
  ·let iv := i; change k4 i = some r at h; generalize i = v3 at h ⊢
   rw [k4d] at h; dsimp only at h
   (try dsimp)
   apply E_seq
   apply E_ops
   apply WM
   apply WM
   apply W_nil
   refine E_keep [2] [] ?_
   (try dsimp)
   apply E_ret
   cases h
   (try simp only [qt, qb, qn])
   refine fin_mk (xs := _) ⟨_, rfl, rfl⟩ ?_
   rfl
  ·
   skip
   apply E_seq
   apply E_ops
   apply WM
   apply W_nil
   (try dsimp)
   apply E_block
   (try dsimp)
   refine E_loopB (α := Int × Int) (fun (i : Int × Int) => (⟨[(0, S.one (.sl (flat e_i_u64 a0) a0.length)), (3, S.one (.v (.int .u64 i.1))), (4, S.one (.v (.int .i64 i.2)))], []⟩ : St)) (fun n i => m_slices_Max_uint64_l0 F a0 k4 n i.1 i.2 = some r) F ((nth a0 (0 : Int)), (1 : Int)) h ?_ (fun n i h => ?_)
   ·
    exact (Le.b (le_mk ⟨rfl, rfl, rfl, trivial⟩ trivial))
   obtain ⟨v15, v16⟩ := i; dsimp only at h
   cases n with
   | zero => cases h
   | succ n17 =>
    unfold m_slices_Max_uint64_l0 at h
    (try dsimp)
    apply E_seq
    apply E_seq
    apply E_ops
    apply WM
    apply WM
    refine WQ (does_len_sl rfl) ?_
    refine WQ (does_int rfl rfl rfl) ?_
    apply W_nil
    refine E_keep [0, 3, 4, 15] [] ?_
    (try dsimp)
    refine E_cond rfl (fun hc18 => ?_) (fun hc18 => ?_)
    ·replace h := of_ct h hc18
     apply E_skip
     refine E_keep [0, 3, 4] [] ?_
     (try dsimp)
     apply E_seq
     apply E_block
     apply E_ops
     apply WM
     apply WM
     apply WM
     obtain ⟨g19, h⟩ := of_gd h
     refine WQ (does_idx_sl rfl rfl g19.1 g19.2) ?_
     refine WQ (does_load1_slF (k := 1) rfl (fun _ => rfl) g19 0 rfl rfl) ?_
     obtain ⟨x20, x20h, h⟩ := of_bind h
     refine WQ (does_bu (vs := [(.int .u64 v15), (.int .u64 (nth a0 v16))]) hP rfl (X_i x20h) rfl) ?_
     apply WM
     apply W_nil
     refine E_keep [0, 3, 4] [] ?_
     (try dsimp)
     apply E_ops
     apply WM
     obtain ⟨g21, h⟩ := of_gd h
     refine WQ (does_add rfl rfl g21.1 g21.2) ?_
     apply WM
     apply W_nil
     refine ⟨n17, (x20, (v16 + (1 : Int))), Nat.lt_succ_self _, h, ?_⟩
     exact (Le.b (le_mk ⟨rfl, rfl, rfl, trivial⟩ trivial))
    ·replace h := of_cf h hc18
     apply E_exit
     refine ⟨v15, h, ?_⟩
     exact (Le.b (le_mk ⟨rfl, trivial⟩ trivial))
 ·
  skip
  apply E_seq
  apply E_ops
  apply WM
  refine WQ (does_len_sl rfl) ?_
  refine WQ (does_int rfl rfl rfl) ?_
  apply W_nil
  refine E_keep [0, 7] [] ?_
  (try dsimp)
  refine E_cond rfl (fun hc22 => ?_) (fun hc22 => ?_)
  ·replace h := of_ct h hc22
   apply E_ops
   cases h
  ·replace h := of_cf h hc22
   apply E_skip
   refine ⟨(), h, ?_⟩
   exact (Le.b (le_mk ⟨rfl, trivial⟩ trivial))
/- reeve/opd.First -/
def c_opd_First : VCode := (.seq (.ops [(o (.box 57 (t 0)) 1), (o (.mv (.const (.int .u64 0))) 2)]) (.seq (.ops [(o (.add 0 (t 1)) 6), (o (.load false 1 (t 6)) 7), (o (.convI .u64 (t 7)) 8), (o (.add 6 (t 1)) 9), (o (.add 0 (t 9)) 10), (o (.load false 1 (t 10)) 11), (o (.convI .u64 (t 11)) 12), (o (.add 9 (t 1)) 13), (o (.load false 1 (t 13)) 14), (o (.len false (t 14)) 15), (o (.convI .u64 (t 15)) 16), (o (.add 1 (t 1)) 17), (o (.load false 1 (t 17)) 18), (o (.bslice 1 42 4 [zu, zu, zu, zu] [(0, (1, (t 8))), (1, (1, (t 12))), (2, (1, (t 16))), (3, (1, (t 18)))]) 19), (w 3 19)]) (.seq (.ops [(o (.call 103 []) 21), (w 22 3), (o (.call 98 [(t 21), (t 22)]) 23), (w 20 23), (o (.ext 0 (t 20)) 24), (o (.ext 1 (t 20)) 25), (w 4 24), (w 5 25)]) (.seq (.seq (.ops [(w 26 5), (o (.un .not (t 26)) 27), (w 28 27), (g_ (.add 9 (t 1)) 29 28 false), (g_ (.load false 1 (t 29)) 30 28 false), (g_ (.len false (t 30)) 31 28 false), (g_ (.bin .gtr 3 (t 31) (ci 600)) 32 28 false), (o (.pick (t 28) (cb true) (t 32)) 33), (w 34 33), (g_ (.mv (t 3)) 35 34 false), (g_ (.slc 1 (t 35) .none (.some (ci 2)) .none) 36 34 false), (g_ (.call 104 [(t 36)]) 37 34 false), (g_ (.bin .gtr 42 (t 37) (.const (.int .u64 255))) 38 34 false), (o (.pick (t 34) (cb true) (t 38)) 39)]) (.cond (t 39) (.seq (.ops [(o (.mv (.const (.int .u64 0))) 2)]) .ret) .skip)) (.seq (.ops [(w 40 4), (w 2 40)]) .ret)))))
theorem f_opd_First : Fits Tryz.prog 65 1 c_opd_First [(.tmp 2)] := fits_mk Tryz.func65 (by kernel_rfl) (by kernel_rfl) (by kernel_rfl)
theorem p_opd_First (F : Nat) (a0 : S_opd_Desc) (r : Int) (h : m_opd_First F a0 = some r) : PC Tryz.prog 65 [S.agg [.v (.int .i64 a0.xStatus), .v (.int .u64 a0.xSeq), .v (.int .u64 a0.xL.c0), .v (.int .u64 a0.xL.c1), .v (.int .u64 a0.xL.c2), .v (.int .u64 a0.xL.c3), .v (.int .i64 a0.xReply.xErr), .v (.int .u64 a0.xReply.xW), .v (.int .i64 a0.xReply.xN), .sl (flat e_S_wset_Write a0.xW) a0.xW.length]] (S.one (.v (.int .u64 r))) := by
 unfold m_opd_First at h
 refine PC_go f_opd_First rfl rfl ?_
 intro C hP
 unfold c_opd_First; dsimp
 apply E_seq
 apply E_ops
 refine W1 (does_box rfl rfl rfl rfl) ?_
 apply WM
 apply W_nil
 refine E_keep [1] [1] ?_
 (try dsimp)
 apply E_seq
 apply E_ops
 refine WQ (does_add_ptr rfl rfl) ?_
 refine WQ (does_load1_ptr rfl rfl rfl) ?_
 refine WQ (does_convI rfl) ?_
 refine WQ (does_add_ptr rfl rfl) ?_
 refine WQ (does_add_ptr rfl rfl) ?_
 refine WQ (does_load1_ptr rfl rfl rfl) ?_
 refine WQ (does_convI rfl) ?_
 refine WQ (does_add_ptr rfl rfl) ?_
 refine WQ (does_load1_ptr rfl rfl rfl) ?_
 refine WQ (does_len_sl rfl) ?_
 refine WQ (does_convI rfl) ?_
 refine WQ (does_add_ptr rfl rfl) ?_
 refine WQ (does_load1_ptr rfl rfl rfl) ?_
 refine W1 (does_bslice rfl rfl rfl rfl) ?_
 apply WM
 apply W_nil
 refine E_keep [1, 3] [1, 19] ?_
 (try dsimp)
 apply E_seq
 apply E_ops
 obtain ⟨x1, x1h, h⟩ := of_bind h
 refine W1 (does_call1 hP (p_opd_fields F  x1 x1h) rfl rfl rfl) ?_
 apply WM
 obtain ⟨x2, x2h, h⟩ := of_bind h
 refine W1 (does_callB hP (p_tag_Put F x1 ([(IntKind.u64.wrap a0.xStatus), (IntKind.u64.wrap a0.xReply.xErr), (IntKind.u64.wrap ((a0.xW.length : Nat) : Int)), a0.xSeq] : List Int) x2 x2h) rfl rfl) ?_
 apply WM
 refine WQ (does_ext rfl rfl) ?_
 refine WQ (does_ext rfl rfl) ?_
 apply WM
 apply WM
 apply W_nil
 refine E_keep [1, 3, 4, 5] [1, 19] ?_
 (try dsimp)
 apply E_seq
 apply E_seq
 apply E_ops
 apply WM
 refine WQ (does_not rfl) ?_
 apply WM
 apply W_lazy
 ·rfl
 ·intro hB; (try simp only [hB, bss, ctt]); exact does_add_ptr rfl rfl
 apply W_lazy
 ·rfl
 ·intro hB; (try simp only [hB, bss, ctt]); exact does_load1_ptr rfl rfl rfl
 apply W_lazy
 ·rfl
 ·intro hB; (try simp only [hB, bss, ctt]); exact does_len_sl rfl
 apply W_lazy
 ·rfl
 ·intro hB; (try simp only [hB, bss, ctt]); exact does_int rfl rfl rfl
 refine WQ (does_or rfl rfl rfl) ?_
 apply WM
 apply W_lazy
 ·rfl
 ·intro hB; (try simp only [hB, bss, ctt]); exact does_mv rfl
 obtain ⟨g3, h⟩ := of_gd h
 apply W_lazy
 ·rfl
 ·intro hB; (try simp only [hB, bss, ctt]); exact does_slc_own rfl rfl rfl rfl (g3 hB).1 (g3 hB).2.1 (g3 hB).2.2
 obtain ⟨x4, x4h, h⟩ := of_bind h
 apply W_lazyD
 ·rfl
 ·intro hB; (try simp only [hB, bss, ctt]); exact does_callB hP (PC_take1 (m := 2) (cs := [.v (.int .u64 (IntKind.u64.wrap a0.xStatus)), .v (.int .u64 (IntKind.u64.wrap a0.xReply.xErr)), .v (.int .u64 (IntKind.u64.wrap ((a0.xW.length : Nat) : Int))), .v (.int .u64 a0.xSeq)]) (p_slices_Max_uint64 F ([(IntKind.u64.wrap a0.xStatus), (IntKind.u64.wrap a0.xReply.xErr)] : List Int) x4 (of_lz x4h (bt hB)))) rfl rfl
 apply W_lazy
 ·rfl
 ·intro hB; (try simp only [hB, bss, ctt]); exact does_int rfl rfl rfl
 refine WQ (does_or rfl rfl rfl) ?_
 apply W_nil
 refine E_keep [4, 39] [] ?_
 (try dsimp)
 refine E_cond rfl (fun hc5 => ?_) (fun hc5 => ?_)
 ·replace h := of_ct h hc5
  apply E_seq
  apply E_ops
  apply WM
  apply W_nil
  refine E_keep [2] [] ?_
  (try dsimp)
  apply E_ret
  cases h
  (try simp only [qt, qb, qn])
  refine fin_mk (xs := _) ⟨_, rfl, rfl⟩ ?_
  rfl
 ·replace h := of_cf h hc5
  apply E_skip
  refine E_keep [4] [] ?_
  (try dsimp)
  apply E_seq
  apply E_ops
  apply WM
  apply WM
  apply W_nil
  refine E_keep [2] [] ?_
  (try dsimp)
  apply E_ret
  cases h
  (try simp only [qt, qb, qn])
  refine fin_mk (xs := _) ⟨_, rfl, rfl⟩ ?_
  rfl
/- reeve/geo.Lock -/
def c_geo_Lock : VCode := (.seq (.ops [(o (.box 23 (t 0)) 1), (o (.mv (ci 0)) 2)]) (.seq (.seq (.ops [(o (.load true 3 (t 1)) 3), (o (.call 38 [(t 3)]) 4), (o (.un .not (t 4)) 5)]) (.cond (t 5) (.seq (.ops [(o (.mv (ci 0)) 2)]) .ret) .skip)) (.seq (.ops [(o (.mv (ci 8)) 2)]) .ret)))
theorem f_geo_Lock : Fits Tryz.prog 69 1 c_geo_Lock [(.tmp 2)] := fits_mk Tryz.func69 (by kernel_rfl) (by kernel_rfl) (by kernel_rfl)
theorem p_geo_Lock (F : Nat) (a0 : S_geo_Geo) (r : Int) (h : m_geo_Lock F a0 = some r) : PC Tryz.prog 69 [S.agg [.v (.int .i64 a0.xThreads), .v (.int .i64 a0.xSlots), .v (.int .i64 a0.xThings)]] (S.one (.v (.int .i64 r))) := by
 unfold m_geo_Lock at h
 refine PC_go f_geo_Lock rfl rfl ?_
 intro C hP
 unfold c_geo_Lock; dsimp
 apply E_seq
 apply E_ops
 refine W1 (does_box rfl rfl rfl rfl) ?_
 apply WM
 apply W_nil
 refine E_keep [1] [1] ?_
 (try dsimp)
 apply E_seq
 apply E_seq
 apply E_ops
 refine WQ (does_loadA_ptr rfl rfl rfl rfl (by decide)) ?_
 obtain ⟨x1, x1h, h⟩ := of_bind h
 refine W1 (does_call1 hP (p_geo_Good F a0 x1 x1h) rfl rfl rfl) ?_
 refine WQ (does_not rfl) ?_
 apply W_nil
 refine E_keep [5] [] ?_
 (try dsimp)
 refine E_cond rfl (fun hc2 => ?_) (fun hc2 => ?_)
 ·replace h := of_ct h hc2
  apply E_seq
  apply E_ops
  apply WM
  apply W_nil
  refine E_keep [2] [] ?_
  (try dsimp)
  apply E_ret
  cases h
  (try simp only [qt, qb, qn])
  refine fin_mk (xs := _) ⟨_, rfl, rfl⟩ ?_
  rfl
 ·replace h := of_cf h hc2
  apply E_skip
  refine E_keep [] [] ?_
  (try dsimp)
  apply E_seq
  apply E_ops
  apply WM
  apply W_nil
  (try dsimp)
  apply E_ret
  cases h
  (try simp only [qt, qb, qn])
  refine fin_mk (xs := _) ⟨_, rfl, rfl⟩ ?_
  rfl
/- reeve/boot.block -/
def c_boot_block : VCode := (.seq (.ops [(o (.box 97 (t 0)) 2), (o (.mv cn) 4)]) (.seq (.ops [(o (.mv cn) 5)]) (.seq (.seq (.ops [(o (.add 0 (t 2)) 8), (o (.add 0 (t 8)) 9), (o (.load true 3 (t 9)) 10), (o (.add 6 (t 2)) 11), (o (.load false 1 (t 11)) 12), (o (.build [zi, zi, zi, zu] [(0, (3, (t 10))), (3, (1, (t 12)))]) 13), (o (.call 57 [(t 13)]) 14), (o (.len false (t 14)) 15), (o (.mv (ci 0)) 16)]) (.block 0 (.loop (.seq (.ops [(o (.bin .lss 3 (t 16) (t 15)) 17)]) (.seq (.cond (t 17) .skip (.exit 0)) (.seq (.block 1 (.seq (.ops [(w 18 16), (o (.idxS 1 (t 14) (t 16)) 19), (o (.load false 1 (t 19)) 20), (w 6 18), (w 7 20)]) (.ops [(w 21 5), (w 22 1), (w 23 6), (o (.bin .add 3 (t 22) (t 23)) 24), (w 25 7), (o (.build [zi, zu] [(0, (1, (t 24))), (1, (1, (t 25)))]) 26), (o (.bslice 2 154 1 [zi, zu] [(0, (2, (t 26)))]) 27), (o (.app 55 154 2 16 (t 21) (t 27)) 28), (w 5 28)]))) (.ops [(o (.bin .add 3 (t 16) (ci 1)) 29), (w 16 29)]))))))) (.seq (.ops [(w 30 5), (w 4 30)]) .ret))))
theorem f_boot_block : Fits Tryz.prog 70 2 c_boot_block [(.tmp 4)] := fits_mk Tryz.func70 (by kernel_rfl) (by kernel_rfl) (by kernel_rfl)
theorem p_boot_block (F : Nat) (a0 : S_boot_plan) (a1 : Int) (r : (List S_wset_Write)) (h : m_boot_block F a0 a1 = some r) : PC Tryz.prog 70 [S.agg [.v (.int .i64 a0.xs.xGeo.xThreads), .v (.int .i64 a0.xs.xGeo.xSlots), .v (.int .i64 a0.xs.xGeo.xThings), .sl (flat e_S_state_Slot a0.xs.xSlots) a0.xs.xSlots.length, .sl (flat e_S_thing_Thing a0.xs.xThings) a0.xs.xThings.length, .sl (flat e_S_opd_Desc a0.xwas) a0.xwas.length, .v (.int .u64 a0.xboot), .v (.bool a0.xfirst)], S.one (.v (.int .i64 a1))] (S.one (.sl (flat e_S_wset_Write r) r.length)) := by
 unfold m_boot_block at h
 refine PC_go f_boot_block rfl rfl ?_
 intro C hP
 unfold c_boot_block; dsimp
 apply E_seq
 apply E_ops
 refine W1 (does_box rfl rfl rfl rfl) ?_
 apply WM
 apply W_nil
 refine E_keep [1, 2] [2] ?_
 (try dsimp)
 apply E_seq
 apply E_ops
 apply WM
 apply W_nil
 (try dsimp)
 obtain ⟨k2, k2d, h⟩ := of_jn h
 refine E_seqJ (α := (List S_wset_Write)) (fun (i : (List S_wset_Write)) => (⟨[(5, S.one (.own 1028 0 i.length (some (2, 154))))], [(1028, (⟨true, flat e_S_wset_Write i⟩ : Reg))]⟩ : St)) (fun i => k2 i = some r) (fun i h => ?_) ?_
 ·let iv := i; change k2 i = some r at h; generalize i = v1 at h ⊢
  rw [k2d] at h; dsimp only at h
  (try dsimp)
  apply E_seq
  apply E_ops
  apply WM
  apply WM
  apply W_nil
  refine E_keep [4] [1028] ?_
  (try dsimp)
  refine E_ghost (Le_frz (r := 1028) rfl rfl).b ?_
  (try dsimp)
  apply E_ret
  cases h
  (try simp only [qt, qb, qn])
  refine fin_mk (xs := _) ⟨_, rfl, rfl⟩ ?_
  rfl
 ·
  skip
  apply E_seq
  apply E_ops
  refine WQ (does_add_ptr rfl rfl) ?_
  refine WQ (does_add_ptr rfl rfl) ?_
  refine WQ (does_loadA_ptr rfl rfl rfl rfl (by decide)) ?_
  refine WQ (does_add_ptr rfl rfl) ?_
  refine WQ (does_load1_ptr rfl rfl rfl) ?_
  refine WQ (does_build rfl rfl) ?_
  obtain ⟨x3, x3h, h⟩ := of_bind h
  refine W1 (does_call1 hP (p_super_Put F (⟨a0.xs.xGeo, a0.xboot⟩ : S_super_Super) x3 x3h) rfl rfl rfl) ?_
  refine WQ (does_len_sl rfl) ?_
  apply WM
  apply W_nil
  refine E_keep [1, 5, 14, 15, 16] [] ?_
  (try dsimp)
  apply E_block
  (try dsimp)
  refine E_loopB (α := Int × (List S_wset_Write)) (fun (i : Int × (List S_wset_Write)) => (⟨[(1, S.one (.v (.int .i64 a1))), (5, S.one (.own 1028 0 i.2.length (some (2, 154)))), (14, S.one (.sl (flat e_i_u64 x3) x3.length)), (15, S.one (.v (.int .i64 ((x3.length : Nat) : Int)))), (16, S.one (.v (.int .i64 i.1)))], [(1028, (⟨true, flat e_S_wset_Write i.2⟩ : Reg))]⟩ : St)) (fun n i => m_boot_block_l0 F a1 k2 x3 n i.1 i.2 = some r) F ((0 : Int), ([] : List S_wset_Write)) h ?_ (fun n i h => ?_)
  ·
   refine LeB_trans (LeB_nilown (i := 5) (r := 1028) 2 154 rfl rfl) ?_
   exact (Le.b (le_mk ⟨rfl, rfl, rfl, rfl, rfl, trivial⟩ ⟨rfl, trivial⟩))
  obtain ⟨v16, v17⟩ := i; dsimp only at h
  cases n with
  | zero => cases h
  | succ n18 =>
   unfold m_boot_block_l0 at h
   (try dsimp)
   apply E_seq
   apply E_ops
   refine WQ (does_int rfl rfl rfl) ?_
   apply W_nil
   (try dsimp)
   apply E_seq
   refine E_cond rfl (fun hc19 => ?_) (fun hc19 => ?_)
   ·replace h := of_ct h hc19
    apply E_skip
    refine E_keep [1, 5, 14, 15, 16] [1028] ?_
    (try dsimp)
    apply E_seq
    apply E_block
    apply E_seq
    apply E_ops
    apply WM
    obtain ⟨g20, h⟩ := of_gd h
    refine WQ (does_idx_sl rfl rfl g20.1 g20.2) ?_
    refine WQ (does_load1_slF (k := 1) rfl (fun _ => rfl) g20 0 rfl rfl) ?_
    apply WM
    apply WM
    apply W_nil
    refine E_keep [1, 5, 6, 7, 14, 15, 16] [1028] ?_
    (try dsimp)
    apply E_ops
    apply WM
    apply WM
    apply WM
    obtain ⟨g21, h⟩ := of_gd h
    refine WQ (does_add rfl rfl g21.1 g21.2) ?_
    apply WM
    refine WQ (does_build rfl rfl) ?_
    refine W1 (does_bslice rfl rfl rfl rfl) ?_
    obtain ⟨g22, h⟩ := of_gd h
    refine W1 (does_appF (e := e_S_wset_Write) rfl rfl (fun _ => rfl) (fun _ => rfl) rfl (Src.lit (e := e_S_wset_Write) ([(⟨(a1 + v16), (nth x3 v16)⟩ : S_wset_Write)] : List S_wset_Write) rfl (fun _ => rfl) rfl rfl) g22 rfl) ?_
    apply WM
    apply W_nil
    refine E_keep [1, 5, 14, 15, 16] [1028] ?_
    (try dsimp)
    apply E_ops
    obtain ⟨g23, h⟩ := of_gd h
    refine WQ (does_add rfl rfl g23.1 g23.2) ?_
    apply WM
    apply W_nil
    refine ⟨n18, ((v16 + (1 : Int)), (v17 ++ ([(⟨(a1 + v16), (nth x3 v16)⟩ : S_wset_Write)] : List S_wset_Write))), Nat.lt_succ_self _, h, ?_⟩
    exact (Le.b (le_mk ⟨rfl, rfl, rfl, rfl, rfl, trivial⟩ ⟨rfl, trivial⟩))
   ·replace h := of_cf h hc19
    apply E_exit
    refine ⟨v17, h, ?_⟩
    exact (Le.b (le_mk ⟨rfl, trivial⟩ ⟨rfl, trivial⟩))
end Go.V.P
