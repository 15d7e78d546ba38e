/- Walks: each function does what its model says: reeve/geo.Plain, reeve/thing.own, reeve/thing.in, reeve/thing.Good, reeve/thing.New, reeve/geo.in, reeve/geo.Good, reeve/geo.Root, reeve/state.New, reeve/cap.None, reeve/cap.in, reeve/right.Good, reeve/right.Badge, reeve/cap.badged, reeve/cap.Good, (reeve/state.State).there, (reeve/state.State).caps, (reeve/state.State).holders, (reeve/state.State).things, (reeve/state.State).nodes. Printed by mg.py. No premises. -/
import Derived.Test.YteocabneaenpeaaGreatP0
set_option linter.unusedVariables false
set_option linter.unusedSimpArgs false
set_option maxRecDepth 20000
set_option maxHeartbeats 4000000
namespace Go.V.P
open Go.V Go.Proofs
/- reeve/geo.Plain -/
def c_geo_Plain : VCode := (.seq (.ops [(o (.newv [zi, zi, zi]) 0)]) (.seq (.ops [(o (.build [zi, zi, zi] [(0, (1, (ci 2))), (1, (1, (ci 32))), (2, (1, (ci 16)))]) 1), (n_ (.store 3 (t 0) (t 1)))]) .ret))
theorem f_geo_Plain : Fits Tryz.prog 27 0 c_geo_Plain [(.cell true 3 0)] := fits_mk Tryz.func27 (by kernel_rfl) (by kernel_rfl) (by kernel_rfl)
theorem p_geo_Plain (F : Nat)  (r : S_geo_Geo) (h : m_geo_Plain F  = some r) : PC Tryz.prog 27 [] (S.agg [.v (.int .i64 r.xThreads), .v (.int .i64 r.xSlots), .v (.int .i64 r.xThings)]) := by
 unfold m_geo_Plain at h
 refine PC_go f_geo_Plain rfl rfl ?_
 intro C hP
 unfold c_geo_Plain; dsimp
 apply E_seq
 apply E_ops
 refine W1 (does_newv rfl rfl) ?_
 apply W_nil
 (try dsimp)
 apply E_seq
 apply E_ops
 refine WQ (does_build rfl rfl) ?_
 refine W1 (does_store rfl rfl rfl rfl rfl (Nat.le_of_ble_eq_true rfl) rfl (by decide)) ?_
 apply W_nil
 refine E_keep [0] [0] ?_
 (try dsimp)
 apply E_ret
 cases h
 (try simp only [qt, qb, qn])
 refine fin_mk (xs := _) ⟨_, _, at_whole rfl (by simp), rfl, rfl, rfl⟩ ?_
 rfl
/- reeve/thing.own -/
def c_thing_own : VCode := (.seq (.ops [(o (.box 104 (t 0)) 1), (o (.newv [zi, zi, zi, zi, zi, zi, zi, zb, zu, zu, zu, zu, zu]) 2)]) (.seq (.seq (.ops [(o (.add 0 (t 1)) 3), (o (.load false 1 (t 3)) 4)]) (.block 0 (.seq (.ops [(o (.bin .eql 3 (t 4) (ci 1)) 6), (w 5 6)]) (.cond (t 5) (.seq (.ops [(o (.add 0 (t 1)) 7), (o (.load false 1 (t 7)) 8), (o (.add 3 (t 1)) 9), (o (.load false 1 (t 9)) 10), (o (.add 4 (t 1)) 11), (o (.load false 1 (t 11)) 12), (o (.build [zi, zi, zi, zi, zi, zi, zi, zb, zu, zu, zu, zu, zu] [(0, (1, (t 8))), (3, (1, (t 10))), (4, (1, (t 12)))]) 13), (n_ (.store 13 (t 2) (t 13)))]) .ret) (.seq (.ops [(o (.bin .eql 3 (t 4) (ci 2)) 15), (w 14 15)]) (.cond (t 14) (.seq (.ops [(o (.add 0 (t 1)) 16), (o (.load false 1 (t 16)) 17), (o (.add 1 (t 1)) 18), (o (.load false 1 (t 18)) 19), (o (.add 2 (t 1)) 20), (o (.load false 1 (t 20)) 21), (o (.build [zi, zi, zi, zi, zi, zi, zi, zb, zu, zu, zu, zu, zu] [(0, (1, (t 17))), (1, (1, (t 19))), (2, (1, (t 21)))]) 22), (n_ (.store 13 (t 2) (t 22)))]) .ret) (.seq (.ops [(o (.bin .eql 3 (t 4) (ci 3)) 24), (w 23 24)]) (.cond (t 23) (.seq (.seq (.ops [(o (.add 7 (t 1)) 25), (o (.load false 1 (t 25)) 26), (o (.un .not (t 26)) 27)]) (.cond (t 27) (.seq (.ops [(o (.add 0 (t 1)) 28), (o (.load false 1 (t 28)) 29), (o (.build [zi, zi, zi, zi, zi, zi, zi, zb, zu, zu, zu, zu, zu] [(0, (1, (t 29)))]) 30), (n_ (.store 13 (t 2) (t 30)))]) .ret) .skip)) (.seq (.ops [(o (.add 0 (t 1)) 31), (o (.load false 1 (t 31)) 32), (o (.add 8 (t 1)) 33), (o (.load false 1 (t 33)) 34), (o (.add 6 (t 1)) 35), (o (.load false 1 (t 35)) 36), (o (.add 5 (t 1)) 37), (o (.load false 1 (t 37)) 38), (o (.build [zi, zi, zi, zi, zi, zi, zi, zb, zu, zu, zu, zu, zu] [(0, (1, (t 32))), (7, (1, (cb true))), (8, (1, (t 34))), (6, (1, (t 36))), (5, (1, (t 38)))]) 39), (n_ (.store 13 (t 2) (t 39)))]) .ret)) (.seq (.ops [(o (.bin .eql 3 (t 4) (ci 4)) 41), (w 40 41)]) (.cond (t 40) (.seq (.ops [(o (.add 0 (t 1)) 42), (o (.load false 1 (t 42)) 43), (o (.add 8 (t 1)) 44), (o (.load false 1 (t 44)) 45), (o (.build [zi, zi, zi, zi, zi, zi, zi, zb, zu, zu, zu, zu, zu] [(0, (1, (t 43))), (8, (1, (t 45)))]) 46), (n_ (.store 13 (t 2) (t 46)))]) .ret) (.seq (.ops [(o (.bin .eql 3 (t 4) (ci 5)) 48), (w 47 48)]) (.cond (t 47) (.seq (.ops [(o (.add 0 (t 1)) 49), (o (.load false 1 (t 49)) 50), (o (.add 9 (t 1)) 51), (o (.load true 4 (t 51)) 52), (o (.build [zi, zi, zi, zi, zi, zi, zi, zb, zu, zu, zu, zu, zu] [(0, (1, (t 50))), (9, (4, (t 52)))]) 53), (n_ (.store 13 (t 2) (t 53)))]) .ret) .skip)))))))))))) (.seq (.ops [(o (.build [zi, zi, zi, zi, zi, zi, zi, zb, zu, zu, zu, zu, zu] []) 54), (n_ (.store 13 (t 2) (t 54)))]) .ret)))
theorem f_thing_own : Fits Tryz.prog 114 1 c_thing_own [(.cell true 13 2)] := fits_mk Tryz.func114 (by kernel_rfl) (by kernel_rfl) (by kernel_rfl)
theorem p_thing_own (F : Nat) (a0 : S_thing_Thing) (r : S_thing_Thing) (h : m_thing_own F a0 = some r) : PC Tryz.prog 114 [S.agg [.v (.int .i64 a0.xType), .v (.int .i64 a0.xBits), .v (.int .i64 a0.xBase), .v (.int .i64 a0.xSize), .v (.int .i64 a0.xUsed), .v (.int .i64 a0.xFrom), .v (.int .i64 a0.xBadge), .v (.bool a0.xFull), .v (.int .u64 a0.xWord), .v (.int .u64 a0.xData.c0), .v (.int .u64 a0.xData.c1), .v (.int .u64 a0.xData.c2), .v (.int .u64 a0.xData.c3)]] (S.agg [.v (.int .i64 r.xType), .v (.int .i64 r.xBits), .v (.int .i64 r.xBase), .v (.int .i64 r.xSize), .v (.int .i64 r.xUsed), .v (.int .i64 r.xFrom), .v (.int .i64 r.xBadge), .v (.bool r.xFull), .v (.int .u64 r.xWord), .v (.int .u64 r.xData.c0), .v (.int .u64 r.xData.c1), .v (.int .u64 r.xData.c2), .v (.int .u64 r.xData.c3)]) := by
 unfold m_thing_own at h
 refine PC_go f_thing_own rfl rfl ?_
 intro C hP
 unfold c_thing_own; dsimp
 apply E_seq
 apply E_ops
 refine W1 (does_box rfl rfl rfl rfl) ?_
 refine W1 (does_newv rfl rfl) ?_
 apply W_nil
 refine E_keep [1, 2] [1, 2] ?_
 (try dsimp)
 apply E_seq
 apply E_seq
 apply E_ops
 refine WQ (does_add_ptr rfl rfl) ?_
 refine WQ (does_load1_ptr rfl rfl rfl) ?_
 apply W_nil
 refine E_keep [1, 2, 4] [1, 2] ?_
 (try dsimp)
 apply E_block
 apply E_seq
 apply E_ops
 refine WQ (does_int rfl rfl rfl) ?_
 apply WM
 apply W_nil
 refine E_keep [1, 2, 4, 5] [1, 2] ?_
 (try dsimp)
 refine E_cond rfl (fun hc1 => ?_) (fun hc1 => ?_)
 ·replace h := of_ct h hc1
  apply E_seq
  apply E_ops
  refine WQ (does_add_ptr rfl rfl) ?_
  refine WQ (does_load1_ptr rfl rfl rfl) ?_
  refine WQ (does_add_ptr rfl rfl) ?_
  refine WQ (does_load1_ptr rfl rfl rfl) ?_
  refine WQ (does_add_ptr rfl rfl) ?_
  refine WQ (does_load1_ptr rfl rfl rfl) ?_
  refine WQ (does_build rfl rfl) ?_
  refine W1 (does_store rfl rfl rfl rfl rfl (Nat.le_of_ble_eq_true rfl) rfl (by decide)) ?_
  apply W_nil
  refine E_keep [2] [2] ?_
  (try dsimp)
  apply E_ret
  cases h
  (try simp only [qt, qb, qn])
  refine fin_mk (xs := _) ⟨_, _, at_whole rfl (by simp), rfl, rfl, rfl⟩ ?_
  rfl
 ·replace h := of_cf h hc1
  apply E_seq
  apply E_ops
  refine WQ (does_int rfl rfl rfl) ?_
  apply WM
  apply W_nil
  refine E_keep [1, 2, 4, 14] [1, 2] ?_
  (try dsimp)
  refine E_cond rfl (fun hc2 => ?_) (fun hc2 => ?_)
  ·replace h := of_ct h hc2
   apply E_seq
   apply E_ops
   refine WQ (does_add_ptr rfl rfl) ?_
   refine WQ (does_load1_ptr rfl rfl rfl) ?_
   refine WQ (does_add_ptr rfl rfl) ?_
   refine WQ (does_load1_ptr rfl rfl rfl) ?_
   refine WQ (does_add_ptr rfl rfl) ?_
   refine WQ (does_load1_ptr rfl rfl rfl) ?_
   refine WQ (does_build rfl rfl) ?_
   refine W1 (does_store rfl rfl rfl rfl rfl (Nat.le_of_ble_eq_true rfl) rfl (by decide)) ?_
   apply W_nil
   refine E_keep [2] [2] ?_
   (try dsimp)
   apply E_ret
   cases h
   (try simp only [qt, qb, qn])
   refine fin_mk (xs := _) ⟨_, _, at_whole rfl (by simp), rfl, rfl, rfl⟩ ?_
   rfl
  ·replace h := of_cf h hc2
   apply E_seq
   apply E_ops
   refine WQ (does_int rfl rfl rfl) ?_
   apply WM
   apply W_nil
   refine E_keep [1, 2, 4, 23] [1, 2] ?_
   (try dsimp)
   refine E_cond rfl (fun hc3 => ?_) (fun hc3 => ?_)
   ·replace h := of_ct h hc3
    apply E_seq
    apply E_seq
    apply E_ops
    refine WQ (does_add_ptr rfl rfl) ?_
    refine WQ (does_load1_ptr rfl rfl rfl) ?_
    refine WQ (does_not rfl) ?_
    apply W_nil
    refine E_keep [1, 2, 27] [1, 2] ?_
    (try dsimp)
    refine E_cond rfl (fun hc4 => ?_) (fun hc4 => ?_)
    ·replace h := of_ct h hc4
     apply E_seq
     apply E_ops
     refine WQ (does_add_ptr rfl rfl) ?_
     refine WQ (does_load1_ptr rfl rfl rfl) ?_
     refine WQ (does_build rfl rfl) ?_
     refine W1 (does_store rfl rfl rfl rfl rfl (Nat.le_of_ble_eq_true rfl) rfl (by decide)) ?_
     apply W_nil
     refine E_keep [2] [2] ?_
     (try dsimp)
     apply E_ret
     cases h
     (try simp only [qt, qb, qn])
     refine fin_mk (xs := _) ⟨_, _, at_whole rfl (by simp), rfl, rfl, rfl⟩ ?_
     rfl
    ·replace h := of_cf h hc4
     apply E_skip
     refine E_keep [1, 2] [1, 2] ?_
     (try dsimp)
     apply E_seq
     apply E_ops
     refine WQ (does_add_ptr rfl rfl) ?_
     refine WQ (does_load1_ptr rfl rfl rfl) ?_
     refine WQ (does_add_ptr rfl rfl) ?_
     refine WQ (does_load1_ptr rfl rfl rfl) ?_
     refine WQ (does_add_ptr rfl rfl) ?_
     refine WQ (does_load1_ptr rfl rfl rfl) ?_
     refine WQ (does_add_ptr rfl rfl) ?_
     refine WQ (does_load1_ptr rfl rfl rfl) ?_
     refine WQ (does_build rfl rfl) ?_
     refine W1 (does_store rfl rfl rfl rfl rfl (Nat.le_of_ble_eq_true rfl) rfl (by decide)) ?_
     apply W_nil
     refine E_keep [2] [2] ?_
     (try dsimp)
     apply E_ret
     cases h
     (try simp only [qt, qb, qn])
     refine fin_mk (xs := _) ⟨_, _, at_whole rfl (by simp), rfl, rfl, rfl⟩ ?_
     rfl
   ·replace h := of_cf h hc3
    apply E_seq
    apply E_ops
    refine WQ (does_int rfl rfl rfl) ?_
    apply WM
    apply W_nil
    refine E_keep [1, 2, 4, 40] [1, 2] ?_
    (try dsimp)
    refine E_cond rfl (fun hc5 => ?_) (fun hc5 => ?_)
    ·replace h := of_ct h hc5
     apply E_seq
     apply E_ops
     refine WQ (does_add_ptr rfl rfl) ?_
     refine WQ (does_load1_ptr rfl rfl rfl) ?_
     refine WQ (does_add_ptr rfl rfl) ?_
     refine WQ (does_load1_ptr rfl rfl rfl) ?_
     refine WQ (does_build rfl rfl) ?_
     refine W1 (does_store rfl rfl rfl rfl rfl (Nat.le_of_ble_eq_true rfl) rfl (by decide)) ?_
     apply W_nil
     refine E_keep [2] [2] ?_
     (try dsimp)
     apply E_ret
     cases h
     (try simp only [qt, qb, qn])
     refine fin_mk (xs := _) ⟨_, _, at_whole rfl (by simp), rfl, rfl, rfl⟩ ?_
     rfl
    ·replace h := of_cf h hc5
     apply E_seq
     apply E_ops
     refine WQ (does_int rfl rfl rfl) ?_
     apply WM
     apply W_nil
     refine E_keep [1, 2, 47] [1, 2] ?_
     (try dsimp)
     refine E_cond rfl (fun hc6 => ?_) (fun hc6 => ?_)
     ·replace h := of_ct h hc6
      apply E_seq
      apply E_ops
      refine WQ (does_add_ptr rfl rfl) ?_
      refine WQ (does_load1_ptr rfl rfl rfl) ?_
      refine WQ (does_add_ptr rfl rfl) ?_
      refine WQ (does_loadA_ptr rfl rfl rfl rfl (by decide)) ?_
      refine WQ (does_build rfl rfl) ?_
      refine W1 (does_store rfl rfl rfl rfl rfl (Nat.le_of_ble_eq_true rfl) rfl (by decide)) ?_
      apply W_nil
      refine E_keep [2] [2] ?_
      (try dsimp)
      apply E_ret
      cases h
      (try simp only [qt, qb, qn])
      refine fin_mk (xs := _) ⟨_, _, at_whole rfl (by simp), rfl, rfl, rfl⟩ ?_
      rfl
     ·replace h := of_cf h hc6
      apply E_skip
      refine E_keep [2] [2] ?_
      (try dsimp)
      apply E_seq
      apply E_ops
      refine WQ (does_build rfl rfl) ?_
      refine W1 (does_store rfl rfl rfl rfl rfl (Nat.le_of_ble_eq_true rfl) rfl (by decide)) ?_
      apply W_nil
      refine E_keep [2] [2] ?_
      (try dsimp)
      apply E_ret
      cases h
      (try simp only [qt, qb, qn])
      refine fin_mk (xs := _) ⟨_, _, at_whole rfl (by simp), rfl, rfl, rfl⟩ ?_
      rfl
/- reeve/thing.in -/
def c_thing_in : VCode := (.seq (.ops [(o (.mv (cb false)) 6)]) (.seq (.ops [(w 7 0), (w 8 1), (o (.bin .geq 3 (t 7) (t 8)) 9), (w 10 9), (g_ (.mv (t 0)) 11 10 true), (g_ (.mv (t 2)) 12 10 true), (g_ (.bin .leq 3 (t 11) (t 12)) 13 10 true), (o (.pick (t 10) (t 13) (cb false)) 14), (w 6 14)]) .ret))
theorem f_thing_in : Fits Tryz.prog 115 3 c_thing_in [(.tmp 6)] := fits_mk Tryz.func115 (by kernel_rfl) (by kernel_rfl) (by kernel_rfl)
theorem p_thing_in (F : Nat) (a0 : Int) (a1 : Int) (a2 : Int) (r : Bool) (h : m_thing_in F a0 a1 a2 = some r) : PC Tryz.prog 115 [S.one (.v (.int .i64 a0)), S.one (.v (.int .i64 a1)), S.one (.v (.int .i64 a2))] (S.one (.v (.bool r))) := by
 unfold m_thing_in at h
 refine PC_go f_thing_in rfl rfl ?_
 intro C hP
 unfold c_thing_in; dsimp
 apply E_seq
 apply E_ops
 apply WM
 apply W_nil
 refine E_keep [0, 1, 2] [] ?_
 (try dsimp)
 apply E_seq
 apply E_ops
 apply WM
 apply WM
 refine WQ (does_int rfl rfl rfl) ?_
 apply WM
 apply W_lazy
 ·rfl
 ·intro hB; (try simp only [hB, bss, ctt]); exact does_mv rfl
 apply W_lazy
 ·rfl
 ·intro hB; (try simp only [hB, bss, ctt]); exact does_mv rfl
 apply W_lazy
 ·rfl
 ·intro hB; (try simp only [hB, bss, ctt]); exact does_int rfl rfl rfl
 refine WQ (does_and rfl rfl rfl) ?_
 apply WM
 apply W_nil
 refine E_keep [6] [] ?_
 (try dsimp)
 apply E_ret
 cases h
 (try simp only [qt, qb, qn])
 refine fin_mk (xs := _) ⟨_, rfl, rfl⟩ ?_
 rfl
/- reeve/thing.Good -/
def c_thing_Good : VCode := (.seq (.ops [(o (.box 104 (t 0)) 1), (o (.mv (cb false)) 2)]) (.seq (.seq (.draw [((o (.load true 13 (t 1)) 3), []), ((o (.call 114 [(t 3)]) 4), [0]), ((o (.load true 13 (t 1)) 5), []), ((o (.eqA true 104 (t 4) (t 5)) 6), [1, 2])]) (.cond (t 6) (.seq (.ops [(o (.mv (cb false)) 2)]) .ret) .skip)) (.seq (.seq (.ops [(o (.add 0 (t 1)) 7), (o (.load false 1 (t 7)) 8)]) (.block 0 (.seq (.ops [(o (.bin .eql 3 (t 8) (ci 1)) 10), (w 9 10)]) (.cond (t 9) (.seq (.ops [(o (.add 3 (t 1)) 11), (o (.load false 1 (t 11)) 12), (o (.call 115 [(t 12), (ci 1), (ci 4096)]) 13), (w 14 13), (g_ (.add 4 (t 1)) 15 14 true), (g_ (.load false 1 (t 15)) 16 14 true), (g_ (.add 3 (t 1)) 17 14 true), (g_ (.load false 1 (t 17)) 18 14 true), (g_ (.call 115 [(t 16), (ci 0), (t 18)]) 19 14 true), (o (.pick (t 14) (t 19) (cb false)) 20), (w 2 20)]) .ret) (.seq (.ops [(o (.bin .eql 3 (t 8) (ci 2)) 22), (w 21 22)]) (.cond (t 21) (.seq (.draw [((o (.add 1 (t 1)) 23), []), ((o (.load false 1 (t 23)) 24), [0]), ((o (.call 115 [(t 24), (ci 1), (ci 4)]) 25), [1]), ((w 26 25), [2, 2]), ((g_ (.add 2 (t 1)) 27 26 true), [3]), ((g_ (.load false 1 (t 27)) 28 26 true), [4, 3]), ((g_ (.add 1 (t 1)) 29 26 true), [3]), ((g_ (.load false 1 (t 29)) 30 26 true), [6, 3]), ((g_ (.bin .shl 3 (ci 1) (t 30)) 31 26 true), [7, 3]), ((g_ (.bin .sub 3 (ci 96) (t 31)) 32 26 true), [8, 3]), ((g_ (.call 115 [(t 28), (ci 0), (t 32)]) 33 26 true), [5, 9, 3, 3]), ((o (.pick (t 26) (t 33) (cb false)) 34), [3, 10]), ((w 2 34), [11, 10, 0, 1, 2, 3, 4, 5, 6, 7, 8, 9, 10, 11])]) .ret) (.seq (.ops [(o (.bin .eql 3 (t 8) (ci 3)) 36), (w 35 36)]) (.cond (t 35) (.seq (.ops [(o (.add 6 (t 1)) 37), (o (.load false 1 (t 37)) 38), (o (.call 115 [(t 38), (ci 0), (ci 65535)]) 39), (w 40 39), (g_ (.add 5 (t 1)) 41 40 true), (g_ (.load false 1 (t 41)) 42 40 true), (g_ (.call 115 [(t 42), (ci 0), (ci 96)]) 43 40 true), (o (.pick (t 40) (t 43) (cb false)) 44), (w 2 44)]) .ret) .skip)))))))) (.seq (.ops [(o (.mv (cb true)) 2)]) .ret))))
theorem f_thing_Good : Fits Tryz.prog 75 1 c_thing_Good [(.tmp 2)] := fits_mk Tryz.func75 (by kernel_rfl) (by kernel_rfl) (by kernel_rfl)
theorem p_thing_Good (F : Nat) (a0 : S_thing_Thing) (r : Bool) (h : m_thing_Good F a0 = some r) : PC Tryz.prog 75 [S.agg [.v (.int .i64 a0.xType), .v (.int .i64 a0.xBits), .v (.int .i64 a0.xBase), .v (.int .i64 a0.xSize), .v (.int .i64 a0.xUsed), .v (.int .i64 a0.xFrom), .v (.int .i64 a0.xBadge), .v (.bool a0.xFull), .v (.int .u64 a0.xWord), .v (.int .u64 a0.xData.c0), .v (.int .u64 a0.xData.c1), .v (.int .u64 a0.xData.c2), .v (.int .u64 a0.xData.c3)]] (S.one (.v (.bool r))) := by
 unfold m_thing_Good at h
 refine PC_go f_thing_Good rfl rfl ?_
 intro C hP
 unfold c_thing_Good; dsimp
 apply E_seq
 apply E_ops
 refine W1 (does_box rfl rfl rfl rfl) ?_
 apply WM
 apply W_nil
 refine E_keep [1] [1] ?_
 (try dsimp)
 apply E_seq
 apply E_seq
 obtain ⟨x1, x1h, h⟩ := of_bind h
 refine E_draw [0, 2, 3] ?_
 refine XQ 0 rfl rfl rfl (does_loadA_ptr rfl rfl rfl rfl (by decide)) ?_
 refine XQ 2 rfl rfl rfl (does_loadA_ptr rfl rfl rfl rfl (by decide)) ?_
 refine X1 rfl (XK rfl (does_call1 hP (p_thing_own F a0 x1 x1h) rfl rfl rfl) ?_)
 refine XQ 3 rfl rfl rfl (does_eqA hP eqok104 rfl rfl rfl rfl ⟨rfl, ⟨rfl, ⟨rfl, ⟨rfl, ⟨rfl, ⟨rfl, ⟨rfl, ⟨trivial, ⟨rfl, ⟨rfl, ⟨rfl, ⟨rfl, ⟨rfl, trivial⟩⟩⟩⟩⟩⟩⟩⟩⟩⟩⟩⟩⟩) ?_
 refine X_nil rfl ?_
 refine E_keep [1, 6] [1] ?_
 (try dsimp)
 refine E_cond rfl (fun hc2 => ?_) (fun hc2 => ?_)
 ·replace h := of_ct h hc2
  apply E_seq
  apply E_ops
  apply WM
  apply W_nil
  refine E_keep [2] [] ?_
  (try dsimp)
  apply E_ret
  cases h
  (try simp only [qt, qb, qn])
  refine fin_mk (xs := _) ⟨_, rfl, rfl⟩ ?_
  rfl
 ·replace h := of_cf h hc2
  apply E_skip
  refine E_keep [1] [1] ?_
  (try dsimp)
  apply E_seq
  apply E_seq
  apply E_ops
  refine WQ (does_add_ptr rfl rfl) ?_
  refine WQ (does_load1_ptr rfl rfl rfl) ?_
  apply W_nil
  refine E_keep [1, 8] [1] ?_
  (try dsimp)
  apply E_block
  apply E_seq
  apply E_ops
  refine WQ (does_int rfl rfl rfl) ?_
  apply WM
  apply W_nil
  refine E_keep [1, 8, 9] [1] ?_
  (try dsimp)
  refine E_cond rfl (fun hc3 => ?_) (fun hc3 => ?_)
  ·replace h := of_ct h hc3
   apply E_seq
   apply E_ops
   refine WQ (does_add_ptr rfl rfl) ?_
   refine WQ (does_load1_ptr rfl rfl rfl) ?_
   obtain ⟨x4, x4h, h⟩ := of_bind h
   refine W1 (does_call1 hP (p_thing_in F a0.xSize (1 : Int) (4096 : Int) x4 x4h) rfl rfl rfl) ?_
   apply WM
   apply W_lazy
   ·rfl
   ·intro hB; (try simp only [hB, bss, ctt]); exact does_add_ptr rfl rfl
   apply W_lazy
   ·rfl
   ·intro hB; (try simp only [hB, bss, ctt]); exact does_load1_ptr rfl rfl rfl
   apply W_lazy
   ·rfl
   ·intro hB; (try simp only [hB, bss, ctt]); exact does_add_ptr rfl rfl
   apply W_lazy
   ·rfl
   ·intro hB; (try simp only [hB, bss, ctt]); exact does_load1_ptr rfl rfl rfl
   obtain ⟨x5, x5h, h⟩ := of_bind h
   apply W_lazyD
   ·rfl
   ·intro hB; (try simp only [hB, bss, ctt]); exact does_call1 hP (p_thing_in F a0.xUsed (0 : Int) a0.xSize x5 (of_lz x5h (bt hB))) rfl rfl rfl
   refine WQ (does_and rfl rfl rfl) ?_
   apply WM
   apply W_nil
   refine E_keep [2] [] ?_
   (try dsimp)
   apply E_ret
   cases h
   (try simp only [qt, qb, qn])
   refine fin_mk (xs := _) ⟨_, rfl, rfl⟩ ?_
   rfl
  ·replace h := of_cf h hc3
   apply E_seq
   apply E_ops
   refine WQ (does_int rfl rfl rfl) ?_
   apply WM
   apply W_nil
   refine E_keep [1, 8, 21] [1] ?_
   (try dsimp)
   refine E_cond rfl (fun hc6 => ?_) (fun hc6 => ?_)
   ·replace h := of_ct h hc6
    apply E_seq
    obtain ⟨x7, x7h, h⟩ := of_bind h
    obtain ⟨g8, h⟩ := of_gd h
    obtain ⟨g9, h⟩ := of_gd h
    obtain ⟨x10, x10h, h⟩ := of_bind h
    refine E_draw [0, 1, 3, 4, 5, 6, 7, 8, 9, 11, 12] ?_
    refine XQ 0 rfl rfl rfl (does_add_ptr rfl rfl) ?_
    refine XQ 1 rfl rfl rfl (does_load1_ptr rfl rfl rfl) ?_
    refine X1 rfl (XK rfl (does_call1 hP (p_thing_in F a0.xBits (1 : Int) (4 : Int) x7 x7h) rfl rfl rfl) ?_)
    refine XQ 3 rfl rfl rfl (does_mv rfl) ?_
    apply XQ_lazy 4
    ·rfl
    ·rfl
    ·rfl
    ·rfl
    ·intro hB; (try simp only [hB, bss, ctt]); exact does_add_ptr rfl rfl
    apply XQ_lazy 5
    ·rfl
    ·rfl
    ·rfl
    ·rfl
    ·intro hB; (try simp only [hB, bss, ctt]); exact does_load1_ptr rfl rfl rfl
    apply XQ_lazy 6
    ·rfl
    ·rfl
    ·rfl
    ·rfl
    ·intro hB; (try simp only [hB, bss, ctt]); exact does_add_ptr rfl rfl
    apply XQ_lazy 7
    ·rfl
    ·rfl
    ·rfl
    ·rfl
    ·intro hB; (try simp only [hB, bss, ctt]); exact does_load1_ptr rfl rfl rfl
    apply XQ_lazy 8
    ·rfl
    ·rfl
    ·rfl
    ·rfl
    ·intro hB; (try simp only [hB, bss, ctt]); exact does_shl rfl rfl (g8 hB)
    apply XQ_lazy 9
    ·rfl
    ·rfl
    ·rfl
    ·rfl
    ·intro hB; (try simp only [hB, bss, ctt]); exact does_sub rfl rfl (g9 hB).1 (g9 hB).2
    (try dsimp)
    refine X1 rfl ?_
    apply XK_lazy
    ·rfl
    ·rfl
    ·intro hB; (try simp only [hB, bss, ctt]); exact does_call1 hP (p_thing_in F a0.xBase (0 : Int) ((96 : Int) - (ishl .i64 (1 : Int) a0.xBits)) x10 (of_lz x10h (bt hB))) rfl rfl rfl
    refine XQ 11 rfl rfl rfl (does_and rfl rfl rfl) ?_
    refine XQ 12 rfl rfl rfl (does_mv rfl) ?_
    refine X_nil rfl ?_
    refine E_keep [2] [] ?_
    (try dsimp)
    apply E_ret
    cases h
    (try simp only [qt, qb, qn])
    refine fin_mk (xs := _) ⟨_, rfl, rfl⟩ ?_
    rfl
   ·replace h := of_cf h hc6
    apply E_seq
    apply E_ops
    refine WQ (does_int rfl rfl rfl) ?_
    apply WM
    apply W_nil
    refine E_keep [1, 35] [1] ?_
    (try dsimp)
    refine E_cond rfl (fun hc11 => ?_) (fun hc11 => ?_)
    ·replace h := of_ct h hc11
     apply E_seq
     apply E_ops
     refine WQ (does_add_ptr rfl rfl) ?_
     refine WQ (does_load1_ptr rfl rfl rfl) ?_
     obtain ⟨x12, x12h, h⟩ := of_bind h
     refine W1 (does_call1 hP (p_thing_in F a0.xBadge (0 : Int) (65535 : Int) x12 x12h) rfl rfl rfl) ?_
     apply WM
     apply W_lazy
     ·rfl
     ·intro hB; (try simp only [hB, bss, ctt]); exact does_add_ptr rfl rfl
     apply W_lazy
     ·rfl
     ·intro hB; (try simp only [hB, bss, ctt]); exact does_load1_ptr rfl rfl rfl
     obtain ⟨x13, x13h, h⟩ := of_bind h
     apply W_lazyD
     ·rfl
     ·intro hB; (try simp only [hB, bss, ctt]); exact does_call1 hP (p_thing_in F a0.xFrom (0 : Int) (96 : Int) x13 (of_lz x13h (bt hB))) rfl rfl rfl
     refine WQ (does_and rfl rfl rfl) ?_
     apply WM
     apply W_nil
     refine E_keep [2] [] ?_
     (try dsimp)
     apply E_ret
     cases h
     (try simp only [qt, qb, qn])
     refine fin_mk (xs := _) ⟨_, rfl, rfl⟩ ?_
     rfl
    ·replace h := of_cf h hc11
     apply E_skip
     refine E_keep [] [] ?_
     (try dsimp)
     apply E_seq
     apply E_ops
     apply WM
     apply W_nil
     (try dsimp)
     apply E_ret
     cases h
     (try simp only [qt, qb, qn])
     refine fin_mk (xs := _) ⟨_, rfl, rfl⟩ ?_
     rfl
/- reeve/thing.New -/
def c_thing_New : VCode := (.seq (.ops [(o (.newv [zi, zi, zi, zi, zi, zi, zi, zb, zu, zu, zu, zu, zu]) 6), (o (.mv (cb false)) 7)]) (.seq (.ops [(w 9 0), (o (.build [zi, zi, zi, zi, zi, zi, zi, zb, zu, zu, zu, zu, zu] [(0, (1, (t 9)))]) 10), (o (.newv [zi, zi, zi, zi, zi, zi, zi, zb, zu, zu, zu, zu, zu]) 8), (n_ (.store 13 (t 8) (t 10)))]) (.seq (.seq (.ops [(w 11 0)]) (.block 0 (.seq (.ops [(o (.bin .eql 3 (t 11) (ci 1)) 14), (w 13 14)]) (.cond (t 13) (.ops [(w 15 1), (o (.add 3 (t 8)) 16), (n_ (.store 1 (t 16) (t 15)))]) (.seq (.ops [(o (.bin .eql 3 (t 11) (ci 2)) 18), (w 17 18)]) (.cond (t 17) (.ops [(w 19 1), (w 20 2), (o (.add 1 (t 8)) 21), (n_ (.store 1 (t 21) (t 19))), (o (.add 2 (t 8)) 22), (n_ (.store 1 (t 22) (t 20)))]) (.seq (.seq (.ops [(o (.bin .eql 3 (t 11) (ci 3)) 24), (w 23 24)]) (.cond (t 23) .skip (.seq (.ops [(o (.bin .eql 3 (t 11) (ci 4)) 25), (w 23 25)]) (.cond (t 23) .skip (.ops [(o (.bin .eql 3 (t 11) (ci 5)) 26), (w 23 26)]))))) (.cond (t 23) .skip (.seq (.ops [(o (.build [zi, zi, zi, zi, zi, zi, zi, zb, zu, zu, zu, zu, zu] []) 12), (n_ (.store 13 (t 6) (t 12))), (o (.mv (cb false)) 7)]) .ret))))))))) (.seq (.seq (.ops [(o (.load true 13 (t 8)) 27), (o (.call 75 [(t 27)]) 28), (o (.un .not (t 28)) 29)]) (.cond (t 29) (.seq (.ops [(o (.build [zi, zi, zi, zi, zi, zi, zi, zb, zu, zu, zu, zu, zu] []) 30), (n_ (.store 13 (t 6) (t 30))), (o (.mv (cb false)) 7)]) .ret) .skip)) (.seq (.ops [(o (.load true 13 (t 8)) 31), (n_ (.store 13 (t 6) (t 31))), (o (.mv (cb true)) 7)]) .ret)))))
theorem f_thing_New : Fits Tryz.prog 37 3 c_thing_New [(.cell true 13 6), (.tmp 7)] := fits_mk Tryz.func37 (by kernel_rfl) (by kernel_rfl) (by kernel_rfl)
theorem p_thing_New (F : Nat) (a0 : Int) (a1 : Int) (a2 : Int) (r : S_thing_Thing × Bool) (h : m_thing_New F a0 a1 a2 = some r) : PC Tryz.prog 37 [S.one (.v (.int .i64 a0)), S.one (.v (.int .i64 a1)), S.one (.v (.int .i64 a2))] (S.tup [S.agg [.v (.int .i64 r.1.xType), .v (.int .i64 r.1.xBits), .v (.int .i64 r.1.xBase), .v (.int .i64 r.1.xSize), .v (.int .i64 r.1.xUsed), .v (.int .i64 r.1.xFrom), .v (.int .i64 r.1.xBadge), .v (.bool r.1.xFull), .v (.int .u64 r.1.xWord), .v (.int .u64 r.1.xData.c0), .v (.int .u64 r.1.xData.c1), .v (.int .u64 r.1.xData.c2), .v (.int .u64 r.1.xData.c3)], S.one (.v (.bool r.2))]) := by
 unfold m_thing_New at h
 refine PC_go f_thing_New rfl rfl ?_
 intro C hP
 unfold c_thing_New; dsimp
 apply E_seq
 apply E_ops
 refine W1 (does_newv rfl rfl) ?_
 apply WM
 apply W_nil
 refine E_keep [0, 1, 2, 6] [6] ?_
 (try dsimp)
 apply E_seq
 apply E_ops
 apply WM
 refine WQ (does_build rfl rfl) ?_
 refine W1 (does_newv rfl rfl) ?_
 refine W1 (does_store rfl rfl rfl rfl rfl (Nat.le_of_ble_eq_true rfl) rfl (by decide)) ?_
 apply W_nil
 refine E_keep [0, 1, 2, 6, 8] [6, 8] ?_
 (try dsimp)
 obtain ⟨k4, k4d, h⟩ := of_jn h
 refine E_seqJ (α := Int × Int × Int) (fun (i : Int × Int × Int) => (⟨[(6, S.one (.ptr 6 0)), (8, S.one (.ptr 8 0))], [(6, (⟨true, [.v (.int .i64 (0 : Int)), .v (.int .i64 (0 : Int)), .v (.int .i64 (0 : Int)), .v (.int .i64 (0 : Int)), .v (.int .i64 (0 : Int)), .v (.int .i64 (0 : Int)), .v (.int .i64 (0 : Int)), .v (.bool false), .v (.int .u64 (0 : Int)), .v (.int .u64 (0 : Int)), .v (.int .u64 (0 : Int)), .v (.int .u64 (0 : Int)), .v (.int .u64 (0 : Int))]⟩ : Reg)), (8, (⟨true, [.v (.int .i64 a0), .v (.int .i64 i.1), .v (.int .i64 i.2.1), .v (.int .i64 i.2.2), .v (.int .i64 (0 : Int)), .v (.int .i64 (0 : Int)), .v (.int .i64 (0 : Int)), .v (.bool false), .v (.int .u64 (0 : Int)), .v (.int .u64 (0 : Int)), .v (.int .u64 (0 : Int)), .v (.int .u64 (0 : Int)), .v (.int .u64 (0 : Int))]⟩ : Reg))]⟩ : St)) (fun i => k4 i.1 i.2.1 i.2.2 = some r) (fun i h => ?_) ?_
 ·obtain ⟨v1, v2, v3⟩ := i
  rw [k4d] at h; dsimp only at h
  (try dsimp)
  apply E_seq
  apply E_seq
  apply E_ops
  refine WQ (does_loadA_ptr rfl rfl rfl rfl (by decide)) ?_
  obtain ⟨x5, x5h, h⟩ := of_bind h
  refine W1 (does_call1 hP (p_thing_Good F (⟨a0, v1, v2, v3, (0 : Int), (0 : Int), (0 : Int), false, (0 : Int), (⟨(0 : Int), (0 : Int), (0 : Int), (0 : Int)⟩ : V4 Int)⟩ : S_thing_Thing) x5 x5h) rfl rfl rfl) ?_
  refine WQ (does_not rfl) ?_
  apply W_nil
  refine E_keep [6, 8, 29] [6, 8] ?_
  (try dsimp)
  refine E_cond rfl (fun hc6 => ?_) (fun hc6 => ?_)
  ·replace h := of_ct h hc6
   apply E_seq
   apply E_ops
   refine WQ (does_build rfl rfl) ?_
   refine W1 (does_store rfl rfl rfl rfl rfl (Nat.le_of_ble_eq_true rfl) rfl (by decide)) ?_
   apply WM
   apply W_nil
   refine E_keep [6, 7] [6] ?_
   (try dsimp)
   apply E_ret
   cases h
   (try simp only [qt, qb, qn])
   refine fin_mk (xs := _) ⟨_, _, at_whole rfl (by simp), rfl, rfl, ⟨_, rfl, rfl⟩⟩ ?_
   rfl
  ·replace h := of_cf h hc6
   apply E_skip
   refine E_keep [6, 8] [6, 8] ?_
   (try dsimp)
   apply E_seq
   apply E_ops
   refine WQ (does_loadA_ptr rfl rfl rfl rfl (by decide)) ?_
   refine W1 (does_store rfl rfl rfl rfl rfl (Nat.le_of_ble_eq_true rfl) rfl (by decide)) ?_
   apply WM
   apply W_nil
   refine E_keep [6, 7] [6] ?_
   (try dsimp)
   apply E_ret
   cases h
   (try simp only [qt, qb, qn])
   refine fin_mk (xs := _) ⟨_, _, at_whole rfl (by simp), rfl, rfl, ⟨_, rfl, rfl⟩⟩ ?_
   rfl
 ·
  skip
  apply E_seq
  apply E_ops
  apply WM
  apply W_nil
  refine E_keep [1, 2, 6, 8, 11] [6, 8] ?_
  (try dsimp)
  apply E_block
  apply E_seq
  apply E_ops
  refine WQ (does_int rfl rfl rfl) ?_
  apply WM
  apply W_nil
  refine E_keep [1, 2, 6, 8, 11, 13] [6, 8] ?_
  (try dsimp)
  refine E_cond rfl (fun hc7 => ?_) (fun hc7 => ?_)
  ·replace h := of_ct h hc7
   apply E_ops
   apply WM
   refine WQ (does_add_ptr rfl rfl) ?_
   refine W1 (does_store rfl rfl rfl rfl rfl (Nat.le_of_ble_eq_true rfl) rfl (by decide)) ?_
   apply W_nil
   refine ⟨((0 : Int), (0 : Int), a1), h, ?_⟩
   exact (Le.b (le_mk ⟨rfl, rfl, trivial⟩ ⟨rfl, rfl, trivial⟩))
  ·replace h := of_cf h hc7
   apply E_seq
   apply E_ops
   refine WQ (does_int rfl rfl rfl) ?_
   apply WM
   apply W_nil
   refine E_keep [1, 2, 6, 8, 11, 17] [6, 8] ?_
   (try dsimp)
   refine E_cond rfl (fun hc8 => ?_) (fun hc8 => ?_)
   ·replace h := of_ct h hc8
    apply E_ops
    apply WM
    apply WM
    refine WQ (does_add_ptr rfl rfl) ?_
    refine W1 (does_store rfl rfl rfl rfl rfl (Nat.le_of_ble_eq_true rfl) rfl (by decide)) ?_
    refine WQ (does_add_ptr rfl rfl) ?_
    refine W1 (does_store rfl rfl rfl rfl rfl (Nat.le_of_ble_eq_true rfl) rfl (by decide)) ?_
    apply W_nil
    refine ⟨(a1, a2, (0 : Int)), h, ?_⟩
    exact (Le.b (le_mk ⟨rfl, rfl, trivial⟩ ⟨rfl, rfl, trivial⟩))
   ·replace h := of_cf h hc8
    obtain ⟨k10, k10d, h⟩ := of_jn h
    refine E_seqJ (α := Bool) (fun (i : Bool) => (⟨[(6, S.one (.ptr 6 0)), (8, S.one (.ptr 8 0)), (23, S.one (.v (.bool i)))], [(6, (⟨true, [.v (.int .i64 (0 : Int)), .v (.int .i64 (0 : Int)), .v (.int .i64 (0 : Int)), .v (.int .i64 (0 : Int)), .v (.int .i64 (0 : Int)), .v (.int .i64 (0 : Int)), .v (.int .i64 (0 : Int)), .v (.bool false), .v (.int .u64 (0 : Int)), .v (.int .u64 (0 : Int)), .v (.int .u64 (0 : Int)), .v (.int .u64 (0 : Int)), .v (.int .u64 (0 : Int))]⟩ : Reg)), (8, (⟨true, [.v (.int .i64 a0), .v (.int .i64 (0 : Int)), .v (.int .i64 (0 : Int)), .v (.int .i64 (0 : Int)), .v (.int .i64 (0 : Int)), .v (.int .i64 (0 : Int)), .v (.int .i64 (0 : Int)), .v (.bool false), .v (.int .u64 (0 : Int)), .v (.int .u64 (0 : Int)), .v (.int .u64 (0 : Int)), .v (.int .u64 (0 : Int)), .v (.int .u64 (0 : Int))]⟩ : Reg))]⟩ : St)) (fun i => k10 i = some r) (fun i h => ?_) ?_
    ·let iv := i; change k10 i = some r at h; generalize i = v9 at h ⊢
     rw [k10d] at h; dsimp only at h
     (try dsimp)
     refine E_cond rfl (fun hc11 => ?_) (fun hc11 => ?_)
     ·replace h := of_ct h hc11
      apply E_skip
      refine ⟨((0 : Int), (0 : Int), (0 : Int)), h, ?_⟩
      exact (Le.b (le_mk ⟨rfl, rfl, trivial⟩ ⟨rfl, rfl, trivial⟩))
     ·replace h := of_cf h hc11
      apply E_seq
      apply E_ops
      refine WQ (does_build rfl rfl) ?_
      refine W1 (does_store rfl rfl rfl rfl rfl (Nat.le_of_ble_eq_true rfl) rfl (by decide)) ?_
      apply WM
      apply W_nil
      refine E_keep [6, 7] [6] ?_
      (try dsimp)
      apply E_ret
      cases h
      (try simp only [qt, qb, qn])
      refine fin_mk (xs := _) ⟨_, _, at_whole rfl (by simp), rfl, rfl, ⟨_, rfl, rfl⟩⟩ ?_
      rfl
    ·
     skip
     apply E_seq
     apply E_ops
     refine WQ (does_int rfl rfl rfl) ?_
     apply WM
     apply W_nil
     refine E_keep [6, 8, 11, 23] [6, 8] ?_
     (try dsimp)
     refine E_cond rfl (fun hc12 => ?_) (fun hc12 => ?_)
     ·replace h := of_ct h hc12
      apply E_skip
      refine ⟨(a0 == (3 : Int)), h, ?_⟩
      exact (Le.b (le_mk ⟨rfl, rfl, rfl, trivial⟩ ⟨rfl, rfl, trivial⟩))
     ·replace h := of_cf h hc12
      apply E_seq
      apply E_ops
      refine WQ (does_int rfl rfl rfl) ?_
      apply WM
      apply W_nil
      refine E_keep [6, 8, 11, 23] [6, 8] ?_
      (try dsimp)
      refine E_cond rfl (fun hc13 => ?_) (fun hc13 => ?_)
      ·replace h := of_ct h hc13
       apply E_skip
       refine ⟨(a0 == (4 : Int)), h, ?_⟩
       exact (Le.b (le_mk ⟨rfl, rfl, rfl, trivial⟩ ⟨rfl, rfl, trivial⟩))
      ·replace h := of_cf h hc13
       apply E_ops
       refine WQ (does_int rfl rfl rfl) ?_
       apply WM
       apply W_nil
       refine ⟨(a0 == (5 : Int)), h, ?_⟩
       exact (Le.b (le_mk ⟨rfl, rfl, rfl, trivial⟩ ⟨rfl, rfl, trivial⟩))
/- reeve/geo.in -/
def c_geo_in : VCode := (.seq (.ops [(o (.mv (cb false)) 6)]) (.seq (.ops [(w 7 0), (w 8 1), (o (.bin .geq 3 (t 7) (t 8)) 9), (w 10 9), (g_ (.mv (t 0)) 11 10 true), (g_ (.mv (t 2)) 12 10 true), (g_ (.bin .leq 3 (t 11) (t 12)) 13 10 true), (o (.pick (t 10) (t 13) (cb false)) 14), (w 6 14)]) .ret))
theorem f_geo_in : Fits Tryz.prog 63 3 c_geo_in [(.tmp 6)] := fits_mk Tryz.func63 (by kernel_rfl) (by kernel_rfl) (by kernel_rfl)
theorem p_geo_in (F : Nat) (a0 : Int) (a1 : Int) (a2 : Int) (r : Bool) (h : m_geo_in F a0 a1 a2 = some r) : PC Tryz.prog 63 [S.one (.v (.int .i64 a0)), S.one (.v (.int .i64 a1)), S.one (.v (.int .i64 a2))] (S.one (.v (.bool r))) := by
 unfold m_geo_in at h
 refine PC_go f_geo_in rfl rfl ?_
 intro C hP
 unfold c_geo_in; dsimp
 apply E_seq
 apply E_ops
 apply WM
 apply W_nil
 refine E_keep [0, 1, 2] [] ?_
 (try dsimp)
 apply E_seq
 apply E_ops
 apply WM
 apply WM
 refine WQ (does_int rfl rfl rfl) ?_
 apply WM
 apply W_lazy
 ·rfl
 ·intro hB; (try simp only [hB, bss, ctt]); exact does_mv rfl
 apply W_lazy
 ·rfl
 ·intro hB; (try simp only [hB, bss, ctt]); exact does_mv rfl
 apply W_lazy
 ·rfl
 ·intro hB; (try simp only [hB, bss, ctt]); exact does_int rfl rfl rfl
 refine WQ (does_and rfl rfl rfl) ?_
 apply WM
 apply W_nil
 refine E_keep [6] [] ?_
 (try dsimp)
 apply E_ret
 cases h
 (try simp only [qt, qb, qn])
 refine fin_mk (xs := _) ⟨_, rfl, rfl⟩ ?_
 rfl
/- reeve/geo.Good -/
def c_geo_Good : VCode := (.seq (.ops [(o (.box 23 (t 0)) 1), (o (.mv (cb false)) 2)]) (.seq (.ops [(o (.add 0 (t 1)) 3), (o (.load false 1 (t 3)) 4), (o (.call 63 [(t 4), (ci 1), (ci 4)]) 5), (w 6 5), (g_ (.add 1 (t 1)) 7 6 true), (g_ (.load false 1 (t 7)) 8 6 true), (g_ (.add 0 (t 1)) 9 6 true), (g_ (.load false 1 (t 9)) 10 6 true), (g_ (.bin .mul 3 (ci 8) (t 10)) 11 6 true), (g_ (.call 63 [(t 8), (t 11), (ci 96)]) 12 6 true), (o (.pick (t 6) (t 12) (cb false)) 13), (w 14 13), (g_ (.add 1 (t 1)) 15 14 true), (g_ (.load false 1 (t 15)) 16 14 true), (g_ (.bin .rem 3 (t 16) (ci 8)) 17 14 true), (g_ (.bin .eql 3 (t 17) (ci 0)) 18 14 true), (o (.pick (t 14) (t 18) (cb false)) 19), (w 20 19), (g_ (.add 2 (t 1)) 21 20 true), (g_ (.load false 1 (t 21)) 22 20 true), (g_ (.add 0 (t 1)) 23 20 true), (g_ (.load false 1 (t 23)) 24 20 true), (g_ (.bin .add 3 (t 24) (ci 2)) 25 20 true), (g_ (.call 63 [(t 22), (t 25), (ci 48)]) 26 20 true), (o (.pick (t 20) (t 26) (cb false)) 27), (w 2 27)]) .ret))
theorem f_geo_Good : Fits Tryz.prog 38 1 c_geo_Good [(.tmp 2)] := fits_mk Tryz.func38 (by kernel_rfl) (by kernel_rfl) (by kernel_rfl)
theorem p_geo_Good (F : Nat) (a0 : S_geo_Geo) (r : Bool) (h : m_geo_Good F a0 = some r) : PC Tryz.prog 38 [S.agg [.v (.int .i64 a0.xThreads), .v (.int .i64 a0.xSlots), .v (.int .i64 a0.xThings)]] (S.one (.v (.bool r))) := by
 unfold m_geo_Good at h
 refine PC_go f_geo_Good rfl rfl ?_
 intro C hP
 unfold c_geo_Good; dsimp
 apply E_seq
 apply E_ops
 refine W1 (does_box rfl rfl rfl rfl) ?_
 apply WM
 apply W_nil
 refine E_keep [1] [1] ?_
 (try dsimp)
 apply E_seq
 apply E_ops
 refine WQ (does_add_ptr rfl rfl) ?_
 refine WQ (does_load1_ptr rfl rfl rfl) ?_
 obtain ⟨x1, x1h, h⟩ := of_bind h
 refine W1 (does_call1 hP (p_geo_in F a0.xThreads (1 : Int) (4 : Int) x1 x1h) rfl rfl rfl) ?_
 apply WM
 apply W_lazy
 ·rfl
 ·intro hB; (try simp only [hB, bss, ctt]); exact does_add_ptr rfl rfl
 apply W_lazy
 ·rfl
 ·intro hB; (try simp only [hB, bss, ctt]); exact does_load1_ptr rfl rfl rfl
 apply W_lazy
 ·rfl
 ·intro hB; (try simp only [hB, bss, ctt]); exact does_add_ptr rfl rfl
 apply W_lazy
 ·rfl
 ·intro hB; (try simp only [hB, bss, ctt]); exact does_load1_ptr rfl rfl rfl
 obtain ⟨g2, h⟩ := of_gd h
 apply W_lazy
 ·rfl
 ·intro hB; (try simp only [hB, bss, ctt]); exact does_mul rfl rfl (g2 hB).1 (g2 hB).2
 obtain ⟨x3, x3h, h⟩ := of_bind h
 apply W_lazyD
 ·rfl
 ·intro hB; (try simp only [hB, bss, ctt]); exact does_call1 hP (p_geo_in F a0.xSlots ((8 : Int) * a0.xThreads) (96 : Int) x3 (of_lz x3h (bt hB))) rfl rfl rfl
 refine WQ (does_and rfl rfl rfl) ?_
 apply WM
 apply W_lazy
 ·rfl
 ·intro hB; (try simp only [hB, bss, ctt]); exact does_add_ptr rfl rfl
 apply W_lazy
 ·rfl
 ·intro hB; (try simp only [hB, bss, ctt]); exact does_load1_ptr rfl rfl rfl
 apply W_lazy
 ·rfl
 ·intro hB; (try simp only [hB, bss, ctt]); exact does_int rfl rfl rfl
 apply W_lazy
 ·rfl
 ·intro hB; (try simp only [hB, bss, ctt]); exact does_int rfl rfl rfl
 refine WQ (does_and rfl rfl rfl) ?_
 apply WM
 apply W_lazy
 ·rfl
 ·intro hB; (try simp only [hB, bss, ctt]); exact does_add_ptr rfl rfl
 apply W_lazy
 ·rfl
 ·intro hB; (try simp only [hB, bss, ctt]); exact does_load1_ptr rfl rfl rfl
 apply W_lazy
 ·rfl
 ·intro hB; (try simp only [hB, bss, ctt]); exact does_add_ptr rfl rfl
 apply W_lazy
 ·rfl
 ·intro hB; (try simp only [hB, bss, ctt]); exact does_load1_ptr rfl rfl rfl
 obtain ⟨g4, h⟩ := of_gd h
 apply W_lazy
 ·rfl
 ·intro hB; (try simp only [hB, bss, ctt]); exact does_add rfl rfl (g4 hB).1 (g4 hB).2
 obtain ⟨x5, x5h, h⟩ := of_bind h
 apply W_lazyD
 ·rfl
 ·intro hB; (try simp only [hB, bss, ctt]); exact does_call1 hP (p_geo_in F a0.xThings (a0.xThreads + (2 : Int)) (48 : Int) x5 (of_lz x5h (bt hB))) rfl rfl rfl
 refine WQ (does_and rfl rfl rfl) ?_
 apply WM
 apply W_nil
 refine E_keep [2] [] ?_
 (try dsimp)
 apply E_ret
 cases h
 (try simp only [qt, qb, qn])
 refine fin_mk (xs := _) ⟨_, rfl, rfl⟩ ?_
 rfl
/- reeve/geo.Root -/
def c_geo_Root : VCode := (.seq (.ops [(o (.box 23 (t 0)) 2), (o (.mv (ci 0)) 4)]) (.seq (.seq (.ops [(o (.load true 3 (t 2)) 5), (o (.call 38 [(t 5)]) 6), (o (.un .not (t 6)) 7), (w 8 7), (g_ (.mv (t 1)) 9 8 false), (g_ (.add 0 (t 2)) 10 8 false), (g_ (.load false 1 (t 10)) 11 8 false), (g_ (.bin .sub 3 (t 11) (ci 1)) 12 8 false), (g_ (.call 63 [(t 9), (ci 0), (t 12)]) 13 8 false), (g_ (.un .not (t 13)) 14 8 false), (o (.pick (t 8) (cb true) (t 14)) 15)]) (.cond (t 15) (.seq (.ops [(o (.mv (ci 0)) 4)]) .ret) .skip)) (.seq (.ops [(w 16 1), (o (.bin .mul 3 (ci 8) (t 16)) 17), (w 4 17)]) .ret)))
theorem f_geo_Root : Fits Tryz.prog 39 2 c_geo_Root [(.tmp 4)] := fits_mk Tryz.func39 (by kernel_rfl) (by kernel_rfl) (by kernel_rfl)
theorem p_geo_Root (F : Nat) (a0 : S_geo_Geo) (a1 : Int) (r : Int) (h : m_geo_Root F a0 a1 = some r) : PC Tryz.prog 39 [S.agg [.v (.int .i64 a0.xThreads), .v (.int .i64 a0.xSlots), .v (.int .i64 a0.xThings)], S.one (.v (.int .i64 a1))] (S.one (.v (.int .i64 r))) := by
 unfold m_geo_Root at h
 refine PC_go f_geo_Root rfl rfl ?_
 intro C hP
 unfold c_geo_Root; dsimp
 apply E_seq
 apply E_ops
 refine W1 (does_box rfl rfl rfl rfl) ?_
 apply WM
 apply W_nil
 refine E_keep [1, 2] [2] ?_
 (try dsimp)
 apply E_seq
 apply E_seq
 apply E_ops
 refine WQ (does_loadA_ptr rfl rfl rfl rfl (by decide)) ?_
 obtain ⟨x1, x1h, h⟩ := of_bind h
 refine W1 (does_call1 hP (p_geo_Good F a0 x1 x1h) rfl rfl rfl) ?_
 refine WQ (does_not rfl) ?_
 apply WM
 apply W_lazy
 ·rfl
 ·intro hB; (try simp only [hB, bss, ctt]); exact does_mv rfl
 apply W_lazy
 ·rfl
 ·intro hB; (try simp only [hB, bss, ctt]); exact does_add_ptr rfl rfl
 apply W_lazy
 ·rfl
 ·intro hB; (try simp only [hB, bss, ctt]); exact does_load1_ptr rfl rfl rfl
 obtain ⟨g2, h⟩ := of_gd h
 apply W_lazy
 ·rfl
 ·intro hB; (try simp only [hB, bss, ctt]); exact does_sub rfl rfl (g2 hB).1 (g2 hB).2
 obtain ⟨x3, x3h, h⟩ := of_bind h
 apply W_lazyD
 ·rfl
 ·intro hB; (try simp only [hB, bss, ctt]); exact does_call1 hP (p_geo_in F a1 (0 : Int) (a0.xThreads - (1 : Int)) x3 (of_lz x3h (bt hB))) rfl rfl rfl
 apply W_lazy
 ·rfl
 ·intro hB; (try simp only [hB, bss, ctt]); exact does_not rfl
 refine WQ (does_or rfl rfl rfl) ?_
 apply W_nil
 refine E_keep [1, 15] [] ?_
 (try dsimp)
 refine E_cond rfl (fun hc4 => ?_) (fun hc4 => ?_)
 ·replace h := of_ct h hc4
  apply E_seq
  apply E_ops
  apply WM
  apply W_nil
  refine E_keep [4] [] ?_
  (try dsimp)
  apply E_ret
  cases h
  (try simp only [qt, qb, qn])
  refine fin_mk (xs := _) ⟨_, rfl, rfl⟩ ?_
  rfl
 ·replace h := of_cf h hc4
  apply E_skip
  refine E_keep [1] [] ?_
  (try dsimp)
  apply E_seq
  apply E_ops
  apply WM
  obtain ⟨g5, h⟩ := of_gd h
  refine WQ (does_mul rfl rfl g5.1 g5.2) ?_
  apply WM
  apply W_nil
  refine E_keep [4] [] ?_
  (try dsimp)
  apply E_ret
  cases h
  (try simp only [qt, qb, qn])
  refine fin_mk (xs := _) ⟨_, rfl, rfl⟩ ?_
  rfl
/- reeve/state.New -/
def c_state_New : VCode := (.seq (.ops [(o (.box 23 (t 0)) 2), (o (.newv [zi, zi, zi, .nil, .nil]) 4), (o (.mv (ci 0)) 5)]) (.seq (.ops [(w 14 1), (o (.call 37 [(ci 1), (t 14), (ci 0)]) 15), (w 13 15), (o (.ext 0 (t 13)) 16), (o (.ext 1 (t 13)) 17), (o (.newv [zi, zi, zi, zi, zi, zi, zi, zb, zu, zu, zu, zu, zu]) 6), (n_ (.store 13 (t 6) (t 16))), (w 7 17)]) (.seq (.seq (.ops [(o (.load true 3 (t 2)) 18), (o (.call 38 [(t 18)]) 19), (o (.un .not (t 19)) 20), (w 21 20), (g_ (.mv (t 7)) 22 21 false), (g_ (.un .not (t 22)) 23 21 false), (o (.pick (t 21) (cb true) (t 23)) 24)]) (.cond (t 24) (.seq (.ops [(o (.build [zi, zi, zi, .nil, .nil] []) 25), (n_ (.store 5 (t 4) (t 25))), (o (.mv (ci 1)) 5)]) .ret) .skip)) (.seq (.draw [((o (.load true 3 (t 2)) 26), []), ((o (.add 1 (t 2)) 27), []), ((o (.load false 1 (t 27)) 28), [1]), ((o (.mk 24 111 5 40 [zi, zi, zi, zi, zi] (t 28) (t 28)) 29), [2, 2]), ((o (.add 2 (t 2)) 30), []), ((o (.load false 1 (t 30)) 31), [4]), ((o (.mk 25 104 13 104 [zi, zi, zi, zi, zi, zi, zi, zb, zu, zu, zu, zu, zu] (t 31) (t 31)) 32), [5, 5]), ((o (.build [zi, zi, zi, .nil, .nil] [(0, (3, (t 26))), (3, (1, (t 29))), (4, (1, (t 32)))]) 33), [0, 3, 6]), ((o (.newv [zi, zi, zi, .nil, .nil]) 8), []), ((n_ (.store 5 (t 8) (t 33))), [8, 7, 0, 1, 2, 3, 4, 5, 6, 7, 8])]) (.seq (.seq (.ops [(o (.add 3 (t 8)) 34), (o (.load false 1 (t 34)) 35), (o (.len false (t 35)) 36), (o (.mv (ci 0)) 37)]) (.block 0 (.loop (.seq (.ops [(o (.bin .lss 3 (t 37) (t 36)) 38)]) (.seq (.cond (t 38) .skip (.exit 0)) (.seq (.block 1 (.seq (.ops [(w 39 37), (w 9 39)]) (.ops [(o (.add 3 (t 8)) 40), (o (.load false 1 (t 40)) 41), (w 42 9), (o (.idxS 5 (t 41) (t 42)) 43), (o (.add 4 (t 43)) 44), (n_ (.store 1 (t 44) (.const (.int .i64 (-1)))))]))) (.ops [(o (.bin .add 3 (t 37) (ci 1)) 45), (w 37 45)]))))))) (.seq (.ops [(o (.add 4 (t 8)) 46), (o (.load false 1 (t 46)) 47), (o (.load true 13 (t 6)) 48), (o (.idxS 13 (t 47) (ci 0)) 49), (n_ (.store 13 (t 49) (t 48)))]) (.seq (.draw [((o (.add 4 (t 8)) 51), []), ((o (.load false 1 (t 51)) 52), [0]), ((o (.call 37 [(ci 3), (ci 0), (ci 0)]) 53), []), ((w 50 53), [2]), ((o (.ext 0 (t 50)) 54), [3]), ((o (.ext 1 (t 50)) 55), [3]), ((o (.idxS 13 (t 52) (ci 1)) 56), [1, 0, 1, 2, 3, 4]), ((n_ (.store 13 (t 56) (t 54))), [6, 4, 2, 0, 1, 2, 3, 4])]) (.seq (.ops [(o (.load true 3 (t 2)) 57), (o (.call 39 [(t 57), (ci 0)]) 58), (w 10 58)]) (.seq (.ops [(o (.add 3 (t 8)) 59), (o (.load false 1 (t 59)) 60), (w 61 10), (o (.build [zi, zi, zi, zi] [(0, (1, (ci 1))), (1, (1, (ci 0))), (2, (1, (ci 7)))]) 62), (o (.idxS 5 (t 60) (t 61)) 63), (o (.add 0 (t 63)) 64), (n_ (.store 4 (t 64) (t 62)))]) (.seq (.seq (.ops [(o (.add 0 (t 2)) 65), (o (.load false 1 (t 65)) 66), (o (.mv (ci 0)) 67)]) (.block 2 (.loop (.seq (.ops [(o (.bin .lss 3 (t 67) (t 66)) 68)]) (.seq (.cond (t 68) .skip (.exit 2)) (.seq (.block 3 (.seq (.ops [(w 69 67), (w 11 69)]) (.seq (.ops [(o (.load true 3 (t 2)) 70), (w 71 11), (o (.call 39 [(t 70), (t 71)]) 72), (w 12 72)]) (.seq (.draw [((o (.add 4 (t 8)) 74), []), ((o (.load false 1 (t 74)) 75), [0]), ((w 76 11), []), ((o (.bin .add 3 (ci 2) (t 76)) 77), [2]), ((w 78 12), []), ((o (.call 37 [(ci 2), (ci 3), (t 78)]) 79), [4]), ((w 73 79), [5]), ((o (.ext 0 (t 73)) 80), [6]), ((o (.ext 1 (t 73)) 81), [6]), ((o (.idxS 13 (t 75) (t 77)) 82), [1, 3, 0, 1, 2, 3, 4, 5, 6, 7]), ((n_ (.store 13 (t 82) (t 80))), [9, 7, 5, 0, 1, 2, 3, 4, 5, 6, 7])]) (.ops [(o (.add 3 (t 8)) 83), (o (.load false 1 (t 83)) 84), (w 85 12), (o (.bin .add 3 (t 85) (ci 1)) 86), (o (.build [zi, zi, zi, zi] [(0, (1, (ci 3))), (1, (1, (ci 1))), (2, (1, (ci 7)))]) 87), (w 88 10), (o (.bin .add 3 (t 88) (ci 1)) 89), (o (.build [zi, zi, zi, zi, zi] [(0, (4, (t 87))), (4, (1, (t 89)))]) 90), (o (.idxS 5 (t 84) (t 86)) 91), (n_ (.store 5 (t 91) (t 90)))]))))) (.ops [(o (.bin .add 3 (t 67) (ci 1)) 92), (w 67 92)]))))))) (.seq (.ops [(o (.add 3 (t 8)) 93), (o (.load false 1 (t 93)) 94), (w 95 10), (o (.bin .add 3 (t 95) (ci 1)) 96), (o (.idxS 5 (t 94) (t 96)) 97), (o (.add 4 (t 97)) 98), (n_ (.store 1 (t 98) (.const (.int .i64 (-1)))))]) (.seq (.ops [(o (.load true 5 (t 8)) 99), (n_ (.store 5 (t 4) (t 99))), (o (.mv (ci 0)) 5)]) .ret))))))))))))
theorem f_state_New : Fits Tryz.prog 13 2 c_state_New [(.cell true 5 4), (.tmp 5)] := fits_mk Tryz.func13 (by kernel_rfl) (by kernel_rfl) (by kernel_rfl)
theorem p_state_New (F : Nat) (a0 : S_geo_Geo) (a1 : Int) (r : S_state_State × Int) (h : m_state_New F a0 a1 = some r) : PC Tryz.prog 13 [S.agg [.v (.int .i64 a0.xThreads), .v (.int .i64 a0.xSlots), .v (.int .i64 a0.xThings)], S.one (.v (.int .i64 a1))] (S.tup [S.agg [.v (.int .i64 r.1.xGeo.xThreads), .v (.int .i64 r.1.xGeo.xSlots), .v (.int .i64 r.1.xGeo.xThings), .sl (flat e_S_state_Slot r.1.xSlots) r.1.xSlots.length, .sl (flat e_S_thing_Thing r.1.xThings) r.1.xThings.length], S.one (.v (.int .i64 r.2))]) := by
 unfold m_state_New at h
 refine PC_go f_state_New rfl rfl ?_
 intro C hP
 unfold c_state_New; dsimp
 apply E_seq
 apply E_ops
 refine W1 (does_box rfl rfl rfl rfl) ?_
 refine W1 (does_newv rfl rfl) ?_
 apply WM
 apply W_nil
 refine E_keep [1, 2, 4] [2, 4] ?_
 (try dsimp)
 apply E_seq
 apply E_ops
 apply WM
 obtain ⟨x1, x1h, h⟩ := of_bind h
 refine W1 (does_call1 hP (p_thing_New F (1 : Int) a1 (0 : Int) x1 x1h) rfl rfl rfl) ?_
 apply WM
 refine WQ (does_ext rfl rfl) ?_
 refine WQ (does_ext rfl rfl) ?_
 refine W1 (does_newv rfl rfl) ?_
 refine W1 (does_store rfl rfl rfl rfl rfl (Nat.le_of_ble_eq_true rfl) rfl (by decide)) ?_
 apply WM
 apply W_nil
 refine E_keep [2, 4, 6, 7] [2, 4, 6] ?_
 (try dsimp)
 apply E_seq
 apply E_seq
 apply E_ops
 refine WQ (does_loadA_ptr rfl rfl rfl rfl (by decide)) ?_
 obtain ⟨x2, x2h, h⟩ := of_bind h
 refine W1 (does_call1 hP (p_geo_Good F a0 x2 x2h) rfl rfl rfl) ?_
 refine WQ (does_not rfl) ?_
 apply WM
 apply W_lazy
 ·rfl
 ·intro hB; (try simp only [hB, bss, ctt]); exact does_mv rfl
 apply W_lazy
 ·rfl
 ·intro hB; (try simp only [hB, bss, ctt]); exact does_not rfl
 refine WQ (does_or rfl rfl rfl) ?_
 apply W_nil
 refine E_keep [2, 4, 6, 24] [2, 4, 6] ?_
 (try dsimp)
 refine E_cond rfl (fun hc3 => ?_) (fun hc3 => ?_)
 ·replace h := of_ct h hc3
  apply E_seq
  apply E_ops
  refine WQ (does_build rfl rfl) ?_
  refine W1 (does_store rfl rfl rfl rfl rfl (Nat.le_of_ble_eq_true rfl) rfl (by decide)) ?_
  apply WM
  apply W_nil
  refine E_keep [4, 5] [4] ?_
  (try dsimp)
  refine E_ghost (Le_nilR (q := 4) rfl).b ?_
  (try dsimp)
  apply E_ret
  cases h
  (try simp only [qt, qb, qn])
  refine fin_mk (xs := _) ⟨_, _, at_whole rfl (by simp), rfl, rfl, ⟨_, rfl, rfl⟩⟩ ?_
  rfl
 ·replace h := of_cf h hc3
  apply E_skip
  refine E_keep [2, 4, 6] [2, 4, 6] ?_
  (try dsimp)
  obtain ⟨k4, k4d, h⟩ := of_jn h
  refine E_seqJ (α := Unit) (fun (i : Unit) => (⟨[(2, S.one (.ptr 2 0)), (4, S.one (.ptr 4 0)), (6, S.one (.ptr 6 0)), (8, S.one (.ptr 8 0))], [(2, (⟨true, [.v (.int .i64 a0.xThreads), .v (.int .i64 a0.xSlots), .v (.int .i64 a0.xThings)]⟩ : Reg)), (4, (⟨true, [.v (.int .i64 (0 : Int)), .v (.int .i64 (0 : Int)), .v (.int .i64 (0 : Int)), .nil, .nil]⟩ : Reg)), (6, (⟨true, [.v (.int .i64 x1.1.xType), .v (.int .i64 x1.1.xBits), .v (.int .i64 x1.1.xBase), .v (.int .i64 x1.1.xSize), .v (.int .i64 x1.1.xUsed), .v (.int .i64 x1.1.xFrom), .v (.int .i64 x1.1.xBadge), .v (.bool x1.1.xFull), .v (.int .u64 x1.1.xWord), .v (.int .u64 x1.1.xData.c0), .v (.int .u64 x1.1.xData.c1), .v (.int .u64 x1.1.xData.c2), .v (.int .u64 x1.1.xData.c3)]⟩ : Reg)), (8, (⟨false, [.v (.int .i64 a0.xThreads), .v (.int .i64 a0.xSlots), .v (.int .i64 a0.xThings), .own 29 0 (List.replicate a0.xSlots.toNat (⟨(⟨(0 : Int), (0 : Int), (0 : Int), (0 : Int)⟩ : S_cap_Cap), (0 : Int)⟩ : S_state_Slot)).length (some (5, 111)), .own 32 0 (List.replicate a0.xThings.toNat (⟨(0 : Int), (0 : Int), (0 : Int), (0 : Int), (0 : Int), (0 : Int), (0 : Int), false, (0 : Int), (⟨(0 : Int), (0 : Int), (0 : Int), (0 : Int)⟩ : V4 Int)⟩ : S_thing_Thing)).length (some (13, 104))]⟩ : Reg)), (29, (⟨true, flat e_S_state_Slot (List.replicate a0.xSlots.toNat (⟨(⟨(0 : Int), (0 : Int), (0 : Int), (0 : Int)⟩ : S_cap_Cap), (0 : Int)⟩ : S_state_Slot))⟩ : Reg)), (32, (⟨true, flat e_S_thing_Thing (List.replicate a0.xThings.toNat (⟨(0 : Int), (0 : Int), (0 : Int), (0 : Int), (0 : Int), (0 : Int), (0 : Int), false, (0 : Int), (⟨(0 : Int), (0 : Int), (0 : Int), (0 : Int)⟩ : V4 Int)⟩ : S_thing_Thing))⟩ : Reg))]⟩ : St)) (fun i => k4 () = some r) (fun i h => ?_) ?_
  ·skip
   rw [k4d] at h; dsimp only at h
   (try dsimp)
   obtain ⟨k6, k6d, h⟩ := of_jn h
   refine E_seqJ (α := (List S_state_Slot)) (fun (i : (List S_state_Slot)) => (⟨[(2, S.one (.ptr 2 0)), (4, S.one (.ptr 4 0)), (6, S.one (.ptr 6 0)), (8, S.one (.ptr 8 0))], [(2, (⟨true, [.v (.int .i64 a0.xThreads), .v (.int .i64 a0.xSlots), .v (.int .i64 a0.xThings)]⟩ : Reg)), (4, (⟨true, [.v (.int .i64 (0 : Int)), .v (.int .i64 (0 : Int)), .v (.int .i64 (0 : Int)), .nil, .nil]⟩ : Reg)), (6, (⟨true, [.v (.int .i64 x1.1.xType), .v (.int .i64 x1.1.xBits), .v (.int .i64 x1.1.xBase), .v (.int .i64 x1.1.xSize), .v (.int .i64 x1.1.xUsed), .v (.int .i64 x1.1.xFrom), .v (.int .i64 x1.1.xBadge), .v (.bool x1.1.xFull), .v (.int .u64 x1.1.xWord), .v (.int .u64 x1.1.xData.c0), .v (.int .u64 x1.1.xData.c1), .v (.int .u64 x1.1.xData.c2), .v (.int .u64 x1.1.xData.c3)]⟩ : Reg)), (8, (⟨false, [.v (.int .i64 a0.xThreads), .v (.int .i64 a0.xSlots), .v (.int .i64 a0.xThings), .own 29 0 i.length (some (5, 111)), .own 32 0 (List.replicate a0.xThings.toNat (⟨(0 : Int), (0 : Int), (0 : Int), (0 : Int), (0 : Int), (0 : Int), (0 : Int), false, (0 : Int), (⟨(0 : Int), (0 : Int), (0 : Int), (0 : Int)⟩ : V4 Int)⟩ : S_thing_Thing)).length (some (13, 104))]⟩ : Reg)), (29, (⟨true, flat e_S_state_Slot i⟩ : Reg)), (32, (⟨true, flat e_S_thing_Thing (List.replicate a0.xThings.toNat (⟨(0 : Int), (0 : Int), (0 : Int), (0 : Int), (0 : Int), (0 : Int), (0 : Int), false, (0 : Int), (⟨(0 : Int), (0 : Int), (0 : Int), (0 : Int)⟩ : V4 Int)⟩ : S_thing_Thing))⟩ : Reg))]⟩ : St)) (fun i => k6 i = some r) (fun i h => ?_) ?_
   ·let iv := i; change k6 i = some r at h; generalize i = v5 at h ⊢
    rw [k6d] at h; dsimp only at h
    (try dsimp)
    apply E_seq
    apply E_ops
    refine WQ (does_add_ptr rfl rfl) ?_
    refine WQ (does_load1_ptr rfl rfl rfl) ?_
    refine WQ (does_loadA_ptr rfl rfl rfl rfl (by decide)) ?_
    obtain ⟨g7, h⟩ := of_gd h
    refine WQ (does_idx_own rfl rfl rfl g7.1 g7.2) ?_
    refine W1 (does_store_rgF (e := e_S_thing_Thing) (n := 13) (k := 13) rfl rfl (fun _ => rfl) g7 0 (by omega) rfl rfl rfl (by decide) x1.1 rfl (by decide) rfl) ?_
    apply W_nil
    refine E_keep [2, 4, 8] [2, 4, 8, 29, 32] ?_
    (try dsimp)
    obtain ⟨k9, k9d, h⟩ := of_jn h
    refine E_seqJ (α := (List S_thing_Thing)) (fun (i : (List S_thing_Thing)) => (⟨[(2, S.one (.ptr 2 0)), (4, S.one (.ptr 4 0)), (8, S.one (.ptr 8 0))], [(2, (⟨true, [.v (.int .i64 a0.xThreads), .v (.int .i64 a0.xSlots), .v (.int .i64 a0.xThings)]⟩ : Reg)), (4, (⟨true, [.v (.int .i64 (0 : Int)), .v (.int .i64 (0 : Int)), .v (.int .i64 (0 : Int)), .nil, .nil]⟩ : Reg)), (8, (⟨false, [.v (.int .i64 a0.xThreads), .v (.int .i64 a0.xSlots), .v (.int .i64 a0.xThings), .own 29 0 v5.length (some (5, 111)), .own 32 0 i.length (some (13, 104))]⟩ : Reg)), (29, (⟨true, flat e_S_state_Slot v5⟩ : Reg)), (32, (⟨true, flat e_S_thing_Thing i⟩ : Reg))]⟩ : St)) (fun i => k9 i = some r) (fun i h => ?_) ?_
    ·let iv := i; change k9 i = some r at h; generalize i = v8 at h ⊢
     rw [k9d] at h; dsimp only at h
     (try dsimp)
     apply E_seq
     apply E_ops
     refine WQ (does_loadA_ptr rfl rfl rfl rfl (by decide)) ?_
     obtain ⟨x10, x10h, h⟩ := of_bind h
     refine W1 (does_call1 hP (p_geo_Root F a0 (0 : Int) x10 x10h) rfl rfl rfl) ?_
     apply WM
     apply W_nil
     refine E_keep [2, 4, 8, 10] [2, 4, 8, 29, 32] ?_
     (try dsimp)
     apply E_seq
     apply E_ops
     refine WQ (does_add_ptr rfl rfl) ?_
     refine WQ (does_load1_ptr rfl rfl rfl) ?_
     apply WM
     refine WQ (does_build rfl rfl) ?_
     obtain ⟨g11, h⟩ := of_gd h
     refine WQ (does_idx_own rfl rfl rfl g11.1 g11.2) ?_
     refine WQ (does_add_ptr rfl rfl) ?_
     refine W1 (does_store_rgF (e := e_S_state_Slot) (n := 4) (k := 5) rfl rfl (fun _ => rfl) g11 0 (by omega) rfl rfl rfl (by decide) (⟨(⟨(1 : Int), (0 : Int), (7 : Int), (0 : Int)⟩ : S_cap_Cap), (nth v5 x10).xUp⟩ : S_state_Slot) rfl (by decide) rfl) ?_
     apply W_nil
     refine E_keep [2, 4, 8, 10] [2, 4, 8, 29, 32] ?_
     (try dsimp)
     obtain ⟨k14, k14d, h⟩ := of_jn h
     refine E_seqJ (α := (List S_thing_Thing) × (List S_state_Slot)) (fun (i : (List S_thing_Thing) × (List S_state_Slot)) => (⟨[(4, S.one (.ptr 4 0)), (8, S.one (.ptr 8 0)), (10, S.one (.v (.int .i64 x10)))], [(4, (⟨true, [.v (.int .i64 (0 : Int)), .v (.int .i64 (0 : Int)), .v (.int .i64 (0 : Int)), .nil, .nil]⟩ : Reg)), (8, (⟨false, [.v (.int .i64 a0.xThreads), .v (.int .i64 a0.xSlots), .v (.int .i64 a0.xThings), .own 29 0 i.2.length (some (5, 111)), .own 32 0 i.1.length (some (13, 104))]⟩ : Reg)), (29, (⟨true, flat e_S_state_Slot i.2⟩ : Reg)), (32, (⟨true, flat e_S_thing_Thing i.1⟩ : Reg))]⟩ : St)) (fun i => k14 i.1 i.2 = some r) (fun i h => ?_) ?_
     ·obtain ⟨v12, v13⟩ := i
      rw [k14d] at h; dsimp only at h
      (try dsimp)
      apply E_seq
      apply E_ops
      refine WQ (does_add_ptr rfl rfl) ?_
      refine WQ (does_load1_ptr rfl rfl rfl) ?_
      apply WM
      obtain ⟨g15, h⟩ := of_gd h
      refine WQ (does_add rfl rfl g15.1 g15.2) ?_
      obtain ⟨g16, h⟩ := of_gd h
      refine WQ (does_idx_own rfl rfl rfl g16.1 g16.2) ?_
      refine WQ (does_add_ptr rfl rfl) ?_
      refine W1 (does_store_rgF (e := e_S_state_Slot) (n := 1) (k := 5) rfl rfl (fun _ => rfl) g16 4 (by omega) rfl rfl rfl (by decide) (⟨(nth v13 (x10 + (1 : Int))).xCap, (-1 : Int)⟩ : S_state_Slot) rfl (by decide) rfl) ?_
      apply W_nil
      refine E_keep [4, 8] [4, 8, 29, 32] ?_
      (try dsimp)
      apply E_seq
      apply E_ops
      refine WQ (does_loadA_ptr rfl rfl rfl rfl (by decide)) ?_
      refine W1 (does_store rfl rfl rfl rfl rfl (Nat.le_of_ble_eq_true rfl) rfl (by decide)) ?_
      apply WM
      apply W_nil
      refine E_keep [4, 5] [4, 29, 32] ?_
      (try dsimp)
      obtain ⟨g17, h⟩ := of_gd h
      refine E_ghost (Le_reg (r := 4) rfl (congrArg (fun n_ => (⟨false, [.v (.int .i64 a0.xThreads), .v (.int .i64 a0.xSlots), .v (.int .i64 a0.xThings), .own 29 0 n_ (some (5, 111)), .own 32 0 v12.length (some (13, 104))]⟩ : Reg)) g17)).b ?_
      (try dsimp)
      refine E_ghost (Le_frz (r := 29) rfl rfl).b ?_
      (try dsimp)
      refine E_ghost (Le_frz (r := 32) rfl rfl).b ?_
      (try dsimp)
      apply E_ret
      cases h
      (try simp only [qt, qb, qn])
      refine fin_mk (xs := _) ⟨_, _, at_whole rfl (by simp), rfl, rfl, ⟨_, rfl, rfl⟩⟩ ?_
      rfl
     ·
      skip
      apply E_seq
      apply E_ops
      refine WQ (does_add_ptr rfl rfl) ?_
      refine WQ (does_load1_ptr rfl rfl rfl) ?_
      apply WM
      apply W_nil
      refine E_keep [2, 4, 8, 10, 66, 67] [2, 4, 8, 29, 32] ?_
      (try dsimp)
      apply E_block
      (try dsimp)
      refine E_loopB (α := Int × (List S_thing_Thing) × (List S_state_Slot)) (fun (i : Int × (List S_thing_Thing) × (List S_state_Slot)) => (⟨[(2, S.one (.ptr 2 0)), (4, S.one (.ptr 4 0)), (8, S.one (.ptr 8 0)), (10, S.one (.v (.int .i64 x10))), (66, S.one (.v (.int .i64 a0.xThreads))), (67, S.one (.v (.int .i64 i.1)))], [(2, (⟨true, [.v (.int .i64 a0.xThreads), .v (.int .i64 a0.xSlots), .v (.int .i64 a0.xThings)]⟩ : Reg)), (4, (⟨true, [.v (.int .i64 (0 : Int)), .v (.int .i64 (0 : Int)), .v (.int .i64 (0 : Int)), .nil, .nil]⟩ : Reg)), (8, (⟨false, [.v (.int .i64 a0.xThreads), .v (.int .i64 a0.xSlots), .v (.int .i64 a0.xThings), .own 29 0 i.2.2.length (some (5, 111)), .own 32 0 i.2.1.length (some (13, 104))]⟩ : Reg)), (29, (⟨true, flat e_S_state_Slot i.2.2⟩ : Reg)), (32, (⟨true, flat e_S_thing_Thing i.2.1⟩ : Reg))]⟩ : St)) (fun n i => m_state_New_l0 F a0 x10 k14 n i.1 i.2.1 i.2.2 = some r) F ((0 : Int), v8, (setn v5 x10 (⟨(⟨(1 : Int), (0 : Int), (7 : Int), (0 : Int)⟩ : S_cap_Cap), (nth v5 x10).xUp⟩ : S_state_Slot))) h ?_ (fun n i h => ?_)
      ·
       refine LeB_trans (Le_reg (r := 8) rfl (by simp [setn_length, cpy_length, sortI_length] : (⟨false, [.v (.int .i64 a0.xThreads), .v (.int .i64 a0.xSlots), .v (.int .i64 a0.xThings), .own 29 0 v5.length (some (5, 111)), .own 32 0 v8.length (some (13, 104))]⟩ : Reg) = (⟨false, [.v (.int .i64 a0.xThreads), .v (.int .i64 a0.xSlots), .v (.int .i64 a0.xThings), .own 29 0 (setn v5 x10 (⟨(⟨(1 : Int), (0 : Int), (7 : Int), (0 : Int)⟩ : S_cap_Cap), (nth v5 x10).xUp⟩ : S_state_Slot)).length (some (5, 111)), .own 32 0 v8.length (some (13, 104))]⟩ : Reg))).b ?_
       exact (Le.b (le_mk ⟨rfl, rfl, rfl, rfl, rfl, rfl, trivial⟩ ⟨rfl, rfl, rfl, rfl, rfl, trivial⟩))
      obtain ⟨v43, v44, v45⟩ := i; dsimp only at h
      cases n with
      | zero => cases h
      | succ n46 =>
       unfold m_state_New_l0 at h
       (try dsimp)
       apply E_seq
       apply E_ops
       refine WQ (does_int rfl rfl rfl) ?_
       apply W_nil
       (try dsimp)
       apply E_seq
       refine E_cond rfl (fun hc47 => ?_) (fun hc47 => ?_)
       ·replace h := of_ct h hc47
        apply E_skip
        refine E_keep [2, 4, 8, 10, 66, 67] [2, 4, 8, 29, 32] ?_
        (try dsimp)
        apply E_seq
        apply E_block
        apply E_seq
        apply E_ops
        apply WM
        apply WM
        apply W_nil
        refine E_keep [2, 4, 8, 10, 11, 66, 67] [2, 4, 8, 29, 32] ?_
        (try dsimp)
        apply E_seq
        apply E_ops
        refine WQ (does_loadA_ptr rfl rfl rfl rfl (by decide)) ?_
        apply WM
        obtain ⟨x48, x48h, h⟩ := of_bind h
        refine W1 (does_call1 hP (p_geo_Root F a0 v43 x48 x48h) rfl rfl rfl) ?_
        apply WM
        apply W_nil
        refine E_keep [2, 4, 8, 10, 11, 12, 66, 67] [2, 4, 8, 29, 32] ?_
        (try dsimp)
        obtain ⟨k50, k50d, h⟩ := of_jn h
        refine E_seqJ (α := (List S_thing_Thing)) (fun (i : (List S_thing_Thing)) => (⟨[(2, S.one (.ptr 2 0)), (4, S.one (.ptr 4 0)), (8, S.one (.ptr 8 0)), (10, S.one (.v (.int .i64 x10))), (12, S.one (.v (.int .i64 x48))), (66, S.one (.v (.int .i64 a0.xThreads))), (67, S.one (.v (.int .i64 v43)))], [(2, (⟨true, [.v (.int .i64 a0.xThreads), .v (.int .i64 a0.xSlots), .v (.int .i64 a0.xThings)]⟩ : Reg)), (4, (⟨true, [.v (.int .i64 (0 : Int)), .v (.int .i64 (0 : Int)), .v (.int .i64 (0 : Int)), .nil, .nil]⟩ : Reg)), (8, (⟨false, [.v (.int .i64 a0.xThreads), .v (.int .i64 a0.xSlots), .v (.int .i64 a0.xThings), .own 29 0 v45.length (some (5, 111)), .own 32 0 i.length (some (13, 104))]⟩ : Reg)), (29, (⟨true, flat e_S_state_Slot v45⟩ : Reg)), (32, (⟨true, flat e_S_thing_Thing i⟩ : Reg))]⟩ : St)) (fun i => k50 i = some r) (fun i h => ?_) ?_
        ·let iv := i; change k50 i = some r at h; generalize i = v49 at h ⊢
         rw [k50d] at h; dsimp only at h
         (try dsimp)
         apply E_ops
         refine WQ (does_add_ptr rfl rfl) ?_
         refine WQ (does_load1_ptr rfl rfl rfl) ?_
         apply WM
         obtain ⟨g51, h⟩ := of_gd h
         refine WQ (does_add rfl rfl g51.1 g51.2) ?_
         refine WQ (does_build rfl rfl) ?_
         apply WM
         obtain ⟨g52, h⟩ := of_gd h
         refine WQ (does_add rfl rfl g52.1 g52.2) ?_
         refine WQ (does_build rfl rfl) ?_
         obtain ⟨g53, h⟩ := of_gd h
         refine WQ (does_idx_own rfl rfl rfl g53.1 g53.2) ?_
         refine W1 (does_store_rgF (e := e_S_state_Slot) (n := 5) (k := 5) rfl rfl (fun _ => rfl) g53 0 (by omega) rfl rfl rfl (by decide) (⟨(⟨(3 : Int), (1 : Int), (7 : Int), (0 : Int)⟩ : S_cap_Cap), (x10 + (1 : Int))⟩ : S_state_Slot) rfl (by decide) rfl) ?_
         apply W_nil
         refine E_keep [2, 4, 8, 10, 66, 67] [2, 4, 8, 29, 32] ?_
         (try dsimp)
         apply E_ops
         obtain ⟨g54, h⟩ := of_gd h
         refine WQ (does_add rfl rfl g54.1 g54.2) ?_
         apply WM
         apply W_nil
         refine ⟨n46, ((v43 + (1 : Int)), v49, (setn v45 (x48 + (1 : Int)) (⟨(⟨(3 : Int), (1 : Int), (7 : Int), (0 : Int)⟩ : S_cap_Cap), (x10 + (1 : Int))⟩ : S_state_Slot))), Nat.lt_succ_self _, h, ?_⟩
         refine LeB_trans (Le_reg (r := 8) rfl (by simp [setn_length, cpy_length, sortI_length] : (⟨false, [.v (.int .i64 a0.xThreads), .v (.int .i64 a0.xSlots), .v (.int .i64 a0.xThings), .own 29 0 v45.length (some (5, 111)), .own 32 0 v49.length (some (13, 104))]⟩ : Reg) = (⟨false, [.v (.int .i64 a0.xThreads), .v (.int .i64 a0.xSlots), .v (.int .i64 a0.xThings), .own 29 0 (setn v45 (x48 + (1 : Int)) (⟨(⟨(3 : Int), (1 : Int), (7 : Int), (0 : Int)⟩ : S_cap_Cap), (x10 + (1 : Int))⟩ : S_state_Slot)).length (some (5, 111)), .own 32 0 v49.length (some (13, 104))]⟩ : Reg))).b ?_
         exact (Le.b (le_mk ⟨rfl, rfl, rfl, rfl, rfl, rfl, trivial⟩ ⟨rfl, rfl, rfl, rfl, rfl, trivial⟩))
        ·
         skip
         obtain ⟨g55, h⟩ := of_gd h
         obtain ⟨x56, x56h, h⟩ := of_bind h
         obtain ⟨g57, h⟩ := of_gd h
         refine E_draw [0, 1, 2, 3, 4, 6, 7, 9] ?_
         refine XQ 0 rfl rfl rfl (does_add_ptr rfl rfl) ?_
         refine XQ 1 rfl rfl rfl (does_load1_ptr rfl rfl rfl) ?_
         refine XQ 2 rfl rfl rfl (does_mv rfl) ?_
         refine XQ 3 rfl rfl rfl (does_add rfl rfl g55.1 g55.2) ?_
         refine XQ 4 rfl rfl rfl (does_mv rfl) ?_
         refine X1 rfl (XK rfl (does_call1 hP (p_thing_New F (2 : Int) (3 : Int) x48 x56 x56h) rfl rfl rfl) ?_)
         refine XQ 6 rfl rfl rfl (does_mv rfl) ?_
         refine XQ 7 rfl rfl rfl (does_ext rfl rfl) ?_
         refine XQ 9 rfl rfl rfl (does_idx_own rfl rfl rfl g57.1 g57.2) ?_
         refine X2 rfl ?_ ?_
         ·
          refine XK rfl ((does_ext rfl rfl).does) ?_
          refine X1 rfl (XT rfl rfl (does_store_rgF (e := e_S_thing_Thing) (n := 13) (k := 13) rfl rfl (fun _ => rfl) g57 0 (by omega) rfl rfl rfl (by decide) x56.1 rfl (by decide) rfl) ?_)
          refine X_nil rfl ?_
          refine ⟨(setn v44 ((2 : Int) + v43) x56.1), h, ?_⟩
          refine LeB_trans (Le_reg (r := 8) rfl (by simp [setn_length, cpy_length, sortI_length] : (⟨false, [.v (.int .i64 a0.xThreads), .v (.int .i64 a0.xSlots), .v (.int .i64 a0.xThings), .own 29 0 v45.length (some (5, 111)), .own 32 0 v44.length (some (13, 104))]⟩ : Reg) = (⟨false, [.v (.int .i64 a0.xThreads), .v (.int .i64 a0.xSlots), .v (.int .i64 a0.xThings), .own 29 0 v45.length (some (5, 111)), .own 32 0 (setn v44 ((2 : Int) + v43) x56.1).length (some (13, 104))]⟩ : Reg))).b ?_
          exact (Le.b (le_mk ⟨rfl, rfl, rfl, rfl, rfl, rfl, rfl, trivial⟩ ⟨rfl, rfl, rfl, rfl, rfl, trivial⟩))
         ·
          refine XT rfl rfl (does_store_rgF (e := e_S_thing_Thing) (n := 13) (k := 13) rfl rfl (fun _ => rfl) g57 0 (by omega) rfl rfl rfl (by decide) x56.1 rfl (by decide) rfl) ?_
          refine X1 rfl (XT rfl rfl ((does_ext rfl rfl).does) ?_)
          refine X_nil rfl ?_
          refine ⟨(setn v44 ((2 : Int) + v43) x56.1), h, ?_⟩
          refine LeB_trans (Le_reg (r := 8) rfl (by simp [setn_length, cpy_length, sortI_length] : (⟨false, [.v (.int .i64 a0.xThreads), .v (.int .i64 a0.xSlots), .v (.int .i64 a0.xThings), .own 29 0 v45.length (some (5, 111)), .own 32 0 v44.length (some (13, 104))]⟩ : Reg) = (⟨false, [.v (.int .i64 a0.xThreads), .v (.int .i64 a0.xSlots), .v (.int .i64 a0.xThings), .own 29 0 v45.length (some (5, 111)), .own 32 0 (setn v44 ((2 : Int) + v43) x56.1).length (some (13, 104))]⟩ : Reg))).b ?_
          exact (Le.b (le_mk ⟨rfl, rfl, rfl, rfl, rfl, rfl, rfl, trivial⟩ ⟨rfl, rfl, rfl, rfl, rfl, trivial⟩))
       ·replace h := of_cf h hc47
        apply E_exit
        refine ⟨(v44, v45), h, ?_⟩
        exact (Le.b (le_mk ⟨rfl, rfl, rfl, trivial⟩ ⟨rfl, rfl, rfl, rfl, trivial⟩))
    ·
     skip
     obtain ⟨x58, x58h, h⟩ := of_bind h
     obtain ⟨g59, h⟩ := of_gd h
     refine E_draw [0, 1, 3, 4, 6] ?_
     refine XQ 0 rfl rfl rfl (does_add_ptr rfl rfl) ?_
     refine XQ 1 rfl rfl rfl (does_load1_ptr rfl rfl rfl) ?_
     refine X1 rfl (XK rfl (does_call1 hP (p_thing_New F (3 : Int) (0 : Int) (0 : Int) x58 x58h) rfl rfl rfl) ?_)
     refine XQ 3 rfl rfl rfl (does_mv rfl) ?_
     refine XQ 4 rfl rfl rfl (does_ext rfl rfl) ?_
     refine XQ 6 rfl rfl rfl (does_idx_own rfl rfl rfl g59.1 g59.2) ?_
     refine X2 rfl ?_ ?_
     ·
      refine XK rfl ((does_ext rfl rfl).does) ?_
      refine X1 rfl (XT rfl rfl (does_store_rgF (e := e_S_thing_Thing) (n := 13) (k := 13) rfl rfl (fun _ => rfl) (by first | exact g59 | exact ix_setn.1 g59 | simpa only [ix_setn] using g59) 0 (by omega) rfl rfl rfl (by decide) x58.1 rfl (by decide) rfl) ?_)
      refine X_nil rfl ?_
      refine ⟨(setn (setn (List.replicate a0.xThings.toNat (⟨(0 : Int), (0 : Int), (0 : Int), (0 : Int), (0 : Int), (0 : Int), (0 : Int), false, (0 : Int), (⟨(0 : Int), (0 : Int), (0 : Int), (0 : Int)⟩ : V4 Int)⟩ : S_thing_Thing)) (0 : Int) x1.1) (1 : Int) x58.1), h, ?_⟩
      refine LeB_trans (Le_reg (r := 8) rfl (by simp [setn_length, cpy_length, sortI_length] : (⟨false, [.v (.int .i64 a0.xThreads), .v (.int .i64 a0.xSlots), .v (.int .i64 a0.xThings), .own 29 0 v5.length (some (5, 111)), .own 32 0 (List.replicate a0.xThings.toNat (⟨(0 : Int), (0 : Int), (0 : Int), (0 : Int), (0 : Int), (0 : Int), (0 : Int), false, (0 : Int), (⟨(0 : Int), (0 : Int), (0 : Int), (0 : Int)⟩ : V4 Int)⟩ : S_thing_Thing)).length (some (13, 104))]⟩ : Reg) = (⟨false, [.v (.int .i64 a0.xThreads), .v (.int .i64 a0.xSlots), .v (.int .i64 a0.xThings), .own 29 0 v5.length (some (5, 111)), .own 32 0 (setn (setn (List.replicate a0.xThings.toNat (⟨(0 : Int), (0 : Int), (0 : Int), (0 : Int), (0 : Int), (0 : Int), (0 : Int), false, (0 : Int), (⟨(0 : Int), (0 : Int), (0 : Int), (0 : Int)⟩ : V4 Int)⟩ : S_thing_Thing)) (0 : Int) x1.1) (1 : Int) x58.1).length (some (13, 104))]⟩ : Reg))).b ?_
      exact (Le.b (le_mk ⟨rfl, rfl, rfl, trivial⟩ ⟨rfl, rfl, rfl, rfl, rfl, trivial⟩))
     ·
      refine XT rfl rfl (does_store_rgF (e := e_S_thing_Thing) (n := 13) (k := 13) rfl rfl (fun _ => rfl) (by first | exact g59 | exact ix_setn.1 g59 | simpa only [ix_setn] using g59) 0 (by omega) rfl rfl rfl (by decide) x58.1 rfl (by decide) rfl) ?_
      refine X1 rfl (XT rfl rfl ((does_ext rfl rfl).does) ?_)
      refine X_nil rfl ?_
      refine ⟨(setn (setn (List.replicate a0.xThings.toNat (⟨(0 : Int), (0 : Int), (0 : Int), (0 : Int), (0 : Int), (0 : Int), (0 : Int), false, (0 : Int), (⟨(0 : Int), (0 : Int), (0 : Int), (0 : Int)⟩ : V4 Int)⟩ : S_thing_Thing)) (0 : Int) x1.1) (1 : Int) x58.1), h, ?_⟩
      refine LeB_trans (Le_reg (r := 8) rfl (by simp [setn_length, cpy_length, sortI_length] : (⟨false, [.v (.int .i64 a0.xThreads), .v (.int .i64 a0.xSlots), .v (.int .i64 a0.xThings), .own 29 0 v5.length (some (5, 111)), .own 32 0 (List.replicate a0.xThings.toNat (⟨(0 : Int), (0 : Int), (0 : Int), (0 : Int), (0 : Int), (0 : Int), (0 : Int), false, (0 : Int), (⟨(0 : Int), (0 : Int), (0 : Int), (0 : Int)⟩ : V4 Int)⟩ : S_thing_Thing)).length (some (13, 104))]⟩ : Reg) = (⟨false, [.v (.int .i64 a0.xThreads), .v (.int .i64 a0.xSlots), .v (.int .i64 a0.xThings), .own 29 0 v5.length (some (5, 111)), .own 32 0 (setn (setn (List.replicate a0.xThings.toNat (⟨(0 : Int), (0 : Int), (0 : Int), (0 : Int), (0 : Int), (0 : Int), (0 : Int), false, (0 : Int), (⟨(0 : Int), (0 : Int), (0 : Int), (0 : Int)⟩ : V4 Int)⟩ : S_thing_Thing)) (0 : Int) x1.1) (1 : Int) x58.1).length (some (13, 104))]⟩ : Reg))).b ?_
      exact (Le.b (le_mk ⟨rfl, rfl, rfl, trivial⟩ ⟨rfl, rfl, rfl, rfl, rfl, trivial⟩))
   ·
    skip
    apply E_seq
    apply E_ops
    refine WQ (does_add_ptr rfl rfl) ?_
    refine WQ (does_load1_ptr rfl rfl rfl) ?_
    refine WQ (does_len_own rfl rfl) ?_
    apply WM
    apply W_nil
    refine E_keep [2, 4, 6, 8, 36, 37] [2, 4, 6, 8, 29, 32] ?_
    (try dsimp)
    apply E_block
    (try dsimp)
    refine E_loopB (α := Int × (List S_state_Slot)) (fun (i : Int × (List S_state_Slot)) => (⟨[(2, S.one (.ptr 2 0)), (4, S.one (.ptr 4 0)), (6, S.one (.ptr 6 0)), (8, S.one (.ptr 8 0)), (36, S.one (.v (.int .i64 (((List.replicate a0.xSlots.toNat (⟨(⟨(0 : Int), (0 : Int), (0 : Int), (0 : Int)⟩ : S_cap_Cap), (0 : Int)⟩ : S_state_Slot)).length : Nat) : Int)))), (37, S.one (.v (.int .i64 i.1)))], [(2, (⟨true, [.v (.int .i64 a0.xThreads), .v (.int .i64 a0.xSlots), .v (.int .i64 a0.xThings)]⟩ : Reg)), (4, (⟨true, [.v (.int .i64 (0 : Int)), .v (.int .i64 (0 : Int)), .v (.int .i64 (0 : Int)), .nil, .nil]⟩ : Reg)), (6, (⟨true, [.v (.int .i64 x1.1.xType), .v (.int .i64 x1.1.xBits), .v (.int .i64 x1.1.xBase), .v (.int .i64 x1.1.xSize), .v (.int .i64 x1.1.xUsed), .v (.int .i64 x1.1.xFrom), .v (.int .i64 x1.1.xBadge), .v (.bool x1.1.xFull), .v (.int .u64 x1.1.xWord), .v (.int .u64 x1.1.xData.c0), .v (.int .u64 x1.1.xData.c1), .v (.int .u64 x1.1.xData.c2), .v (.int .u64 x1.1.xData.c3)]⟩ : Reg)), (8, (⟨false, [.v (.int .i64 a0.xThreads), .v (.int .i64 a0.xSlots), .v (.int .i64 a0.xThings), .own 29 0 i.2.length (some (5, 111)), .own 32 0 (List.replicate a0.xThings.toNat (⟨(0 : Int), (0 : Int), (0 : Int), (0 : Int), (0 : Int), (0 : Int), (0 : Int), false, (0 : Int), (⟨(0 : Int), (0 : Int), (0 : Int), (0 : Int)⟩ : V4 Int)⟩ : S_thing_Thing)).length (some (13, 104))]⟩ : Reg)), (29, (⟨true, flat e_S_state_Slot i.2⟩ : Reg)), (32, (⟨true, flat e_S_thing_Thing (List.replicate a0.xThings.toNat (⟨(0 : Int), (0 : Int), (0 : Int), (0 : Int), (0 : Int), (0 : Int), (0 : Int), false, (0 : Int), (⟨(0 : Int), (0 : Int), (0 : Int), (0 : Int)⟩ : V4 Int)⟩ : S_thing_Thing))⟩ : Reg))]⟩ : St)) (fun n i => m_state_New_l1 F a0 k6 n i.1 i.2 = some r) F ((0 : Int), (List.replicate a0.xSlots.toNat (⟨(⟨(0 : Int), (0 : Int), (0 : Int), (0 : Int)⟩ : S_cap_Cap), (0 : Int)⟩ : S_state_Slot))) h ?_ (fun n i h => ?_)
    ·
     exact (Le.b (le_mk ⟨rfl, rfl, rfl, rfl, rfl, rfl, trivial⟩ ⟨rfl, rfl, rfl, rfl, rfl, rfl, trivial⟩))
    obtain ⟨v68, v69⟩ := i; dsimp only at h
    cases n with
    | zero => cases h
    | succ n70 =>
     unfold m_state_New_l1 at h
     (try dsimp)
     apply E_seq
     apply E_ops
     refine WQ (does_int rfl rfl rfl) ?_
     apply W_nil
     (try dsimp)
     apply E_seq
     refine E_cond rfl (fun hc71 => ?_) (fun hc71 => ?_)
     ·replace h := of_ct h hc71
      apply E_skip
      refine E_keep [2, 4, 6, 8, 36, 37] [2, 4, 6, 8, 29, 32] ?_
      (try dsimp)
      apply E_seq
      apply E_block
      apply E_seq
      apply E_ops
      apply WM
      apply WM
      apply W_nil
      refine E_keep [2, 4, 6, 8, 9, 36, 37] [2, 4, 6, 8, 29, 32] ?_
      (try dsimp)
      apply E_ops
      refine WQ (does_add_ptr rfl rfl) ?_
      refine WQ (does_load1_ptr rfl rfl rfl) ?_
      apply WM
      obtain ⟨g72, h⟩ := of_gd h
      refine WQ (does_idx_own rfl rfl rfl g72.1 g72.2) ?_
      refine WQ (does_add_ptr rfl rfl) ?_
      refine W1 (does_store_rgF (e := e_S_state_Slot) (n := 1) (k := 5) rfl rfl (fun _ => rfl) g72 4 (by omega) rfl rfl rfl (by decide) (⟨(nth v69 v68).xCap, (-1 : Int)⟩ : S_state_Slot) rfl (by decide) rfl) ?_
      apply W_nil
      refine E_keep [2, 4, 6, 8, 36, 37] [2, 4, 6, 8, 29, 32] ?_
      (try dsimp)
      apply E_ops
      obtain ⟨g73, h⟩ := of_gd h
      refine WQ (does_add rfl rfl g73.1 g73.2) ?_
      apply WM
      apply W_nil
      refine ⟨n70, ((v68 + (1 : Int)), (setn v69 v68 (⟨(nth v69 v68).xCap, (-1 : Int)⟩ : S_state_Slot))), Nat.lt_succ_self _, h, ?_⟩
      refine LeB_trans (Le_reg (r := 8) rfl (by simp [setn_length, cpy_length, sortI_length] : (⟨false, [.v (.int .i64 a0.xThreads), .v (.int .i64 a0.xSlots), .v (.int .i64 a0.xThings), .own 29 0 v69.length (some (5, 111)), .own 32 0 (List.replicate a0.xThings.toNat (⟨(0 : Int), (0 : Int), (0 : Int), (0 : Int), (0 : Int), (0 : Int), (0 : Int), false, (0 : Int), (⟨(0 : Int), (0 : Int), (0 : Int), (0 : Int)⟩ : V4 Int)⟩ : S_thing_Thing)).length (some (13, 104))]⟩ : Reg) = (⟨false, [.v (.int .i64 a0.xThreads), .v (.int .i64 a0.xSlots), .v (.int .i64 a0.xThings), .own 29 0 (setn v69 v68 (⟨(nth v69 v68).xCap, (-1 : Int)⟩ : S_state_Slot)).length (some (5, 111)), .own 32 0 (List.replicate a0.xThings.toNat (⟨(0 : Int), (0 : Int), (0 : Int), (0 : Int), (0 : Int), (0 : Int), (0 : Int), false, (0 : Int), (⟨(0 : Int), (0 : Int), (0 : Int), (0 : Int)⟩ : V4 Int)⟩ : S_thing_Thing)).length (some (13, 104))]⟩ : Reg))).b ?_
      exact (Le.b (le_mk ⟨rfl, rfl, rfl, rfl, rfl, rfl, trivial⟩ ⟨rfl, rfl, rfl, rfl, rfl, rfl, trivial⟩))
     ·replace h := of_cf h hc71
      apply E_exit
      refine ⟨v69, h, ?_⟩
      exact (Le.b (le_mk ⟨rfl, rfl, rfl, rfl, trivial⟩ ⟨rfl, rfl, rfl, rfl, rfl, rfl, trivial⟩))
  ·
   skip
   obtain ⟨g74, h⟩ := of_gd h
   obtain ⟨g75, h⟩ := of_gd h
   refine E_draw [0, 1, 2, 4, 5, 7] ?_
   refine XQ 0 rfl rfl rfl (does_loadA_ptr rfl rfl rfl rfl (by decide)) ?_
   refine XQ 1 rfl rfl rfl (does_add_ptr rfl rfl) ?_
   refine XQ 2 rfl rfl rfl (does_load1_ptr rfl rfl rfl) ?_
   refine XQ 4 rfl rfl rfl (does_add_ptr rfl rfl) ?_
   refine XQ 5 rfl rfl rfl (does_load1_ptr rfl rfl rfl) ?_
   refine X3 rfl ?_ ?_ ?_
   ·
    refine XK rfl (does_mkF (e := e_S_state_Slot) (⟨(⟨(0 : Int), (0 : Int), (0 : Int), (0 : Int)⟩ : S_cap_Cap), (0 : Int)⟩ : S_state_Slot) rfl rfl rfl (fun _ => rfl) g74.1 g74.2.1 g74.2.2.1 g74.2.2.2 rfl) ?_
    refine X2 rfl ?_ ?_
    ·
     refine XK rfl (does_mkF (e := e_S_thing_Thing) (⟨(0 : Int), (0 : Int), (0 : Int), (0 : Int), (0 : Int), (0 : Int), (0 : Int), false, (0 : Int), (⟨(0 : Int), (0 : Int), (0 : Int), (0 : Int)⟩ : V4 Int)⟩ : S_thing_Thing) rfl rfl rfl (fun _ => rfl) g75.1 g75.2.1 g75.2.2.1 g75.2.2.2 rfl) ?_
     refine XQ 7 rfl rfl rfl (does_build rfl rfl) ?_
     refine X1 rfl (XK rfl (does_newv rfl rfl) ?_)
     refine X1 rfl (XT rfl rfl (does_store rfl rfl rfl rfl rfl (Nat.le_of_ble_eq_true rfl) rfl (by decide)) ?_)
     refine X_nil rfl ?_
     refine ⟨(), h, ?_⟩
     exact (Le.b (le_mk ⟨rfl, rfl, rfl, rfl, trivial⟩ ⟨rfl, rfl, rfl, rfl, rfl, rfl, trivial⟩))
    ·
     refine XK rfl (does_newv rfl rfl) ?_
     refine X1 rfl (XK rfl (does_mkF (e := e_S_thing_Thing) (⟨(0 : Int), (0 : Int), (0 : Int), (0 : Int), (0 : Int), (0 : Int), (0 : Int), false, (0 : Int), (⟨(0 : Int), (0 : Int), (0 : Int), (0 : Int)⟩ : V4 Int)⟩ : S_thing_Thing) rfl rfl rfl (fun _ => rfl) g75.1 g75.2.1 g75.2.2.1 g75.2.2.2 rfl) ?_)
     refine XQ 7 rfl rfl rfl (does_build rfl rfl) ?_
     refine X1 rfl (XT rfl rfl (does_store rfl rfl rfl rfl rfl (Nat.le_of_ble_eq_true rfl) rfl (by decide)) ?_)
     refine X_nil rfl ?_
     refine ⟨(), h, ?_⟩
     exact (Le.b (le_mk ⟨rfl, rfl, rfl, rfl, trivial⟩ ⟨rfl, rfl, rfl, rfl, rfl, rfl, trivial⟩))
   ·
    refine XK rfl (does_mkF (e := e_S_thing_Thing) (⟨(0 : Int), (0 : Int), (0 : Int), (0 : Int), (0 : Int), (0 : Int), (0 : Int), false, (0 : Int), (⟨(0 : Int), (0 : Int), (0 : Int), (0 : Int)⟩ : V4 Int)⟩ : S_thing_Thing) rfl rfl rfl (fun _ => rfl) g75.1 g75.2.1 g75.2.2.1 g75.2.2.2 rfl) ?_
    refine X2 rfl ?_ ?_
    ·
     refine XK rfl (does_mkF (e := e_S_state_Slot) (⟨(⟨(0 : Int), (0 : Int), (0 : Int), (0 : Int)⟩ : S_cap_Cap), (0 : Int)⟩ : S_state_Slot) rfl rfl rfl (fun _ => rfl) g74.1 g74.2.1 g74.2.2.1 g74.2.2.2 rfl) ?_
     refine XQ 7 rfl rfl rfl (does_build rfl rfl) ?_
     refine X1 rfl (XK rfl (does_newv rfl rfl) ?_)
     refine X1 rfl (XT rfl rfl (does_store rfl rfl rfl rfl rfl (Nat.le_of_ble_eq_true rfl) rfl (by decide)) ?_)
     refine X_nil rfl ?_
     refine ⟨(), h, ?_⟩
     exact (Le.b (le_mk ⟨rfl, rfl, rfl, rfl, trivial⟩ ⟨rfl, rfl, rfl, rfl, rfl, rfl, trivial⟩))
    ·
     refine XK rfl (does_newv rfl rfl) ?_
     refine X1 rfl (XK rfl (does_mkF (e := e_S_state_Slot) (⟨(⟨(0 : Int), (0 : Int), (0 : Int), (0 : Int)⟩ : S_cap_Cap), (0 : Int)⟩ : S_state_Slot) rfl rfl rfl (fun _ => rfl) g74.1 g74.2.1 g74.2.2.1 g74.2.2.2 rfl) ?_)
     refine XQ 7 rfl rfl rfl (does_build rfl rfl) ?_
     refine X1 rfl (XT rfl rfl (does_store rfl rfl rfl rfl rfl (Nat.le_of_ble_eq_true rfl) rfl (by decide)) ?_)
     refine X_nil rfl ?_
     refine ⟨(), h, ?_⟩
     exact (Le.b (le_mk ⟨rfl, rfl, rfl, rfl, trivial⟩ ⟨rfl, rfl, rfl, rfl, rfl, rfl, trivial⟩))
   ·
    refine XK rfl (does_newv rfl rfl) ?_
    refine X2 rfl ?_ ?_
    ·
     refine XK rfl (does_mkF (e := e_S_state_Slot) (⟨(⟨(0 : Int), (0 : Int), (0 : Int), (0 : Int)⟩ : S_cap_Cap), (0 : Int)⟩ : S_state_Slot) rfl rfl rfl (fun _ => rfl) g74.1 g74.2.1 g74.2.2.1 g74.2.2.2 rfl) ?_
     refine X1 rfl (XK rfl (does_mkF (e := e_S_thing_Thing) (⟨(0 : Int), (0 : Int), (0 : Int), (0 : Int), (0 : Int), (0 : Int), (0 : Int), false, (0 : Int), (⟨(0 : Int), (0 : Int), (0 : Int), (0 : Int)⟩ : V4 Int)⟩ : S_thing_Thing) rfl rfl rfl (fun _ => rfl) g75.1 g75.2.1 g75.2.2.1 g75.2.2.2 rfl) ?_)
     refine XQ 7 rfl rfl rfl (does_build rfl rfl) ?_
     refine X1 rfl (XT rfl rfl (does_store rfl rfl rfl rfl rfl (Nat.le_of_ble_eq_true rfl) rfl (by decide)) ?_)
     refine X_nil rfl ?_
     refine ⟨(), h, ?_⟩
     exact (Le.b (le_mk ⟨rfl, rfl, rfl, rfl, trivial⟩ ⟨rfl, rfl, rfl, rfl, rfl, rfl, trivial⟩))
    ·
     refine XK rfl (does_mkF (e := e_S_thing_Thing) (⟨(0 : Int), (0 : Int), (0 : Int), (0 : Int), (0 : Int), (0 : Int), (0 : Int), false, (0 : Int), (⟨(0 : Int), (0 : Int), (0 : Int), (0 : Int)⟩ : V4 Int)⟩ : S_thing_Thing) rfl rfl rfl (fun _ => rfl) g75.1 g75.2.1 g75.2.2.1 g75.2.2.2 rfl) ?_
     refine X1 rfl (XK rfl (does_mkF (e := e_S_state_Slot) (⟨(⟨(0 : Int), (0 : Int), (0 : Int), (0 : Int)⟩ : S_cap_Cap), (0 : Int)⟩ : S_state_Slot) rfl rfl rfl (fun _ => rfl) g74.1 g74.2.1 g74.2.2.1 g74.2.2.2 rfl) ?_)
     refine XQ 7 rfl rfl rfl (does_build rfl rfl) ?_
     refine X1 rfl (XT rfl rfl (does_store rfl rfl rfl rfl rfl (Nat.le_of_ble_eq_true rfl) rfl (by decide)) ?_)
     refine X_nil rfl ?_
     refine ⟨(), h, ?_⟩
     exact (Le.b (le_mk ⟨rfl, rfl, rfl, rfl, trivial⟩ ⟨rfl, rfl, rfl, rfl, rfl, rfl, trivial⟩))
/- reeve/cap.None -/
def c_cap_None : VCode := (.seq (.ops [(o (.box 109 (t 0)) 1), (o (.mv (cb false)) 2)]) (.seq (.ops [(o (.load true 4 (t 1)) 3), (o (.build [zi, zi, zi, zi] []) 4), (o (.eqA false 109 (t 3) (t 4)) 5), (w 2 5)]) .ret))
theorem f_cap_None : Fits Tryz.prog 125 1 c_cap_None [(.tmp 2)] := fits_mk Tryz.func125 (by kernel_rfl) (by kernel_rfl) (by kernel_rfl)
theorem p_cap_None (F : Nat) (a0 : S_cap_Cap) (r : Bool) (h : m_cap_None F a0 = some r) : PC Tryz.prog 125 [S.agg [.v (.int .i64 a0.xType), .v (.int .i64 a0.xThing), .v (.int .i64 a0.xRights), .v (.int .i64 a0.xBadge)]] (S.one (.v (.bool r))) := by
 unfold m_cap_None at h
 refine PC_go f_cap_None rfl rfl ?_
 intro C hP
 unfold c_cap_None; dsimp
 apply E_seq
 apply E_ops
 refine W1 (does_box rfl rfl rfl rfl) ?_
 apply WM
 apply W_nil
 refine E_keep [1] [1] ?_
 (try dsimp)
 apply E_seq
 apply E_ops
 refine WQ (does_loadA_ptr rfl rfl rfl rfl (by decide)) ?_
 refine WQ (does_build rfl rfl) ?_
 refine WQ (does_eqA hP eqok109 rfl rfl rfl rfl ⟨rfl, ⟨rfl, ⟨rfl, ⟨rfl, trivial⟩⟩⟩⟩) ?_
 apply WM
 apply W_nil
 refine E_keep [2] [] ?_
 (try dsimp)
 apply E_ret
 cases h
 (try simp only [qt, qb, qn])
 refine fin_mk (xs := _) ⟨_, rfl, rfl⟩ ?_
 rfl
/- reeve/cap.in -/
def c_cap_in : VCode := (.seq (.ops [(o (.mv (cb false)) 6)]) (.seq (.ops [(w 7 0), (w 8 1), (o (.bin .geq 3 (t 7) (t 8)) 9), (w 10 9), (g_ (.mv (t 0)) 11 10 true), (g_ (.mv (t 2)) 12 10 true), (g_ (.bin .leq 3 (t 11) (t 12)) 13 10 true), (o (.pick (t 10) (t 13) (cb false)) 14), (w 6 14)]) .ret))
theorem f_cap_in : Fits Tryz.prog 135 3 c_cap_in [(.tmp 6)] := fits_mk Tryz.func135 (by kernel_rfl) (by kernel_rfl) (by kernel_rfl)
theorem p_cap_in (F : Nat) (a0 : Int) (a1 : Int) (a2 : Int) (r : Bool) (h : m_cap_in F a0 a1 a2 = some r) : PC Tryz.prog 135 [S.one (.v (.int .i64 a0)), S.one (.v (.int .i64 a1)), S.one (.v (.int .i64 a2))] (S.one (.v (.bool r))) := by
 unfold m_cap_in at h
 refine PC_go f_cap_in rfl rfl ?_
 intro C hP
 unfold c_cap_in; dsimp
 apply E_seq
 apply E_ops
 apply WM
 apply W_nil
 refine E_keep [0, 1, 2] [] ?_
 (try dsimp)
 apply E_seq
 apply E_ops
 apply WM
 apply WM
 refine WQ (does_int rfl rfl rfl) ?_
 apply WM
 apply W_lazy
 ·rfl
 ·intro hB; (try simp only [hB, bss, ctt]); exact does_mv rfl
 apply W_lazy
 ·rfl
 ·intro hB; (try simp only [hB, bss, ctt]); exact does_mv rfl
 apply W_lazy
 ·rfl
 ·intro hB; (try simp only [hB, bss, ctt]); exact does_int rfl rfl rfl
 refine WQ (does_and rfl rfl rfl) ?_
 apply WM
 apply W_nil
 refine E_keep [6] [] ?_
 (try dsimp)
 apply E_ret
 cases h
 (try simp only [qt, qb, qn])
 refine fin_mk (xs := _) ⟨_, rfl, rfl⟩ ?_
 rfl
/- reeve/right.Good -/
def c_right_Good : VCode := (.seq (.ops [(o (.mv (cb false)) 2)]) (.seq (.ops [(w 3 0), (o (.bin .geq 3 (t 3) (ci 0)) 4), (w 5 4), (g_ (.mv (t 0)) 6 5 true), (g_ (.bin .leq 3 (t 6) (ci 7)) 7 5 true), (o (.pick (t 5) (t 7) (cb false)) 8), (w 2 8)]) .ret))
theorem f_right_Good : Fits Tryz.prog 136 1 c_right_Good [(.tmp 2)] := fits_mk Tryz.func136 (by kernel_rfl) (by kernel_rfl) (by kernel_rfl)
theorem p_right_Good (F : Nat) (a0 : Int) (r : Bool) (h : m_right_Good F a0 = some r) : PC Tryz.prog 136 [S.one (.v (.int .i64 a0))] (S.one (.v (.bool r))) := by
 unfold m_right_Good at h
 refine PC_go f_right_Good rfl rfl ?_
 intro C hP
 unfold c_right_Good; dsimp
 apply E_seq
 apply E_ops
 apply WM
 apply W_nil
 refine E_keep [0] [] ?_
 (try dsimp)
 apply E_seq
 apply E_ops
 apply WM
 refine WQ (does_int rfl rfl rfl) ?_
 apply WM
 apply W_lazy
 ·rfl
 ·intro hB; (try simp only [hB, bss, ctt]); exact does_mv rfl
 apply W_lazy
 ·rfl
 ·intro hB; (try simp only [hB, bss, ctt]); exact does_int rfl rfl rfl
 refine WQ (does_and rfl rfl rfl) ?_
 apply WM
 apply W_nil
 refine E_keep [2] [] ?_
 (try dsimp)
 apply E_ret
 cases h
 (try simp only [qt, qb, qn])
 refine fin_mk (xs := _) ⟨_, rfl, rfl⟩ ?_
 rfl
/- reeve/right.Badge -/
def c_right_Badge : VCode := (.seq (.ops [(o (.mv (cb false)) 2)]) (.seq (.ops [(w 3 0), (o (.bin .geq 3 (t 3) (ci 0)) 4), (w 5 4), (g_ (.mv (t 0)) 6 5 true), (g_ (.bin .leq 3 (t 6) (ci 65535)) 7 5 true), (o (.pick (t 5) (t 7) (cb false)) 8), (w 2 8)]) .ret))
theorem f_right_Badge : Fits Tryz.prog 137 1 c_right_Badge [(.tmp 2)] := fits_mk Tryz.func137 (by kernel_rfl) (by kernel_rfl) (by kernel_rfl)
theorem p_right_Badge (F : Nat) (a0 : Int) (r : Bool) (h : m_right_Badge F a0 = some r) : PC Tryz.prog 137 [S.one (.v (.int .i64 a0))] (S.one (.v (.bool r))) := by
 unfold m_right_Badge at h
 refine PC_go f_right_Badge rfl rfl ?_
 intro C hP
 unfold c_right_Badge; dsimp
 apply E_seq
 apply E_ops
 apply WM
 apply W_nil
 refine E_keep [0] [] ?_
 (try dsimp)
 apply E_seq
 apply E_ops
 apply WM
 refine WQ (does_int rfl rfl rfl) ?_
 apply WM
 apply W_lazy
 ·rfl
 ·intro hB; (try simp only [hB, bss, ctt]); exact does_mv rfl
 apply W_lazy
 ·rfl
 ·intro hB; (try simp only [hB, bss, ctt]); exact does_int rfl rfl rfl
 refine WQ (does_and rfl rfl rfl) ?_
 apply WM
 apply W_nil
 refine E_keep [2] [] ?_
 (try dsimp)
 apply E_ret
 cases h
 (try simp only [qt, qb, qn])
 refine fin_mk (xs := _) ⟨_, rfl, rfl⟩ ?_
 rfl
/- reeve/cap.badged -/
def c_cap_badged : VCode := (.seq (.ops [(o (.mv (cb false)) 2)]) (.seq (.ops [(w 3 0), (o (.bin .eql 3 (t 3) (ci 3)) 4), (w 5 4), (g_ (.mv (t 0)) 6 5 false), (g_ (.bin .eql 3 (t 6) (ci 4)) 7 5 false), (o (.pick (t 5) (cb true) (t 7)) 8), (w 2 8)]) .ret))
theorem f_cap_badged : Fits Tryz.prog 138 1 c_cap_badged [(.tmp 2)] := fits_mk Tryz.func138 (by kernel_rfl) (by kernel_rfl) (by kernel_rfl)
theorem p_cap_badged (F : Nat) (a0 : Int) (r : Bool) (h : m_cap_badged F a0 = some r) : PC Tryz.prog 138 [S.one (.v (.int .i64 a0))] (S.one (.v (.bool r))) := by
 unfold m_cap_badged at h
 refine PC_go f_cap_badged rfl rfl ?_
 intro C hP
 unfold c_cap_badged; dsimp
 apply E_seq
 apply E_ops
 apply WM
 apply W_nil
 refine E_keep [0] [] ?_
 (try dsimp)
 apply E_seq
 apply E_ops
 apply WM
 refine WQ (does_int rfl rfl rfl) ?_
 apply WM
 apply W_lazy
 ·rfl
 ·intro hB; (try simp only [hB, bss, ctt]); exact does_mv rfl
 apply W_lazy
 ·rfl
 ·intro hB; (try simp only [hB, bss, ctt]); exact does_int rfl rfl rfl
 refine WQ (does_or rfl rfl rfl) ?_
 apply WM
 apply W_nil
 refine E_keep [2] [] ?_
 (try dsimp)
 apply E_ret
 cases h
 (try simp only [qt, qb, qn])
 refine fin_mk (xs := _) ⟨_, rfl, rfl⟩ ?_
 rfl
/- reeve/cap.Good -/
def c_cap_Good : VCode := (.seq (.ops [(o (.box 109 (t 0)) 1), (o (.mv (cb false)) 2)]) (.seq (.seq (.ops [(o (.load true 4 (t 1)) 3), (o (.call 125 [(t 3)]) 4)]) (.cond (t 4) (.seq (.ops [(o (.mv (cb true)) 2)]) .ret) .skip)) (.seq (.ops [(o (.add 0 (t 1)) 5), (o (.load false 1 (t 5)) 6), (o (.call 135 [(t 6), (ci 1), (ci 5)]) 7), (w 8 7), (g_ (.add 1 (t 1)) 9 8 true), (g_ (.load false 1 (t 9)) 10 8 true), (g_ (.call 135 [(t 10), (ci 0), (ci 47)]) 11 8 true), (o (.pick (t 8) (t 11) (cb false)) 12), (w 13 12), (g_ (.add 2 (t 1)) 14 13 true), (g_ (.load false 1 (t 14)) 15 13 true), (g_ (.call 136 [(t 15)]) 16 13 true), (o (.pick (t 13) (t 16) (cb false)) 17), (w 18 17), (g_ (.add 3 (t 1)) 19 18 true), (g_ (.load false 1 (t 19)) 20 18 true), (g_ (.call 137 [(t 20)]) 21 18 true), (o (.pick (t 18) (t 21) (cb false)) 22), (w 23 22), (g_ (.add 3 (t 1)) 24 23 true), (g_ (.load false 1 (t 24)) 25 23 true), (g_ (.bin .eql 3 (t 25) (ci 0)) 26 23 true), (g_ (.mv (t 26)) 27 23 true), (g_ (.add 0 (t 1)) 28 27 false), (g_ (.load false 1 (t 28)) 29 27 false), (g_ (.call 138 [(t 29)]) 30 27 false), (g_ (.pick (t 27) (cb true) (t 30)) 31 23 true), (o (.pick (t 23) (t 31) (cb false)) 32), (w 2 32)]) .ret)))
theorem f_cap_Good : Fits Tryz.prog 97 1 c_cap_Good [(.tmp 2)] := fits_mk Tryz.func97 (by kernel_rfl) (by kernel_rfl) (by kernel_rfl)
theorem p_cap_Good (F : Nat) (a0 : S_cap_Cap) (r : Bool) (h : m_cap_Good F a0 = some r) : PC Tryz.prog 97 [S.agg [.v (.int .i64 a0.xType), .v (.int .i64 a0.xThing), .v (.int .i64 a0.xRights), .v (.int .i64 a0.xBadge)]] (S.one (.v (.bool r))) := by
 unfold m_cap_Good at h
 refine PC_go f_cap_Good rfl rfl ?_
 intro C hP
 unfold c_cap_Good; dsimp
 apply E_seq
 apply E_ops
 refine W1 (does_box rfl rfl rfl rfl) ?_
 apply WM
 apply W_nil
 refine E_keep [1] [1] ?_
 (try dsimp)
 apply E_seq
 apply E_seq
 apply E_ops
 refine WQ (does_loadA_ptr rfl rfl rfl rfl (by decide)) ?_
 obtain ⟨x1, x1h, h⟩ := of_bind h
 refine W1 (does_call1 hP (p_cap_None F a0 x1 x1h) rfl rfl rfl) ?_
 apply W_nil
 refine E_keep [1, 4] [1] ?_
 (try dsimp)
 refine E_cond rfl (fun hc2 => ?_) (fun hc2 => ?_)
 ·replace h := of_ct h hc2
  apply E_seq
  apply E_ops
  apply WM
  apply W_nil
  refine E_keep [2] [] ?_
  (try dsimp)
  apply E_ret
  cases h
  (try simp only [qt, qb, qn])
  refine fin_mk (xs := _) ⟨_, rfl, rfl⟩ ?_
  rfl
 ·replace h := of_cf h hc2
  apply E_skip
  refine E_keep [1] [1] ?_
  (try dsimp)
  apply E_seq
  apply E_ops
  refine WQ (does_add_ptr rfl rfl) ?_
  refine WQ (does_load1_ptr rfl rfl rfl) ?_
  obtain ⟨x3, x3h, h⟩ := of_bind h
  refine W1 (does_call1 hP (p_cap_in F a0.xType (1 : Int) (5 : Int) x3 x3h) rfl rfl rfl) ?_
  apply WM
  apply W_lazy
  ·rfl
  ·intro hB; (try simp only [hB, bss, ctt]); exact does_add_ptr rfl rfl
  apply W_lazy
  ·rfl
  ·intro hB; (try simp only [hB, bss, ctt]); exact does_load1_ptr rfl rfl rfl
  obtain ⟨x4, x4h, h⟩ := of_bind h
  apply W_lazyD
  ·rfl
  ·intro hB; (try simp only [hB, bss, ctt]); exact does_call1 hP (p_cap_in F a0.xThing (0 : Int) (47 : Int) x4 (of_lz x4h (bt hB))) rfl rfl rfl
  refine WQ (does_and rfl rfl rfl) ?_
  apply WM
  apply W_lazy
  ·rfl
  ·intro hB; (try simp only [hB, bss, ctt]); exact does_add_ptr rfl rfl
  apply W_lazy
  ·rfl
  ·intro hB; (try simp only [hB, bss, ctt]); exact does_load1_ptr rfl rfl rfl
  obtain ⟨x5, x5h, h⟩ := of_bind h
  apply W_lazyD
  ·rfl
  ·intro hB; (try simp only [hB, bss, ctt]); exact does_call1 hP (p_right_Good F a0.xRights x5 (of_lz x5h (bt hB))) rfl rfl rfl
  refine WQ (does_and rfl rfl rfl) ?_
  apply WM
  apply W_lazy
  ·rfl
  ·intro hB; (try simp only [hB, bss, ctt]); exact does_add_ptr rfl rfl
  apply W_lazy
  ·rfl
  ·intro hB; (try simp only [hB, bss, ctt]); exact does_load1_ptr rfl rfl rfl
  obtain ⟨x6, x6h, h⟩ := of_bind h
  apply W_lazyD
  ·rfl
  ·intro hB; (try simp only [hB, bss, ctt]); exact does_call1 hP (p_right_Badge F a0.xBadge x6 (of_lz x6h (bt hB))) rfl rfl rfl
  refine WQ (does_and rfl rfl rfl) ?_
  apply WM
  apply W_lazy
  ·rfl
  ·intro hB; (try simp only [hB, bss, ctt]); exact does_add_ptr rfl rfl
  apply W_lazy
  ·rfl
  ·intro hB; (try simp only [hB, bss, ctt]); exact does_load1_ptr rfl rfl rfl
  apply W_lazy
  ·rfl
  ·intro hB; (try simp only [hB, bss, ctt]); exact does_int rfl rfl rfl
  apply W_lazy
  ·rfl
  ·intro hB; (try simp only [hB, bss, ctt]); exact does_mv rfl
  apply W_lazy2
  ·rfl
  ·intro hA hB; (try simp only [hA, hB, bss, Bool.and_true, Bool.true_and, ctt]); exact (does_add_ptr rfl rfl).does
  apply W_lazy2
  ·rfl
  ·intro hA hB; (try simp only [hA, hB, bss, Bool.and_true, Bool.true_and, ctt]); exact (does_load1_ptr rfl rfl rfl).does
  obtain ⟨x7, x7h, h⟩ := of_bind h
  apply W_lazy2
  ·rfl
  ·intro hA hB; (try simp only [hA, hB, bss, Bool.and_true, Bool.true_and, ctt]); exact does_call1 hP (p_cap_badged F a0.xType x7 (of_lz x7h (bt2 hA hB))) rfl rfl rfl
  apply W_lazy
  ·rfl
  ·intro hB; (try simp only [hB, bss, ctt]); exact does_or rfl rfl rfl
  refine WQ (does_and rfl rfl rfl) ?_
  apply WM
  apply W_nil
  refine E_keep [2] [] ?_
  (try dsimp)
  apply E_ret
  cases h
  (try simp only [qt, qb, qn])
  refine fin_mk (xs := _) ⟨_, rfl, rfl⟩ ?_
  rfl
/- (reeve/state.State).there -/
def c_state_State_there : VCode := (.seq (.ops [(o (.box 27 (t 0)) 2), (o (.mv (cb false)) 4)]) (.seq (.ops [(w 5 1), (o (.bin .geq 3 (t 5) (ci 0)) 6), (w 7 6), (g_ (.mv (t 1)) 8 7 true), (g_ (.add 4 (t 2)) 9 7 true), (g_ (.load false 1 (t 9)) 10 7 true), (g_ (.len false (t 10)) 11 7 true), (g_ (.bin .lss 3 (t 8) (t 11)) 12 7 true), (o (.pick (t 7) (t 12) (cb false)) 13), (w 14 13), (g_ (.add 4 (t 2)) 15 14 true), (g_ (.load false 1 (t 15)) 16 14 true), (g_ (.mv (t 1)) 17 14 true), (g_ (.idxS 13 (t 16) (t 17)) 18 14 true), (g_ (.add 0 (t 18)) 19 14 true), (g_ (.load false 1 (t 19)) 20 14 true), (g_ (.bin .neq 3 (t 20) (ci 0)) 21 14 true), (o (.pick (t 14) (t 21) (cb false)) 22), (w 4 22)]) .ret))
theorem f_state_State_there : Fits Tryz.prog 126 2 c_state_State_there [(.tmp 4)] := fits_mk Tryz.func126 (by kernel_rfl) (by kernel_rfl) (by kernel_rfl)
theorem p_state_State_there (F : Nat) (a0 : S_state_State) (a1 : Int) (r : Bool) (h : m_state_State_there F a0 a1 = some r) : PC Tryz.prog 126 [S.agg [.v (.int .i64 a0.xGeo.xThreads), .v (.int .i64 a0.xGeo.xSlots), .v (.int .i64 a0.xGeo.xThings), .sl (flat e_S_state_Slot a0.xSlots) a0.xSlots.length, .sl (flat e_S_thing_Thing a0.xThings) a0.xThings.length], S.one (.v (.int .i64 a1))] (S.one (.v (.bool r))) := by
 unfold m_state_State_there at h
 refine PC_go f_state_State_there rfl rfl ?_
 intro C hP
 unfold c_state_State_there; dsimp
 apply E_seq
 apply E_ops
 refine W1 (does_box rfl rfl rfl rfl) ?_
 apply WM
 apply W_nil
 refine E_keep [1, 2] [2] ?_
 (try dsimp)
 apply E_seq
 apply E_ops
 apply WM
 refine WQ (does_int rfl rfl rfl) ?_
 apply WM
 apply W_lazy
 ·rfl
 ·intro hB; (try simp only [hB, bss, ctt]); exact does_mv rfl
 apply W_lazy
 ·rfl
 ·intro hB; (try simp only [hB, bss, ctt]); exact does_add_ptr rfl rfl
 apply W_lazy
 ·rfl
 ·intro hB; (try simp only [hB, bss, ctt]); exact does_load1_ptr rfl rfl rfl
 apply W_lazy
 ·rfl
 ·intro hB; (try simp only [hB, bss, ctt]); exact does_len_sl rfl
 apply W_lazy
 ·rfl
 ·intro hB; (try simp only [hB, bss, ctt]); exact does_int rfl rfl rfl
 refine WQ (does_and rfl rfl rfl) ?_
 apply WM
 apply W_lazy
 ·rfl
 ·intro hB; (try simp only [hB, bss, ctt]); exact does_add_ptr rfl rfl
 apply W_lazy
 ·rfl
 ·intro hB; (try simp only [hB, bss, ctt]); exact does_load1_ptr rfl rfl rfl
 apply W_lazy
 ·rfl
 ·intro hB; (try simp only [hB, bss, ctt]); exact does_mv rfl
 obtain ⟨g1, h⟩ := of_gd h
 apply W_lazy
 ·rfl
 ·intro hB; (try simp only [hB, bss, ctt]); exact does_idx_sl rfl rfl (g1 hB).1 (g1 hB).2
 apply W_lazy
 ·rfl
 ·intro hB; (try simp only [hB, bss, ctt]); exact does_add_psl rfl
 apply W_lazy
 ·rfl
 ·intro hB; (try simp only [hB, bss, ctt]); exact does_load1_slF (k := 13) rfl (fun _ => rfl) (g1 hB) 0 rfl rfl
 apply W_lazy
 ·rfl
 ·intro hB; (try simp only [hB, bss, ctt]); exact does_int rfl rfl rfl
 refine WQ (does_and rfl rfl rfl) ?_
 apply WM
 apply W_nil
 refine E_keep [4] [] ?_
 (try dsimp)
 apply E_ret
 cases h
 (try simp only [qt, qb, qn])
 refine fin_mk (xs := _) ⟨_, rfl, rfl⟩ ?_
 rfl
/- (reeve/state.State).caps -/
def c_state_State_caps : VCode := (.seq (.ops [(o (.box 27 (t 0)) 1), (o (.mv (cb false)) 2)]) (.seq (.seq (.ops [(o (.add 3 (t 1)) 6), (o (.load false 1 (t 6)) 7), (o (.len false (t 7)) 8), (o (.mv (ci 0)) 9)]) (.block 0 (.loop (.seq (.ops [(o (.bin .lss 3 (t 9) (t 8)) 10)]) (.seq (.cond (t 10) .skip (.exit 0)) (.seq (.block 1 (.seq (.ops [(o (.idxS 5 (t 7) (t 9)) 11), (o (.load true 5 (t 11)) 12), (o (.newv [zi, zi, zi, zi, zi]) 4), (n_ (.store 5 (t 4) (t 12)))]) (.seq (.ops [(o (.add 0 (t 4)) 13), (o (.load true 4 (t 13)) 14), (o (.newv [zi, zi, zi, zi]) 5), (n_ (.store 4 (t 5) (t 14)))]) (.block 2 (.seq (.ops [(o (.load true 4 (t 5)) 16), (o (.call 97 [(t 16)]) 17), (o (.un .not (t 17)) 18), (w 15 18)]) (.cond (t 15) (.seq (.ops [(o (.mv (cb false)) 2)]) .ret) (.seq (.seq (.ops [(o (.load true 4 (t 5)) 20), (o (.call 125 [(t 20)]) 21), (w 22 21), (g_ (.add 4 (t 4)) 23 22 true), (g_ (.load false 1 (t 23)) 24 22 true), (g_ (.bin .neq 3 (t 24) (.const (.int .i64 (-1)))) 25 22 true), (o (.pick (t 22) (t 25) (cb false)) 26), (w 19 26)]) (.cond (t 19) .skip (.ops [(o (.load true 4 (t 5)) 27), (o (.call 125 [(t 27)]) 28), (o (.un .not (t 28)) 29), (w 30 29), (g_ (.add 4 (t 4)) 31 30 true), (g_ (.load false 1 (t 31)) 32 30 true), (g_ (.bin .lss 3 (t 32) (.const (.int .i64 (-1)))) 33 30 true), (o (.pick (t 30) (t 33) (cb false)) 34), (w 19 34)]))) (.cond (t 19) (.seq (.ops [(o (.mv (cb false)) 2)]) .ret) (.seq (.draw [((o (.load true 4 (t 5)) 36), []), ((o (.call 125 [(t 36)]) 37), [0]), ((o (.un .not (t 37)) 38), [1]), ((w 39 38), [2, 1]), ((g_ (.load true 5 (t 1)) 40 39 true), [3]), ((g_ (.add 1 (t 5)) 41 39 true), [3]), ((g_ (.load false 1 (t 41)) 42 39 true), [5, 3]), ((g_ (.call 126 [(t 40), (t 42)]) 43 39 true), [4, 6, 3, 3]), ((g_ (.un .not (t 43)) 44 39 true), [7, 3]), ((g_ (.mv (t 44)) 45 39 true), [8, 7, 3]), ((g_ (.add 4 (t 1)) 46 45 false), [9]), ((g_ (.load false 1 (t 46)) 47 45 false), [10, 9]), ((g_ (.add 1 (t 5)) 48 45 false), [9]), ((g_ (.load false 1 (t 48)) 49 45 false), [12, 9]), ((g_ (.idxS 13 (t 47) (t 49)) 50 45 false), [11, 13, 9]), ((g_ (.add 0 (t 50)) 51 45 false), [14, 9]), ((g_ (.load false 1 (t 51)) 52 45 false), [15, 9]), ((g_ (.add 0 (t 5)) 53 45 false), [9]), ((g_ (.load false 1 (t 53)) 54 45 false), [17, 9]), ((g_ (.bin .neq 3 (t 52) (t 54)) 55 45 false), [16, 18, 9]), ((g_ (.pick (t 45) (cb true) (t 55)) 56 39 true), [9, 19, 3]), ((o (.pick (t 39) (t 56) (cb false)) 57), [3, 20]), ((w 35 57), [21, 9])]) (.cond (t 35) (.seq (.ops [(o (.mv (cb false)) 2)]) .ret) .skip)))))))))) (.ops [(o (.bin .add 3 (t 9) (ci 1)) 58), (w 9 58)]))))))) (.seq (.ops [(o (.mv (cb true)) 2)]) .ret)))
theorem f_state_State_caps : Fits Tryz.prog 86 1 c_state_State_caps [(.tmp 2)] := fits_mk Tryz.func86 (by kernel_rfl) (by kernel_rfl) (by kernel_rfl)
theorem p_state_State_caps (F : Nat) (a0 : S_state_State) (r : Bool) (h : m_state_State_caps F a0 = some r) : PC Tryz.prog 86 [S.agg [.v (.int .i64 a0.xGeo.xThreads), .v (.int .i64 a0.xGeo.xSlots), .v (.int .i64 a0.xGeo.xThings), .sl (flat e_S_state_Slot a0.xSlots) a0.xSlots.length, .sl (flat e_S_thing_Thing a0.xThings) a0.xThings.length]] (S.one (.v (.bool r))) := by
 unfold m_state_State_caps at h
 refine PC_go f_state_State_caps rfl rfl ?_
 intro C hP
 unfold c_state_State_caps; dsimp
 apply E_seq
 apply E_ops
 refine W1 (does_box rfl rfl rfl rfl) ?_
 apply WM
 apply W_nil
 refine E_keep [1] [1] ?_
 (try dsimp)
 obtain ⟨k1, k1d, h⟩ := of_jn h
 refine E_seqJ (α := Unit) (fun (i : Unit) => (⟨[], []⟩ : St)) (fun i => k1 () = some r) (fun i h => ?_) ?_
 ·skip
  rw [k1d] at h; dsimp only at h
  (try dsimp)
  apply E_seq
  apply E_ops
  apply WM
  apply W_nil
  (try dsimp)
  apply E_ret
  cases h
  (try simp only [qt, qb, qn])
  refine fin_mk (xs := _) ⟨_, rfl, rfl⟩ ?_
  rfl
 ·
  skip
  apply E_seq
  apply E_ops
  refine WQ (does_add_ptr rfl rfl) ?_
  refine WQ (does_load1_ptr rfl rfl rfl) ?_
  refine WQ (does_len_sl rfl) ?_
  apply WM
  apply W_nil
  refine E_keep [1, 7, 8, 9] [1] ?_
  (try dsimp)
  apply E_block
  (try dsimp)
  refine E_loopB (α := Int) (fun (i : Int) => (⟨[(1, S.one (.ptr 1 0)), (7, S.one (.sl (flat e_S_state_Slot a0.xSlots) a0.xSlots.length)), (8, S.one (.v (.int .i64 ((a0.xSlots.length : Nat) : Int)))), (9, S.one (.v (.int .i64 i)))], [(1, (⟨true, [.v (.int .i64 a0.xGeo.xThreads), .v (.int .i64 a0.xGeo.xSlots), .v (.int .i64 a0.xGeo.xThings), .sl (flat e_S_state_Slot a0.xSlots) a0.xSlots.length, .sl (flat e_S_thing_Thing a0.xThings) a0.xThings.length]⟩ : Reg))]⟩ : St)) (fun n i => m_state_State_caps_l0 F a0 k1 n i = some r) F (0 : Int) h ?_ (fun n i h => ?_)
  ·
   exact (Le.b (le_mk ⟨rfl, rfl, rfl, rfl, trivial⟩ ⟨rfl, trivial⟩))
  generalize i = v33 at h ⊢
  cases n with
  | zero => cases h
  | succ n34 =>
   unfold m_state_State_caps_l0 at h
   (try dsimp)
   apply E_seq
   apply E_ops
   refine WQ (does_int rfl rfl rfl) ?_
   apply W_nil
   (try dsimp)
   apply E_seq
   refine E_cond rfl (fun hc35 => ?_) (fun hc35 => ?_)
   ·replace h := of_ct h hc35
    apply E_skip
    refine E_keep [1, 7, 8, 9] [1] ?_
    (try dsimp)
    apply E_seq
    apply E_block
    apply E_seq
    apply E_ops
    obtain ⟨g36, h⟩ := of_gd h
    refine WQ (does_idx_sl rfl rfl g36.1 g36.2) ?_
    refine WQ (does_loadA_slF (k := 5) rfl (fun _ => rfl) g36 0 rfl rfl rfl) ?_
    refine W1 (does_newv rfl rfl) ?_
    refine W1 (does_store rfl rfl rfl rfl rfl (Nat.le_of_ble_eq_true rfl) rfl (by decide)) ?_
    apply W_nil
    refine E_keep [1, 4, 7, 8, 9] [1, 4] ?_
    (try dsimp)
    apply E_seq
    apply E_ops
    refine WQ (does_add_ptr rfl rfl) ?_
    refine WQ (does_loadA_ptr rfl rfl rfl rfl (by decide)) ?_
    refine W1 (does_newv rfl rfl) ?_
    refine W1 (does_store rfl rfl rfl rfl rfl (Nat.le_of_ble_eq_true rfl) rfl (by decide)) ?_
    apply W_nil
    refine E_keep [1, 4, 5, 7, 8, 9] [1, 4, 5] ?_
    (try dsimp)
    apply E_block
    apply E_seq
    apply E_ops
    refine WQ (does_loadA_ptr rfl rfl rfl rfl (by decide)) ?_
    obtain ⟨x37, x37h, h⟩ := of_bind h
    refine W1 (does_call1 hP (p_cap_Good F ((nth a0.xSlots v33).xCap) x37 x37h) rfl rfl rfl) ?_
    refine WQ (does_not rfl) ?_
    apply WM
    apply W_nil
    refine E_keep [1, 4, 5, 7, 8, 9, 15] [1, 4, 5] ?_
    (try dsimp)
    refine E_cond rfl (fun hc38 => ?_) (fun hc38 => ?_)
    ·replace h := of_ct h hc38
     apply E_seq
     apply E_ops
     apply WM
     apply W_nil
     refine E_keep [2] [] ?_
     (try dsimp)
     apply E_ret
     cases h
     (try simp only [qt, qb, qn])
     refine fin_mk (xs := _) ⟨_, rfl, rfl⟩ ?_
     rfl
    ·replace h := of_cf h hc38
     obtain ⟨k40, k40d, h⟩ := of_jn h
     refine E_seqJ (α := Bool) (fun (i : Bool) => (⟨[(1, S.one (.ptr 1 0)), (5, S.one (.ptr 5 0)), (7, S.one (.sl (flat e_S_state_Slot a0.xSlots) a0.xSlots.length)), (8, S.one (.v (.int .i64 ((a0.xSlots.length : Nat) : Int)))), (9, S.one (.v (.int .i64 v33))), (19, S.one (.v (.bool i)))], [(1, (⟨true, [.v (.int .i64 a0.xGeo.xThreads), .v (.int .i64 a0.xGeo.xSlots), .v (.int .i64 a0.xGeo.xThings), .sl (flat e_S_state_Slot a0.xSlots) a0.xSlots.length, .sl (flat e_S_thing_Thing a0.xThings) a0.xThings.length]⟩ : Reg)), (5, (⟨true, [.v (.int .i64 (nth a0.xSlots v33).xCap.xType), .v (.int .i64 (nth a0.xSlots v33).xCap.xThing), .v (.int .i64 (nth a0.xSlots v33).xCap.xRights), .v (.int .i64 (nth a0.xSlots v33).xCap.xBadge)]⟩ : Reg))]⟩ : St)) (fun i => k40 i = some r) (fun i h => ?_) ?_
     ·let iv := i; change k40 i = some r at h; generalize i = v39 at h ⊢
      rw [k40d] at h; dsimp only at h
      (try dsimp)
      refine E_cond rfl (fun hc41 => ?_) (fun hc41 => ?_)
      ·replace h := of_ct h hc41
       apply E_seq
       apply E_ops
       apply WM
       apply W_nil
       refine E_keep [2] [] ?_
       (try dsimp)
       apply E_ret
       cases h
       (try simp only [qt, qb, qn])
       refine fin_mk (xs := _) ⟨_, rfl, rfl⟩ ?_
       rfl
      ·replace h := of_cf h hc41
       apply E_seq
       obtain ⟨x42, x42h, h⟩ := of_bind h
       obtain ⟨x43, x43h, h⟩ := of_bind h
       obtain ⟨g44, h⟩ := of_gd h
       refine E_draw [0, 2, 3, 4, 5, 6, 8, 9, 10, 11, 12, 13, 14, 15, 16, 17, 18, 19, 20, 21, 22] ?_
       refine XQ 0 rfl rfl rfl (does_loadA_ptr rfl rfl rfl rfl (by decide)) ?_
       refine X1 rfl (XK rfl (does_call1 hP (p_cap_None F ((nth a0.xSlots v33).xCap) x42 x42h) rfl rfl rfl) ?_)
       refine XQ 2 rfl rfl rfl (does_not rfl) ?_
       refine XQ 3 rfl rfl rfl (does_mv rfl) ?_
       apply XQ_lazy 4
       ·rfl
       ·rfl
       ·rfl
       ·rfl
       ·intro hB; (try simp only [hB, bss, ctt]); exact does_loadA_ptr rfl rfl rfl rfl (by decide)
       apply XQ_lazy 5
       ·rfl
       ·rfl
       ·rfl
       ·rfl
       ·intro hB; (try simp only [hB, bss, ctt]); exact does_add_ptr rfl rfl
       apply XQ_lazy 6
       ·rfl
       ·rfl
       ·rfl
       ·rfl
       ·intro hB; (try simp only [hB, bss, ctt]); exact does_load1_ptr rfl rfl rfl
       refine X1 rfl ?_
       apply XK_lazy
       ·rfl
       ·rfl
       ·intro hB; (try simp only [hB, bss, ctt]); exact does_call1 hP (p_state_State_there F a0 ((nth a0.xSlots v33).xCap.xThing) x43 (of_lz x43h (bt hB))) rfl rfl rfl
       apply XQ_lazy 8
       ·rfl
       ·rfl
       ·rfl
       ·rfl
       ·intro hB; (try simp only [hB, bss, ctt]); exact does_not rfl
       apply XQ_lazy 9
       ·rfl
       ·rfl
       ·rfl
       ·rfl
       ·intro hB; (try simp only [hB, bss, ctt]); exact does_mv rfl
       apply XQ_lazy2 10
       ·rfl
       ·rfl
       ·rfl
       ·rfl
       ·intro hA hB; (try simp only [hA, hB, bss, Bool.and_true, Bool.true_and, ctt]); exact does_add_ptr rfl rfl
       apply XQ_lazy2 11
       ·rfl
       ·rfl
       ·rfl
       ·rfl
       ·intro hA hB; (try simp only [hA, hB, bss, Bool.and_true, Bool.true_and, ctt]); exact does_load1_ptr rfl rfl rfl
       apply XQ_lazy2 12
       ·rfl
       ·rfl
       ·rfl
       ·rfl
       ·intro hA hB; (try simp only [hA, hB, bss, Bool.and_true, Bool.true_and, ctt]); exact does_add_ptr rfl rfl
       apply XQ_lazy2 13
       ·rfl
       ·rfl
       ·rfl
       ·rfl
       ·intro hA hB; (try simp only [hA, hB, bss, Bool.and_true, Bool.true_and, ctt]); exact does_load1_ptr rfl rfl rfl
       apply XQ_lazy2 14
       ·rfl
       ·rfl
       ·rfl
       ·rfl
       ·intro hA hB; (try simp only [hA, hB, bss, Bool.and_true, Bool.true_and, ctt]); exact does_idx_sl rfl rfl (g44 hA hB).1 (g44 hA hB).2
       apply XQ_lazy2 15
       ·rfl
       ·rfl
       ·rfl
       ·rfl
       ·intro hA hB; (try simp only [hA, hB, bss, Bool.and_true, Bool.true_and, ctt]); exact does_add_psl rfl
       apply XQ_lazy2 16
       ·rfl
       ·rfl
       ·rfl
       ·rfl
       ·intro hA hB; (try simp only [hA, hB, bss, Bool.and_true, Bool.true_and, ctt]); exact does_load1_slF (k := 13) rfl (fun _ => rfl) (g44 hA hB) 0 rfl rfl
       apply XQ_lazy2 17
       ·rfl
       ·rfl
       ·rfl
       ·rfl
       ·intro hA hB; (try simp only [hA, hB, bss, Bool.and_true, Bool.true_and, ctt]); exact does_add_ptr rfl rfl
       apply XQ_lazy2 18
       ·rfl
       ·rfl
       ·rfl
       ·rfl
       ·intro hA hB; (try simp only [hA, hB, bss, Bool.and_true, Bool.true_and, ctt]); exact does_load1_ptr rfl rfl rfl
       apply XQ_lazy2 19
       ·rfl
       ·rfl
       ·rfl
       ·rfl
       ·intro hA hB; (try simp only [hA, hB, bss, Bool.and_true, Bool.true_and, ctt]); exact does_int rfl rfl rfl
       apply XQ_lazy 20
       ·rfl
       ·rfl
       ·rfl
       ·rfl
       ·intro hB; (try simp only [hB, bss, ctt]); exact does_or rfl rfl rfl
       refine XQ 21 rfl rfl rfl (does_and rfl rfl rfl) ?_
       refine XQ 22 rfl rfl rfl (does_mv rfl) ?_
       refine X_nil rfl ?_
       refine E_keep [1, 7, 8, 9, 35] [1] ?_
       (try dsimp)
       refine E_cond rfl (fun hc45 => ?_) (fun hc45 => ?_)
       ·replace h := of_ct h hc45
        apply E_seq
        apply E_ops
        apply WM
        apply W_nil
        refine E_keep [2] [] ?_
        (try dsimp)
        apply E_ret
        cases h
        (try simp only [qt, qb, qn])
        refine fin_mk (xs := _) ⟨_, rfl, rfl⟩ ?_
        rfl
       ·replace h := of_cf h hc45
        apply E_skip
        refine E_keep [1, 7, 8, 9] [1] ?_
        (try dsimp)
        apply E_ops
        obtain ⟨g46, h⟩ := of_gd h
        refine WQ (does_add rfl rfl g46.1 g46.2) ?_
        apply WM
        apply W_nil
        refine ⟨n34, (v33 + (1 : Int)), Nat.lt_succ_self _, h, ?_⟩
        exact (Le.b (le_mk ⟨rfl, rfl, rfl, rfl, trivial⟩ ⟨rfl, trivial⟩))
     ·
      skip
      apply E_seq
      apply E_ops
      refine WQ (does_loadA_ptr rfl rfl rfl rfl (by decide)) ?_
      obtain ⟨x47, x47h, h⟩ := of_bind h
      refine W1 (does_call1 hP (p_cap_None F ((nth a0.xSlots v33).xCap) x47 x47h) rfl rfl rfl) ?_
      apply WM
      apply W_lazy
      ·rfl
      ·intro hB; (try simp only [hB, bss, ctt]); exact does_add_ptr rfl rfl
      apply W_lazy
      ·rfl
      ·intro hB; (try simp only [hB, bss, ctt]); exact does_load1_ptr rfl rfl rfl
      apply W_lazy
      ·rfl
      ·intro hB; (try simp only [hB, bss, ctt]); exact does_int rfl rfl rfl
      refine WQ (does_and rfl rfl rfl) ?_
      apply WM
      apply W_nil
      refine E_keep [1, 4, 5, 7, 8, 9, 19] [1, 4, 5] ?_
      (try dsimp)
      refine E_cond rfl (fun hc48 => ?_) (fun hc48 => ?_)
      ·replace h := of_ct h hc48
       apply E_skip
       refine ⟨(x47 && ((nth a0.xSlots v33).xUp != (-1 : Int))), h, ?_⟩
       exact (Le.b (le_mk ⟨rfl, rfl, rfl, rfl, rfl, rfl, trivial⟩ ⟨rfl, rfl, trivial⟩))
      ·replace h := of_cf h hc48
       apply E_ops
       refine WQ (does_loadA_ptr rfl rfl rfl rfl (by decide)) ?_
       obtain ⟨x49, x49h, h⟩ := of_bind h
       refine W1 (does_call1 hP (p_cap_None F ((nth a0.xSlots v33).xCap) x49 x49h) rfl rfl rfl) ?_
       refine WQ (does_not rfl) ?_
       apply WM
       apply W_lazy
       ·rfl
       ·intro hB; (try simp only [hB, bss, ctt]); exact does_add_ptr rfl rfl
       apply W_lazy
       ·rfl
       ·intro hB; (try simp only [hB, bss, ctt]); exact does_load1_ptr rfl rfl rfl
       apply W_lazy
       ·rfl
       ·intro hB; (try simp only [hB, bss, ctt]); exact does_int rfl rfl rfl
       refine WQ (does_and rfl rfl rfl) ?_
       apply WM
       apply W_nil
       refine ⟨((!x49) && (decide ((nth a0.xSlots v33).xUp < (-1 : Int)))), h, ?_⟩
       exact (Le.b (le_mk ⟨rfl, rfl, rfl, rfl, rfl, rfl, trivial⟩ ⟨rfl, rfl, trivial⟩))
   ·replace h := of_cf h hc35
    apply E_exit
    refine ⟨(), h, ?_⟩
    exact (Le.b (le_mk trivial trivial))
/- (reeve/state.State).holders -/
def c_state_State_holders : VCode := (.seq (.ops [(o (.box 27 (t 0)) 2), (o (.mv cn) 4)]) (.seq (.ops [(o (.mv cn) 5)]) (.seq (.seq (.ops [(o (.add 3 (t 2)) 8), (o (.load false 1 (t 8)) 9), (o (.len false (t 9)) 10), (o (.mv (ci 0)) 11)]) (.block 0 (.loop (.seq (.ops [(o (.bin .lss 3 (t 11) (t 10)) 12)]) (.seq (.cond (t 12) .skip (.exit 0)) (.seq (.block 1 (.seq (.ops [(w 13 11), (o (.idxS 5 (t 9) (t 11)) 14), (o (.load true 5 (t 14)) 15), (o (.newv [zi, zi, zi, zi, zi]) 7), (w 6 13), (n_ (.store 5 (t 7) (t 15)))]) (.seq (.ops [(o (.add 0 (t 7)) 16), (o (.load true 4 (t 16)) 17), (o (.call 125 [(t 17)]) 18), (o (.un .not (t 18)) 19), (w 20 19), (g_ (.add 0 (t 7)) 21 20 true), (g_ (.add 1 (t 21)) 22 20 true), (g_ (.load false 1 (t 22)) 23 20 true), (g_ (.mv (t 1)) 24 20 true), (g_ (.bin .eql 3 (t 23) (t 24)) 25 20 true), (o (.pick (t 20) (t 25) (cb false)) 26)]) (.cond (t 26) (.ops [(w 27 5), (w 28 6), (o (.bslice 1 3 1 [zi] [(0, (1, (t 28)))]) 29), (o (.app 47 3 1 8 (t 27) (t 29)) 30), (w 5 30)]) .skip)))) (.ops [(o (.bin .add 3 (t 11) (ci 1)) 31), (w 11 31)]))))))) (.seq (.ops [(w 32 5), (w 4 32)]) .ret))))
theorem f_state_State_holders : Fits Tryz.prog 127 2 c_state_State_holders [(.tmp 4)] := fits_mk Tryz.func127 (by kernel_rfl) (by kernel_rfl) (by kernel_rfl)
theorem p_state_State_holders (F : Nat) (a0 : S_state_State) (a1 : Int) (r : (List Int)) (h : m_state_State_holders F a0 a1 = some r) : PC Tryz.prog 127 [S.agg [.v (.int .i64 a0.xGeo.xThreads), .v (.int .i64 a0.xGeo.xSlots), .v (.int .i64 a0.xGeo.xThings), .sl (flat e_S_state_Slot a0.xSlots) a0.xSlots.length, .sl (flat e_S_thing_Thing a0.xThings) a0.xThings.length], S.one (.v (.int .i64 a1))] (S.one (.sl (flat e_i_i64 r) r.length)) := by
 unfold m_state_State_holders at h
 refine PC_go f_state_State_holders rfl rfl ?_
 intro C hP
 unfold c_state_State_holders; dsimp
 apply E_seq
 apply E_ops
 refine W1 (does_box rfl rfl rfl rfl) ?_
 apply WM
 apply W_nil
 refine E_keep [1, 2] [2] ?_
 (try dsimp)
 apply E_seq
 apply E_ops
 apply WM
 apply W_nil
 (try dsimp)
 obtain ⟨k2, k2d, h⟩ := of_jn h
 refine E_seqJ (α := (List Int)) (fun (i : (List Int)) => (⟨[(5, S.one (.own 1030 0 i.length (some (1, 3))))], [(1030, (⟨true, flat e_i_i64 i⟩ : Reg))]⟩ : St)) (fun i => k2 i = some r) (fun i h => ?_) ?_
 ·let iv := i; change k2 i = some r at h; generalize i = v1 at h ⊢
  rw [k2d] at h; dsimp only at h
  (try dsimp)
  apply E_seq
  apply E_ops
  apply WM
  apply WM
  apply W_nil
  refine E_keep [4] [1030] ?_
  (try dsimp)
  refine E_ghost (Le_frz (r := 1030) rfl rfl).b ?_
  (try dsimp)
  apply E_ret
  cases h
  (try simp only [qt, qb, qn])
  refine fin_mk (xs := _) ⟨_, rfl, rfl⟩ ?_
  rfl
 ·
  skip
  apply E_seq
  apply E_ops
  refine WQ (does_add_ptr rfl rfl) ?_
  refine WQ (does_load1_ptr rfl rfl rfl) ?_
  refine WQ (does_len_sl rfl) ?_
  apply WM
  apply W_nil
  refine E_keep [1, 5, 9, 10, 11] [] ?_
  (try dsimp)
  apply E_block
  (try dsimp)
  refine E_loopB (α := Int × (List Int)) (fun (i : Int × (List Int)) => (⟨[(1, S.one (.v (.int .i64 a1))), (5, S.one (.own 1030 0 i.2.length (some (1, 3)))), (9, S.one (.sl (flat e_S_state_Slot a0.xSlots) a0.xSlots.length)), (10, S.one (.v (.int .i64 ((a0.xSlots.length : Nat) : Int)))), (11, S.one (.v (.int .i64 i.1)))], [(1030, (⟨true, flat e_i_i64 i.2⟩ : Reg))]⟩ : St)) (fun n i => m_state_State_holders_l0 F a0 a1 k2 n i.1 i.2 = some r) F ((0 : Int), ([] : List Int)) h ?_ (fun n i h => ?_)
  ·
   refine LeB_trans (LeB_nilown (i := 5) (r := 1030) 1 3 rfl rfl) ?_
   exact (Le.b (le_mk ⟨rfl, rfl, rfl, rfl, rfl, trivial⟩ ⟨rfl, trivial⟩))
  obtain ⟨v21, v22⟩ := i; dsimp only at h
  cases n with
  | zero => cases h
  | succ n23 =>
   unfold m_state_State_holders_l0 at h
   (try dsimp)
   apply E_seq
   apply E_ops
   refine WQ (does_int rfl rfl rfl) ?_
   apply W_nil
   (try dsimp)
   apply E_seq
   refine E_cond rfl (fun hc24 => ?_) (fun hc24 => ?_)
   ·replace h := of_ct h hc24
    apply E_skip
    refine E_keep [1, 5, 9, 10, 11] [1030] ?_
    (try dsimp)
    obtain ⟨k26, k26d, h⟩ := of_jn h
    refine E_seqJ (α := (List Int)) (fun (i : (List Int)) => (⟨[(1, S.one (.v (.int .i64 a1))), (5, S.one (.own 1030 0 i.length (some (1, 3)))), (9, S.one (.sl (flat e_S_state_Slot a0.xSlots) a0.xSlots.length)), (10, S.one (.v (.int .i64 ((a0.xSlots.length : Nat) : Int)))), (11, S.one (.v (.int .i64 v21)))], [(1030, (⟨true, flat e_i_i64 i⟩ : Reg))]⟩ : St)) (fun i => k26 i = some r) (fun i h => ?_) ?_
    ·let iv := i; change k26 i = some r at h; generalize i = v25 at h ⊢
     rw [k26d] at h; dsimp only at h
     (try dsimp)
     apply E_ops
     obtain ⟨g27, h⟩ := of_gd h
     refine WQ (does_add rfl rfl g27.1 g27.2) ?_
     apply WM
     apply W_nil
     refine ⟨n23, ((v21 + (1 : Int)), v25), Nat.lt_succ_self _, h, ?_⟩
     exact (Le.b (le_mk ⟨rfl, rfl, rfl, rfl, rfl, trivial⟩ ⟨rfl, trivial⟩))
    ·
     skip
     apply E_block
     apply E_seq
     apply E_ops
     apply WM
     obtain ⟨g28, h⟩ := of_gd h
     refine WQ (does_idx_sl rfl rfl g28.1 g28.2) ?_
     refine WQ (does_loadA_slF (k := 5) rfl (fun _ => rfl) g28 0 rfl rfl rfl) ?_
     refine W1 (does_newv rfl rfl) ?_
     apply WM
     refine W1 (does_store rfl rfl rfl rfl rfl (Nat.le_of_ble_eq_true rfl) rfl (by decide)) ?_
     apply W_nil
     refine E_keep [1, 5, 6, 7, 9, 10, 11] [7, 1030] ?_
     (try dsimp)
     apply E_seq
     apply E_ops
     refine WQ (does_add_ptr rfl rfl) ?_
     refine WQ (does_loadA_ptr rfl rfl rfl rfl (by decide)) ?_
     obtain ⟨x29, x29h, h⟩ := of_bind h
     refine W1 (does_call1 hP (p_cap_None F ((nth a0.xSlots v21).xCap) x29 x29h) rfl rfl rfl) ?_
     refine WQ (does_not rfl) ?_
     apply WM
     apply W_lazy
     ·rfl
     ·intro hB; (try simp only [hB, bss, ctt]); exact does_add_ptr rfl rfl
     apply W_lazy
     ·rfl
     ·intro hB; (try simp only [hB, bss, ctt]); exact does_add_ptr rfl rfl
     apply W_lazy
     ·rfl
     ·intro hB; (try simp only [hB, bss, ctt]); exact does_load1_ptr rfl rfl rfl
     apply W_lazy
     ·rfl
     ·intro hB; (try simp only [hB, bss, ctt]); exact does_mv rfl
     apply W_lazy
     ·rfl
     ·intro hB; (try simp only [hB, bss, ctt]); exact does_int rfl rfl rfl
     refine WQ (does_and rfl rfl rfl) ?_
     apply W_nil
     refine E_keep [1, 5, 6, 9, 10, 11, 26] [1030] ?_
     (try dsimp)
     refine E_cond rfl (fun hc30 => ?_) (fun hc30 => ?_)
     ·replace h := of_ct h hc30
      apply E_ops
      apply WM
      apply WM
      refine W1 (does_bslice rfl rfl rfl rfl) ?_
      obtain ⟨g31, h⟩ := of_gd h
      refine W1 (does_appF (e := e_i_i64) rfl rfl (fun _ => rfl) (fun _ => rfl) rfl (Src.lit (e := e_i_i64) ([v21] : List Int) rfl (fun _ => rfl) rfl rfl) g31 rfl) ?_
      apply WM
      apply W_nil
      refine ⟨(v22 ++ ([v21] : List Int)), h, ?_⟩
      exact (Le.b (le_mk ⟨rfl, rfl, rfl, rfl, rfl, trivial⟩ ⟨rfl, trivial⟩))
     ·replace h := of_cf h hc30
      apply E_skip
      refine ⟨v22, h, ?_⟩
      exact (Le.b (le_mk ⟨rfl, rfl, rfl, rfl, rfl, trivial⟩ ⟨rfl, trivial⟩))
   ·replace h := of_cf h hc24
    apply E_exit
    refine ⟨v22, h, ?_⟩
    exact (Le.b (le_mk ⟨rfl, trivial⟩ ⟨rfl, trivial⟩))
/- (reeve/state.State).things -/
def c_state_State_things : VCode := (.seq (.ops [(o (.box 27 (t 0)) 1), (o (.mv (cb false)) 2)]) (.seq (.seq (.ops [(o (.add 4 (t 1)) 6), (o (.load false 1 (t 6)) 7), (o (.len false (t 7)) 8), (o (.mv (ci 0)) 9)]) (.block 0 (.loop (.seq (.ops [(o (.bin .lss 3 (t 9) (t 8)) 10)]) (.seq (.cond (t 10) .skip (.exit 0)) (.seq (.block 1 (.seq (.ops [(w 11 9), (o (.idxS 13 (t 7) (t 9)) 12), (o (.load true 13 (t 12)) 13), (o (.newv [zi, zi, zi, zi, zi, zi, zi, zb, zu, zu, zu, zu, zu]) 4), (w 3 11), (n_ (.store 13 (t 4) (t 13)))]) (.seq (.seq (.ops [(o (.load true 13 (t 4)) 14), (o (.call 75 [(t 14)]) 15), (o (.un .not (t 15)) 16)]) (.cond (t 16) (.seq (.ops [(o (.mv (cb false)) 2)]) .ret) .skip)) (.seq (.seq (.ops [(o (.add 5 (t 4)) 17), (o (.load false 1 (t 17)) 18), (o (.bin .gtr 3 (t 18) (ci 0)) 19), (w 20 19), (g_ (.add 5 (t 4)) 21 20 true), (g_ (.load false 1 (t 21)) 22 20 true), (g_ (.add 3 (t 1)) 23 20 true), (g_ (.load false 1 (t 23)) 24 20 true), (g_ (.len false (t 24)) 25 20 true), (g_ (.bin .gtr 3 (t 22) (t 25)) 26 20 true), (g_ (.mv (t 26)) 27 20 true), (g_ (.add 3 (t 1)) 28 27 false), (g_ (.load false 1 (t 28)) 29 27 false), (g_ (.add 5 (t 4)) 30 27 false), (g_ (.load false 1 (t 30)) 31 27 false), (g_ (.bin .sub 3 (t 31) (ci 1)) 32 27 false), (g_ (.idxS 5 (t 29) (t 32)) 33 27 false), (g_ (.add 0 (t 33)) 34 27 false), (g_ (.load true 4 (t 34)) 35 27 false), (g_ (.call 125 [(t 35)]) 36 27 false), (g_ (.pick (t 27) (cb true) (t 36)) 37 20 true), (o (.pick (t 20) (t 37) (cb false)) 38)]) (.cond (t 38) (.seq (.ops [(o (.mv (cb false)) 2)]) .ret) .skip)) (.seq (.ops [(w 39 3), (o (.bin .geq 3 (t 39) (ci 2)) 40), (w 41 40), (g_ (.mv (t 3)) 42 41 true), (g_ (.add 0 (t 1)) 43 41 true), (g_ (.add 0 (t 43)) 44 41 true), (g_ (.load false 1 (t 44)) 45 41 true), (g_ (.bin .add 3 (ci 2) (t 45)) 46 41 true), (g_ (.bin .lss 3 (t 42) (t 46)) 47 41 true), (o (.pick (t 41) (t 47) (cb false)) 48), (w 5 48)]) (.seq (.seq (.draw [((w 49 5), []), ((w 50 49), [0]), ((g_ (.load true 13 (t 4)) 51 50 true), [1]), ((g_ (.add 0 (t 1)) 52 50 true), [1]), ((g_ (.load true 3 (t 52)) 53 50 true), [3, 1]), ((g_ (.mv (t 3)) 54 50 true), [1]), ((g_ (.bin .sub 3 (t 54) (ci 2)) 55 50 true), [5, 1]), ((g_ (.call 39 [(t 53), (t 55)]) 56 50 true), [4, 6, 1, 1]), ((g_ (.build [zi, zi, zi, zi, zi, zi, zi, zb, zu, zu, zu, zu, zu] [(0, (1, (ci 2))), (1, (1, (ci 3))), (2, (1, (t 56)))]) 57 50 true), [7, 1]), ((g_ (.eqA true 104 (t 51) (t 57)) 58 50 true), [2, 8, 1]), ((o (.pick (t 50) (t 58) (cb false)) 59), [1, 9])]) (.cond (t 59) (.seq (.ops [(o (.mv (cb false)) 2)]) .ret) .skip)) (.seq (.ops [(w 60 5), (o (.un .not (t 60)) 61), (w 62 61), (g_ (.add 0 (t 4)) 63 62 true), (g_ (.load false 1 (t 63)) 64 62 true), (g_ (.bin .neq 3 (t 64) (ci 0)) 65 62 true), (o (.pick (t 62) (t 65) (cb false)) 66), (w 67 66), (g_ (.load true 5 (t 1)) 68 67 true), (g_ (.mv (t 3)) 69 67 true), (g_ (.call 127 [(t 68), (t 69)]) 70 67 true), (g_ (.len false (t 70)) 71 67 true), (g_ (.bin .eql 3 (t 71) (ci 0)) 72 67 true), (o (.pick (t 67) (t 72) (cb false)) 73)]) (.cond (t 73) (.seq (.ops [(o (.mv (cb false)) 2)]) .ret) .skip)))))))) (.ops [(o (.bin .add 3 (t 9) (ci 1)) 74), (w 9 74)]))))))) (.seq (.ops [(o (.mv (cb true)) 2)]) .ret)))
theorem f_state_State_things : Fits Tryz.prog 87 1 c_state_State_things [(.tmp 2)] := fits_mk Tryz.func87 (by kernel_rfl) (by kernel_rfl) (by kernel_rfl)
theorem p_state_State_things (F : Nat) (a0 : S_state_State) (r : Bool) (h : m_state_State_things F a0 = some r) : PC Tryz.prog 87 [S.agg [.v (.int .i64 a0.xGeo.xThreads), .v (.int .i64 a0.xGeo.xSlots), .v (.int .i64 a0.xGeo.xThings), .sl (flat e_S_state_Slot a0.xSlots) a0.xSlots.length, .sl (flat e_S_thing_Thing a0.xThings) a0.xThings.length]] (S.one (.v (.bool r))) := by
 unfold m_state_State_things at h
 refine PC_go f_state_State_things rfl rfl ?_
 intro C hP
 unfold c_state_State_things; dsimp
 apply E_seq
 apply E_ops
 refine W1 (does_box rfl rfl rfl rfl) ?_
 apply WM
 apply W_nil
 refine E_keep [1] [1] ?_
 (try dsimp)
 obtain ⟨k1, k1d, h⟩ := of_jn h
 refine E_seqJ (α := Unit) (fun (i : Unit) => (⟨[], []⟩ : St)) (fun i => k1 () = some r) (fun i h => ?_) ?_
 ·skip
  rw [k1d] at h; dsimp only at h
  (try dsimp)
  apply E_seq
  apply E_ops
  apply WM
  apply W_nil
  (try dsimp)
  apply E_ret
  cases h
  (try simp only [qt, qb, qn])
  refine fin_mk (xs := _) ⟨_, rfl, rfl⟩ ?_
  rfl
 ·
  skip
  apply E_seq
  apply E_ops
  refine WQ (does_add_ptr rfl rfl) ?_
  refine WQ (does_load1_ptr rfl rfl rfl) ?_
  refine WQ (does_len_sl rfl) ?_
  apply WM
  apply W_nil
  refine E_keep [1, 7, 8, 9] [1] ?_
  (try dsimp)
  apply E_block
  (try dsimp)
  refine E_loopB (α := Int) (fun (i : Int) => (⟨[(1, S.one (.ptr 1 0)), (7, S.one (.sl (flat e_S_thing_Thing a0.xThings) a0.xThings.length)), (8, S.one (.v (.int .i64 ((a0.xThings.length : Nat) : Int)))), (9, S.one (.v (.int .i64 i)))], [(1, (⟨true, [.v (.int .i64 a0.xGeo.xThreads), .v (.int .i64 a0.xGeo.xSlots), .v (.int .i64 a0.xGeo.xThings), .sl (flat e_S_state_Slot a0.xSlots) a0.xSlots.length, .sl (flat e_S_thing_Thing a0.xThings) a0.xThings.length]⟩ : Reg))]⟩ : St)) (fun n i => m_state_State_things_l0 F a0 k1 n i = some r) F (0 : Int) h ?_ (fun n i h => ?_)
  ·
   exact (Le.b (le_mk ⟨rfl, rfl, rfl, rfl, trivial⟩ ⟨rfl, trivial⟩))
  generalize i = v33 at h ⊢
  cases n with
  | zero => cases h
  | succ n34 =>
   unfold m_state_State_things_l0 at h
   (try dsimp)
   apply E_seq
   apply E_ops
   refine WQ (does_int rfl rfl rfl) ?_
   apply W_nil
   (try dsimp)
   apply E_seq
   refine E_cond rfl (fun hc35 => ?_) (fun hc35 => ?_)
   ·replace h := of_ct h hc35
    apply E_skip
    refine E_keep [1, 7, 8, 9] [1] ?_
    (try dsimp)
    apply E_seq
    apply E_block
    apply E_seq
    apply E_ops
    apply WM
    obtain ⟨g36, h⟩ := of_gd h
    refine WQ (does_idx_sl rfl rfl g36.1 g36.2) ?_
    refine WQ (does_loadA_slF (k := 13) rfl (fun _ => rfl) g36 0 rfl rfl rfl) ?_
    refine W1 (does_newv rfl rfl) ?_
    apply WM
    refine W1 (does_store rfl rfl rfl rfl rfl (Nat.le_of_ble_eq_true rfl) rfl (by decide)) ?_
    apply W_nil
    refine E_keep [1, 3, 4, 7, 8, 9] [1, 4] ?_
    (try dsimp)
    apply E_seq
    apply E_seq
    apply E_ops
    refine WQ (does_loadA_ptr rfl rfl rfl rfl (by decide)) ?_
    obtain ⟨x37, x37h, h⟩ := of_bind h
    refine W1 (does_call1 hP (p_thing_Good F (nth a0.xThings v33) x37 x37h) rfl rfl rfl) ?_
    refine WQ (does_not rfl) ?_
    apply W_nil
    refine E_keep [1, 3, 4, 7, 8, 9, 16] [1, 4] ?_
    (try dsimp)
    refine E_cond rfl (fun hc38 => ?_) (fun hc38 => ?_)
    ·replace h := of_ct h hc38
     apply E_seq
     apply E_ops
     apply WM
     apply W_nil
     refine E_keep [2] [] ?_
     (try dsimp)
     apply E_ret
     cases h
     (try simp only [qt, qb, qn])
     refine fin_mk (xs := _) ⟨_, rfl, rfl⟩ ?_
     rfl
    ·replace h := of_cf h hc38
     apply E_skip
     refine E_keep [1, 3, 4, 7, 8, 9] [1, 4] ?_
     (try dsimp)
     apply E_seq
     apply E_seq
     apply E_ops
     refine WQ (does_add_ptr rfl rfl) ?_
     refine WQ (does_load1_ptr rfl rfl rfl) ?_
     refine WQ (does_int rfl rfl rfl) ?_
     apply WM
     apply W_lazy
     ·rfl
     ·intro hB; (try simp only [hB, bss, ctt]); exact does_add_ptr rfl rfl
     apply W_lazy
     ·rfl
     ·intro hB; (try simp only [hB, bss, ctt]); exact does_load1_ptr rfl rfl rfl
     apply W_lazy
     ·rfl
     ·intro hB; (try simp only [hB, bss, ctt]); exact does_add_ptr rfl rfl
     apply W_lazy
     ·rfl
     ·intro hB; (try simp only [hB, bss, ctt]); exact does_load1_ptr rfl rfl rfl
     apply W_lazy
     ·rfl
     ·intro hB; (try simp only [hB, bss, ctt]); exact does_len_sl rfl
     apply W_lazy
     ·rfl
     ·intro hB; (try simp only [hB, bss, ctt]); exact does_int rfl rfl rfl
     apply W_lazy
     ·rfl
     ·intro hB; (try simp only [hB, bss, ctt]); exact does_mv rfl
     apply W_lazy2
     ·rfl
     ·intro hA hB; (try simp only [hA, hB, bss, Bool.and_true, Bool.true_and, ctt]); exact (does_add_ptr rfl rfl).does
     apply W_lazy2
     ·rfl
     ·intro hA hB; (try simp only [hA, hB, bss, Bool.and_true, Bool.true_and, ctt]); exact (does_load1_ptr rfl rfl rfl).does
     apply W_lazy2
     ·rfl
     ·intro hA hB; (try simp only [hA, hB, bss, Bool.and_true, Bool.true_and, ctt]); exact (does_add_ptr rfl rfl).does
     apply W_lazy2
     ·rfl
     ·intro hA hB; (try simp only [hA, hB, bss, Bool.and_true, Bool.true_and, ctt]); exact (does_load1_ptr rfl rfl rfl).does
     obtain ⟨g39, h⟩ := of_gd h
     apply W_lazy2
     ·rfl
     ·intro hA hB; (try simp only [hA, hB, bss, Bool.and_true, Bool.true_and, ctt]); exact (does_sub rfl rfl (g39 hA hB).1 (g39 hA hB).2).does
     obtain ⟨g40, h⟩ := of_gd h
     apply W_lazy2
     ·rfl
     ·intro hA hB; (try simp only [hA, hB, bss, Bool.and_true, Bool.true_and, ctt]); exact (does_idx_sl rfl rfl (g40 hA hB).1 (g40 hA hB).2).does
     apply W_lazy2
     ·rfl
     ·intro hA hB; (try simp only [hA, hB, bss, Bool.and_true, Bool.true_and, ctt]); exact (does_add_psl rfl).does
     apply W_lazy2
     ·rfl
     ·intro hA hB; (try simp only [hA, hB, bss, Bool.and_true, Bool.true_and, ctt]); exact (does_loadA_slF (k := 5) rfl (fun _ => rfl) (g40 hA hB) 0 rfl rfl rfl).does
     obtain ⟨x41, x41h, h⟩ := of_bind h
     apply W_lazy2
     ·rfl
     ·intro hA hB; (try simp only [hA, hB, bss, Bool.and_true, Bool.true_and, ctt]); exact does_call1 hP (p_cap_None F ((nth a0.xSlots ((nth a0.xThings v33).xFrom - (1 : Int))).xCap) x41 (of_lz x41h (bt2 hA hB))) rfl rfl rfl
     apply W_lazy
     ·rfl
     ·intro hB; (try simp only [hB, bss, ctt]); exact does_or rfl rfl rfl
     refine WQ (does_and rfl rfl rfl) ?_
     apply W_nil
     refine E_keep [1, 3, 4, 7, 8, 9, 38] [1, 4] ?_
     (try dsimp)
     refine E_cond rfl (fun hc42 => ?_) (fun hc42 => ?_)
     ·replace h := of_ct h hc42
      apply E_seq
      apply E_ops
      apply WM
      apply W_nil
      refine E_keep [2] [] ?_
      (try dsimp)
      apply E_ret
      cases h
      (try simp only [qt, qb, qn])
      refine fin_mk (xs := _) ⟨_, rfl, rfl⟩ ?_
      rfl
     ·replace h := of_cf h hc42
      apply E_skip
      refine E_keep [1, 3, 4, 7, 8, 9] [1, 4] ?_
      (try dsimp)
      apply E_seq
      apply E_ops
      apply WM
      refine WQ (does_int rfl rfl rfl) ?_
      apply WM
      apply W_lazy
      ·rfl
      ·intro hB; (try simp only [hB, bss, ctt]); exact does_mv rfl
      apply W_lazy
      ·rfl
      ·intro hB; (try simp only [hB, bss, ctt]); exact does_add_ptr rfl rfl
      apply W_lazy
      ·rfl
      ·intro hB; (try simp only [hB, bss, ctt]); exact does_add_ptr rfl rfl
      apply W_lazy
      ·rfl
      ·intro hB; (try simp only [hB, bss, ctt]); exact does_load1_ptr rfl rfl rfl
      obtain ⟨g43, h⟩ := of_gd h
      apply W_lazy
      ·rfl
      ·intro hB; (try simp only [hB, bss, ctt]); exact does_add rfl rfl (g43 hB).1 (g43 hB).2
      apply W_lazy
      ·rfl
      ·intro hB; (try simp only [hB, bss, ctt]); exact does_int rfl rfl rfl
      refine WQ (does_and rfl rfl rfl) ?_
      apply WM
      apply W_nil
      refine E_keep [1, 3, 4, 5, 7, 8, 9] [1, 4] ?_
      (try dsimp)
      apply E_seq
      apply E_seq
      obtain ⟨g44, h⟩ := of_gd h
      obtain ⟨x45, x45h, h⟩ := of_bind h
      refine E_draw [0, 1, 2, 3, 4, 5, 6, 8, 9, 10] ?_
      refine XQ 0 rfl rfl rfl (does_mv rfl) ?_
      refine XQ 1 rfl rfl rfl (does_mv rfl) ?_
      apply XQ_lazy 2
      ·rfl
      ·rfl
      ·rfl
      ·rfl
      ·intro hB; (try simp only [hB, bss, ctt]); exact does_loadA_ptr rfl rfl rfl rfl (by decide)
      apply XQ_lazy 3
      ·rfl
      ·rfl
      ·rfl
      ·rfl
      ·intro hB; (try simp only [hB, bss, ctt]); exact does_add_ptr rfl rfl
      apply XQ_lazy 4
      ·rfl
      ·rfl
      ·rfl
      ·rfl
      ·intro hB; (try simp only [hB, bss, ctt]); exact does_loadA_ptr rfl rfl rfl rfl (by decide)
      apply XQ_lazy 5
      ·rfl
      ·rfl
      ·rfl
      ·rfl
      ·intro hB; (try simp only [hB, bss, ctt]); exact does_mv rfl
      apply XQ_lazy 6
      ·rfl
      ·rfl
      ·rfl
      ·rfl
      ·intro hB; (try simp only [hB, bss, ctt]); exact does_sub rfl rfl (g44 hB).1 (g44 hB).2
      (try dsimp)
      refine X1 rfl ?_
      apply XK_lazy
      ·rfl
      ·rfl
      ·intro hB; (try simp only [hB, bss, ctt]); exact does_call1 hP (p_geo_Root F a0.xGeo (v33 - (2 : Int)) x45 (of_lz x45h (bt hB))) rfl rfl rfl
      apply XQ_lazy 8
      ·rfl
      ·rfl
      ·rfl
      ·rfl
      ·intro hB; (try simp only [hB, bss, ctt]); exact does_build rfl rfl
      apply XQ_lazy 9
      ·rfl
      ·rfl
      ·rfl
      ·rfl
      ·intro hB; (try simp only [hB, bss, ctt]); exact does_eqA hP eqok104 rfl rfl rfl rfl ⟨rfl, ⟨rfl, ⟨rfl, ⟨rfl, ⟨rfl, ⟨rfl, ⟨rfl, ⟨trivial, ⟨rfl, ⟨rfl, ⟨rfl, ⟨rfl, ⟨rfl, trivial⟩⟩⟩⟩⟩⟩⟩⟩⟩⟩⟩⟩⟩
      refine XQ 10 rfl rfl rfl (does_and rfl rfl rfl) ?_
      refine X_nil rfl ?_
      refine E_keep [1, 3, 4, 5, 7, 8, 9, 59] [1, 4] ?_
      (try dsimp)
      refine E_cond rfl (fun hc46 => ?_) (fun hc46 => ?_)
      ·replace h := of_ct h hc46
       apply E_seq
       apply E_ops
       apply WM
       apply W_nil
       refine E_keep [2] [] ?_
       (try dsimp)
       apply E_ret
       cases h
       (try simp only [qt, qb, qn])
       refine fin_mk (xs := _) ⟨_, rfl, rfl⟩ ?_
       rfl
      ·replace h := of_cf h hc46
       apply E_skip
       refine E_keep [1, 3, 4, 5, 7, 8, 9] [1, 4] ?_
       (try dsimp)
       apply E_seq
       apply E_ops
       apply WM
       refine WQ (does_not rfl) ?_
       apply WM
       apply W_lazy
       ·rfl
       ·intro hB; (try simp only [hB, bss, ctt]); exact does_add_ptr rfl rfl
       apply W_lazy
       ·rfl
       ·intro hB; (try simp only [hB, bss, ctt]); exact does_load1_ptr rfl rfl rfl
       apply W_lazy
       ·rfl
       ·intro hB; (try simp only [hB, bss, ctt]); exact does_int rfl rfl rfl
       refine WQ (does_and rfl rfl rfl) ?_
       apply WM
       apply W_lazy
       ·rfl
       ·intro hB; (try simp only [hB, bss, ctt]); exact does_loadA_ptr rfl rfl rfl rfl (by decide)
       apply W_lazy
       ·rfl
       ·intro hB; (try simp only [hB, bss, ctt]); exact does_mv rfl
       obtain ⟨x47, x47h, h⟩ := of_bind h
       apply W_lazyD
       ·rfl
       ·intro hB; (try simp only [hB, bss, ctt]); exact does_call1 hP (p_state_State_holders F a0 v33 x47 (of_lz x47h (bt hB))) rfl rfl rfl
       apply W_lazy
       ·rfl
       ·intro hB; (try simp only [hB, bss, ctt]); exact does_len_sl rfl
       apply W_lazy
       ·rfl
       ·intro hB; (try simp only [hB, bss, ctt]); exact does_int rfl rfl rfl
       refine WQ (does_and rfl rfl rfl) ?_
       apply W_nil
       refine E_keep [1, 7, 8, 9, 73] [1] ?_
       (try dsimp)
       refine E_cond rfl (fun hc48 => ?_) (fun hc48 => ?_)
       ·replace h := of_ct h hc48
        apply E_seq
        apply E_ops
        apply WM
        apply W_nil
        refine E_keep [2] [] ?_
        (try dsimp)
        apply E_ret
        cases h
        (try simp only [qt, qb, qn])
        refine fin_mk (xs := _) ⟨_, rfl, rfl⟩ ?_
        rfl
       ·replace h := of_cf h hc48
        apply E_skip
        refine E_keep [1, 7, 8, 9] [1] ?_
        (try dsimp)
        apply E_ops
        obtain ⟨g49, h⟩ := of_gd h
        refine WQ (does_add rfl rfl g49.1 g49.2) ?_
        apply WM
        apply W_nil
        refine ⟨n34, (v33 + (1 : Int)), Nat.lt_succ_self _, h, ?_⟩
        exact (Le.b (le_mk ⟨rfl, rfl, rfl, rfl, trivial⟩ ⟨rfl, trivial⟩))
   ·replace h := of_cf h hc35
    apply E_exit
    refine ⟨(), h, ?_⟩
    exact (Le.b (le_mk trivial trivial))
/- (reeve/state.State).nodes -/
def c_state_State_nodes : VCode := (.seq (.ops [(o (.box 27 (t 0)) 1), (o (.mv (cb false)) 2)]) (.seq (.ops [(o (.add 3 (t 1)) 10), (o (.load false 1 (t 10)) 11), (o (.len false (t 11)) 12), (o (.mk 208 4 1 1 [zb] (t 12) (t 12)) 13), (w 3 13)]) (.seq (.seq (.ops [(o (.add 4 (t 1)) 14), (o (.load false 1 (t 14)) 15), (o (.len false (t 15)) 16), (o (.mv (ci 0)) 17)]) (.block 0 (.loop (.seq (.ops [(o (.bin .lss 3 (t 17) (t 16)) 18)]) (.seq (.cond (t 18) .skip (.exit 0)) (.seq (.block 1 (.seq (.ops [(o (.idxS 13 (t 15) (t 17)) 19), (o (.load true 13 (t 19)) 20), (o (.newv [zi, zi, zi, zi, zi, zi, zi, zb, zu, zu, zu, zu, zu]) 5), (n_ (.store 13 (t 5) (t 20)))]) (.seq (.seq (.ops [(o (.add 0 (t 5)) 21), (o (.load false 1 (t 21)) 22), (o (.bin .neq 3 (t 22) (ci 2)) 23)]) (.cond (t 23) (.exit 1) .skip)) (.seq (.ops [(o (.add 1 (t 5)) 24), (o (.load false 1 (t 24)) 25), (o (.bin .shl 3 (ci 1) (t 25)) 26), (o (.mv (ci 0)) 27)]) (.block 2 (.loop (.seq (.ops [(o (.bin .lss 3 (t 27) (t 26)) 28)]) (.seq (.cond (t 28) .skip (.exit 2)) (.seq (.block 3 (.seq (.ops [(w 29 27), (w 6 29)]) (.seq (.ops [(o (.add 2 (t 5)) 30), (o (.load false 1 (t 30)) 31), (w 32 6), (o (.bin .add 3 (t 31) (t 32)) 33), (w 7 33)]) (.seq (.seq (.ops [(w 34 7), (w 35 3), (o (.len false (t 35)) 36), (o (.bin .geq 3 (t 34) (t 36)) 37), (w 38 37), (g_ (.mv (t 3)) 39 38 false), (g_ (.mv (t 7)) 40 38 false), (g_ (.idxS 1 (t 39) (t 40)) 41 38 false), (g_ (.load false 1 (t 41)) 42 38 false), (o (.pick (t 38) (cb true) (t 42)) 43)]) (.cond (t 43) (.seq (.ops [(o (.mv (cb false)) 2)]) .ret) .skip)) (.ops [(w 44 3), (w 45 7), (o (.idxS 1 (t 44) (t 45)) 46), (n_ (.store 1 (t 46) (cb true)))]))))) (.ops [(o (.bin .add 3 (t 27) (ci 1)) 47), (w 27 47)])))))))))) (.ops [(o (.bin .add 3 (t 17) (ci 1)) 48), (w 17 48)]))))))) (.seq (.seq (.ops [(o (.add 3 (t 1)) 49), (o (.load false 1 (t 49)) 50), (o (.len false (t 50)) 51), (o (.mv (ci 0)) 52)]) (.block 4 (.loop (.seq (.ops [(o (.bin .lss 3 (t 52) (t 51)) 53)]) (.seq (.cond (t 53) .skip (.exit 4)) (.seq (.block 5 (.seq (.ops [(w 54 52), (o (.idxS 5 (t 50) (t 52)) 55), (o (.load true 5 (t 55)) 56), (o (.newv [zi, zi, zi, zi, zi]) 9), (w 8 54), (n_ (.store 5 (t 9) (t 56)))]) (.seq (.ops [(w 57 3), (w 58 8), (o (.idxS 1 (t 57) (t 58)) 59), (o (.load false 1 (t 59)) 60), (o (.un .not (t 60)) 61), (w 62 61), (g_ (.add 0 (t 9)) 63 62 true), (g_ (.load true 4 (t 63)) 64 62 true), (g_ (.call 125 [(t 64)]) 65 62 true), (g_ (.un .not (t 65)) 66 62 true), (o (.pick (t 62) (t 66) (cb false)) 67)]) (.cond (t 67) (.seq (.ops [(o (.mv (cb false)) 2)]) .ret) .skip)))) (.ops [(o (.bin .add 3 (t 52) (ci 1)) 68), (w 52 68)]))))))) (.seq (.ops [(o (.mv (cb true)) 2)]) .ret)))))
theorem f_state_State_nodes : Fits Tryz.prog 88 1 c_state_State_nodes [(.tmp 2)] := fits_mk Tryz.func88 (by kernel_rfl) (by kernel_rfl) (by kernel_rfl)
theorem p_state_State_nodes (F : Nat) (a0 : S_state_State) (r : Bool) (h : m_state_State_nodes F a0 = some r) : PC Tryz.prog 88 [S.agg [.v (.int .i64 a0.xGeo.xThreads), .v (.int .i64 a0.xGeo.xSlots), .v (.int .i64 a0.xGeo.xThings), .sl (flat e_S_state_Slot a0.xSlots) a0.xSlots.length, .sl (flat e_S_thing_Thing a0.xThings) a0.xThings.length]] (S.one (.v (.bool r))) := by
 unfold m_state_State_nodes at h
 refine PC_go f_state_State_nodes rfl rfl ?_
 intro C hP
 unfold c_state_State_nodes; dsimp
 apply E_seq
 apply E_ops
 refine W1 (does_box rfl rfl rfl rfl) ?_
 apply WM
 apply W_nil
 refine E_keep [1] [1] ?_
 (try dsimp)
 apply E_seq
 apply E_ops
 refine WQ (does_add_ptr rfl rfl) ?_
 refine WQ (does_load1_ptr rfl rfl rfl) ?_
 refine WQ (does_len_sl rfl) ?_
 obtain ⟨g1, h⟩ := of_gd h
 refine W1 (does_mkF (e := e_bool) false rfl rfl rfl (fun _ => rfl) g1.1 g1.2.1 g1.2.2.1 g1.2.2.2 rfl) ?_
 apply WM
 apply W_nil
 refine E_keep [1, 3] [1, 13] ?_
 (try dsimp)
 obtain ⟨k3, k3d, h⟩ := of_jn h
 refine E_seqJ (α := (List Bool)) (fun (i : (List Bool)) => (⟨[(1, S.one (.ptr 1 0)), (3, S.one (.own 13 0 i.length (some (1, 4))))], [(1, (⟨true, [.v (.int .i64 a0.xGeo.xThreads), .v (.int .i64 a0.xGeo.xSlots), .v (.int .i64 a0.xGeo.xThings), .sl (flat e_S_state_Slot a0.xSlots) a0.xSlots.length, .sl (flat e_S_thing_Thing a0.xThings) a0.xThings.length]⟩ : Reg)), (13, (⟨true, flat e_bool i⟩ : Reg))]⟩ : St)) (fun i => k3 i = some r) (fun i h => ?_) ?_
 ·let iv := i; change k3 i = some r at h; generalize i = v2 at h ⊢
  rw [k3d] at h; dsimp only at h
  (try dsimp)
  obtain ⟨k4, k4d, h⟩ := of_jn h
  refine E_seqJ (α := Unit) (fun (i : Unit) => (⟨[], []⟩ : St)) (fun i => k4 () = some r) (fun i h => ?_) ?_
  ·skip
   rw [k4d] at h; dsimp only at h
   (try dsimp)
   apply E_seq
   apply E_ops
   apply WM
   apply W_nil
   (try dsimp)
   apply E_ret
   cases h
   (try simp only [qt, qb, qn])
   refine fin_mk (xs := _) ⟨_, rfl, rfl⟩ ?_
   rfl
  ·
   skip
   apply E_seq
   apply E_ops
   refine WQ (does_add_ptr rfl rfl) ?_
   refine WQ (does_load1_ptr rfl rfl rfl) ?_
   refine WQ (does_len_sl rfl) ?_
   apply WM
   apply W_nil
   refine E_keep [3, 50, 51, 52] [13] ?_
   (try dsimp)
   apply E_block
   (try dsimp)
   refine E_loopB (α := Int) (fun (i : Int) => (⟨[(3, S.one (.own 13 0 v2.length (some (1, 4)))), (50, S.one (.sl (flat e_S_state_Slot a0.xSlots) a0.xSlots.length)), (51, S.one (.v (.int .i64 ((a0.xSlots.length : Nat) : Int)))), (52, S.one (.v (.int .i64 i)))], [(13, (⟨true, flat e_bool v2⟩ : Reg))]⟩ : St)) (fun n i => m_state_State_nodes_l0 F a0 v2 k4 n i = some r) F (0 : Int) h ?_ (fun n i h => ?_)
   ·
    exact (Le.b (le_mk ⟨rfl, rfl, rfl, rfl, trivial⟩ ⟨rfl, trivial⟩))
   generalize i = v18 at h ⊢
   cases n with
   | zero => cases h
   | succ n19 =>
    unfold m_state_State_nodes_l0 at h
    (try dsimp)
    apply E_seq
    apply E_ops
    refine WQ (does_int rfl rfl rfl) ?_
    apply W_nil
    (try dsimp)
    apply E_seq
    refine E_cond rfl (fun hc20 => ?_) (fun hc20 => ?_)
    ·replace h := of_ct h hc20
     apply E_skip
     refine E_keep [3, 50, 51, 52] [13] ?_
     (try dsimp)
     apply E_seq
     apply E_block
     apply E_seq
     apply E_ops
     apply WM
     obtain ⟨g21, h⟩ := of_gd h
     refine WQ (does_idx_sl rfl rfl g21.1 g21.2) ?_
     refine WQ (does_loadA_slF (k := 5) rfl (fun _ => rfl) g21 0 rfl rfl rfl) ?_
     refine W1 (does_newv rfl rfl) ?_
     apply WM
     refine W1 (does_store rfl rfl rfl rfl rfl (Nat.le_of_ble_eq_true rfl) rfl (by decide)) ?_
     apply W_nil
     refine E_keep [3, 8, 9, 50, 51, 52] [9, 13] ?_
     (try dsimp)
     apply E_seq
     apply E_ops
     apply WM
     apply WM
     obtain ⟨g22, h⟩ := of_gd h
     refine WQ (does_idx_own rfl rfl rfl g22.1 g22.2) ?_
     refine WQ (does_load1_rgF (k := 1) rfl rfl (fun _ => rfl) g22 0 (by omega) rfl) ?_
     refine WQ (does_not rfl) ?_
     apply WM
     apply W_lazy
     ·rfl
     ·intro hB; (try simp only [hB, bss, ctt]); exact does_add_ptr rfl rfl
     apply W_lazy
     ·rfl
     ·intro hB; (try simp only [hB, bss, ctt]); exact does_loadA_ptr rfl rfl rfl rfl (by decide)
     obtain ⟨x23, x23h, h⟩ := of_bind h
     apply W_lazyD
     ·rfl
     ·intro hB; (try simp only [hB, bss, ctt]); exact does_call1 hP (p_cap_None F ((nth a0.xSlots v18).xCap) x23 (of_lz x23h (bt hB))) rfl rfl rfl
     apply W_lazy
     ·rfl
     ·intro hB; (try simp only [hB, bss, ctt]); exact does_not rfl
     refine WQ (does_and rfl rfl rfl) ?_
     apply W_nil
     refine E_keep [3, 50, 51, 52, 67] [13] ?_
     (try dsimp)
     refine E_cond rfl (fun hc24 => ?_) (fun hc24 => ?_)
     ·replace h := of_ct h hc24
      apply E_seq
      apply E_ops
      apply WM
      apply W_nil
      refine E_keep [2] [] ?_
      (try dsimp)
      apply E_ret
      cases h
      (try simp only [qt, qb, qn])
      refine fin_mk (xs := _) ⟨_, rfl, rfl⟩ ?_
      rfl
     ·replace h := of_cf h hc24
      apply E_skip
      refine E_keep [3, 50, 51, 52] [13] ?_
      (try dsimp)
      apply E_ops
      obtain ⟨g25, h⟩ := of_gd h
      refine WQ (does_add rfl rfl g25.1 g25.2) ?_
      apply WM
      apply W_nil
      refine ⟨n19, (v18 + (1 : Int)), Nat.lt_succ_self _, h, ?_⟩
      exact (Le.b (le_mk ⟨rfl, rfl, rfl, rfl, trivial⟩ ⟨rfl, trivial⟩))
    ·replace h := of_cf h hc20
     apply E_exit
     refine ⟨(), h, ?_⟩
     exact (Le.b (le_mk trivial trivial))
 ·
  skip
  apply E_seq
  apply E_ops
  refine WQ (does_add_ptr rfl rfl) ?_
  refine WQ (does_load1_ptr rfl rfl rfl) ?_
  refine WQ (does_len_sl rfl) ?_
  apply WM
  apply W_nil
  refine E_keep [1, 3, 15, 16, 17] [1, 13] ?_
  (try dsimp)
  apply E_block
  (try dsimp)
  refine E_loopB (α := Int × (List Bool)) (fun (i : Int × (List Bool)) => (⟨[(1, S.one (.ptr 1 0)), (3, S.one (.own 13 0 i.2.length (some (1, 4)))), (15, S.one (.sl (flat e_S_thing_Thing a0.xThings) a0.xThings.length)), (16, S.one (.v (.int .i64 ((a0.xThings.length : Nat) : Int)))), (17, S.one (.v (.int .i64 i.1)))], [(1, (⟨true, [.v (.int .i64 a0.xGeo.xThreads), .v (.int .i64 a0.xGeo.xSlots), .v (.int .i64 a0.xGeo.xThings), .sl (flat e_S_state_Slot a0.xSlots) a0.xSlots.length, .sl (flat e_S_thing_Thing a0.xThings) a0.xThings.length]⟩ : Reg)), (13, (⟨true, flat e_bool i.2⟩ : Reg))]⟩ : St)) (fun n i => m_state_State_nodes_l1 F a0 k3 n i.1 i.2 = some r) F ((0 : Int), (List.replicate ((a0.xSlots.length : Nat) : Int).toNat false)) h ?_ (fun n i h => ?_)
  ·
   exact (Le.b (le_mk ⟨rfl, rfl, rfl, rfl, rfl, trivial⟩ ⟨rfl, rfl, trivial⟩))
  obtain ⟨v88, v89⟩ := i; dsimp only at h
  cases n with
  | zero => cases h
  | succ n90 =>
   unfold m_state_State_nodes_l1 at h
   (try dsimp)
   apply E_seq
   apply E_ops
   refine WQ (does_int rfl rfl rfl) ?_
   apply W_nil
   (try dsimp)
   apply E_seq
   refine E_cond rfl (fun hc91 => ?_) (fun hc91 => ?_)
   ·replace h := of_ct h hc91
    apply E_skip
    refine E_keep [1, 3, 15, 16, 17] [1, 13] ?_
    (try dsimp)
    obtain ⟨k93, k93d, h⟩ := of_jn h
    refine E_seqJ (α := (List Bool)) (fun (i : (List Bool)) => (⟨[(1, S.one (.ptr 1 0)), (3, S.one (.own 13 0 i.length (some (1, 4)))), (15, S.one (.sl (flat e_S_thing_Thing a0.xThings) a0.xThings.length)), (16, S.one (.v (.int .i64 ((a0.xThings.length : Nat) : Int)))), (17, S.one (.v (.int .i64 v88)))], [(1, (⟨true, [.v (.int .i64 a0.xGeo.xThreads), .v (.int .i64 a0.xGeo.xSlots), .v (.int .i64 a0.xGeo.xThings), .sl (flat e_S_state_Slot a0.xSlots) a0.xSlots.length, .sl (flat e_S_thing_Thing a0.xThings) a0.xThings.length]⟩ : Reg)), (13, (⟨true, flat e_bool i⟩ : Reg))]⟩ : St)) (fun i => k93 i = some r) (fun i h => ?_) ?_
    ·let iv := i; change k93 i = some r at h; generalize i = v92 at h ⊢
     rw [k93d] at h; dsimp only at h
     (try dsimp)
     apply E_ops
     obtain ⟨g94, h⟩ := of_gd h
     refine WQ (does_add rfl rfl g94.1 g94.2) ?_
     apply WM
     apply W_nil
     refine ⟨n90, ((v88 + (1 : Int)), v92), Nat.lt_succ_self _, h, ?_⟩
     exact (Le.b (le_mk ⟨rfl, rfl, rfl, rfl, rfl, trivial⟩ ⟨rfl, rfl, trivial⟩))
    ·
     skip
     apply E_block
     apply E_seq
     apply E_ops
     obtain ⟨g95, h⟩ := of_gd h
     refine WQ (does_idx_sl rfl rfl g95.1 g95.2) ?_
     refine WQ (does_loadA_slF (k := 13) rfl (fun _ => rfl) g95 0 rfl rfl rfl) ?_
     refine W1 (does_newv rfl rfl) ?_
     refine W1 (does_store rfl rfl rfl rfl rfl (Nat.le_of_ble_eq_true rfl) rfl (by decide)) ?_
     apply W_nil
     refine E_keep [1, 3, 5, 15, 16, 17] [1, 5, 13] ?_
     (try dsimp)
     apply E_seq
     apply E_seq
     apply E_ops
     refine WQ (does_add_ptr rfl rfl) ?_
     refine WQ (does_load1_ptr rfl rfl rfl) ?_
     refine WQ (does_int rfl rfl rfl) ?_
     apply W_nil
     refine E_keep [1, 3, 5, 15, 16, 17, 23] [1, 5, 13] ?_
     (try dsimp)
     refine E_cond rfl (fun hc96 => ?_) (fun hc96 => ?_)
     ·replace h := of_ct h hc96
      apply E_exit
      refine ⟨v89, h, ?_⟩
      exact (Le.b (le_mk ⟨rfl, rfl, rfl, rfl, rfl, trivial⟩ ⟨rfl, rfl, trivial⟩))
     ·replace h := of_cf h hc96
      apply E_skip
      refine E_keep [1, 3, 5, 15, 16, 17] [1, 5, 13] ?_
      (try dsimp)
      apply E_seq
      apply E_ops
      refine WQ (does_add_ptr rfl rfl) ?_
      refine WQ (does_load1_ptr rfl rfl rfl) ?_
      obtain ⟨g97, h⟩ := of_gd h
      refine WQ (does_shl rfl rfl g97) ?_
      apply WM
      apply W_nil
      refine E_keep [1, 3, 5, 15, 16, 17, 26, 27] [1, 5, 13] ?_
      (try dsimp)
      apply E_block
      (try dsimp)
      refine E_loopB (α := Int × (List Bool)) (fun (i : Int × (List Bool)) => (⟨[(1, S.one (.ptr 1 0)), (3, S.one (.own 13 0 i.2.length (some (1, 4)))), (5, S.one (.ptr 5 0)), (15, S.one (.sl (flat e_S_thing_Thing a0.xThings) a0.xThings.length)), (16, S.one (.v (.int .i64 ((a0.xThings.length : Nat) : Int)))), (17, S.one (.v (.int .i64 v88))), (26, S.one (.v (.int .i64 (ishl .i64 (1 : Int) ((nth a0.xThings v88).xBits))))), (27, S.one (.v (.int .i64 i.1)))], [(1, (⟨true, [.v (.int .i64 a0.xGeo.xThreads), .v (.int .i64 a0.xGeo.xSlots), .v (.int .i64 a0.xGeo.xThings), .sl (flat e_S_state_Slot a0.xSlots) a0.xSlots.length, .sl (flat e_S_thing_Thing a0.xThings) a0.xThings.length]⟩ : Reg)), (5, (⟨true, [.v (.int .i64 (nth a0.xThings v88).xType), .v (.int .i64 (nth a0.xThings v88).xBits), .v (.int .i64 (nth a0.xThings v88).xBase), .v (.int .i64 (nth a0.xThings v88).xSize), .v (.int .i64 (nth a0.xThings v88).xUsed), .v (.int .i64 (nth a0.xThings v88).xFrom), .v (.int .i64 (nth a0.xThings v88).xBadge), .v (.bool (nth a0.xThings v88).xFull), .v (.int .u64 (nth a0.xThings v88).xWord), .v (.int .u64 (nth a0.xThings v88).xData.c0), .v (.int .u64 (nth a0.xThings v88).xData.c1), .v (.int .u64 (nth a0.xThings v88).xData.c2), .v (.int .u64 (nth a0.xThings v88).xData.c3)]⟩ : Reg)), (13, (⟨true, flat e_bool i.2⟩ : Reg))]⟩ : St)) (fun n i => m_state_State_nodes_l2 F a0 v88 k93 n i.1 i.2 = some r) F ((0 : Int), v89) h ?_ (fun n i h => ?_)
      ·
       exact (Le.b (le_mk ⟨rfl, rfl, rfl, rfl, rfl, rfl, rfl, rfl, trivial⟩ ⟨rfl, rfl, rfl, trivial⟩))
      obtain ⟨v112, v113⟩ := i; dsimp only at h
      cases n with
      | zero => cases h
      | succ n114 =>
       unfold m_state_State_nodes_l2 at h
       (try dsimp)
       apply E_seq
       apply E_ops
       refine WQ (does_int rfl rfl rfl) ?_
       apply W_nil
       (try dsimp)
       apply E_seq
       refine E_cond rfl (fun hc115 => ?_) (fun hc115 => ?_)
       ·replace h := of_ct h hc115
        apply E_skip
        refine E_keep [1, 3, 5, 15, 16, 17, 26, 27] [1, 5, 13] ?_
        (try dsimp)
        apply E_seq
        apply E_block
        apply E_seq
        apply E_ops
        apply WM
        apply WM
        apply W_nil
        refine E_keep [1, 3, 5, 6, 15, 16, 17, 26, 27] [1, 5, 13] ?_
        (try dsimp)
        apply E_seq
        apply E_ops
        refine WQ (does_add_ptr rfl rfl) ?_
        refine WQ (does_load1_ptr rfl rfl rfl) ?_
        apply WM
        obtain ⟨g116, h⟩ := of_gd h
        refine WQ (does_add rfl rfl g116.1 g116.2) ?_
        apply WM
        apply W_nil
        refine E_keep [1, 3, 5, 7, 15, 16, 17, 26, 27] [1, 5, 13] ?_
        (try dsimp)
        apply E_seq
        apply E_seq
        apply E_ops
        apply WM
        apply WM
        refine WQ (does_len_own rfl rfl) ?_
        refine WQ (does_int rfl rfl rfl) ?_
        apply WM
        apply W_lazy
        ·rfl
        ·intro hB; (try simp only [hB, bss, ctt]); exact does_mv rfl
        apply W_lazy
        ·rfl
        ·intro hB; (try simp only [hB, bss, ctt]); exact does_mv rfl
        obtain ⟨g117, h⟩ := of_gd h
        apply W_lazy
        ·rfl
        ·intro hB; (try simp only [hB, bss, ctt]); exact does_idx_own rfl rfl rfl (g117 hB).1 (g117 hB).2
        apply W_lazy
        ·rfl
        ·intro hB; (try simp only [hB, bss, ctt]); exact does_load1_rgF (k := 1) rfl rfl (fun _ => rfl) (g117 hB) 0 (by omega) rfl
        refine WQ (does_or rfl rfl rfl) ?_
        apply W_nil
        refine E_keep [1, 3, 5, 7, 15, 16, 17, 26, 27, 43] [1, 5, 13] ?_
        (try dsimp)
        refine E_cond rfl (fun hc118 => ?_) (fun hc118 => ?_)
        ·replace h := of_ct h hc118
         apply E_seq
         apply E_ops
         apply WM
         apply W_nil
         refine E_keep [2] [] ?_
         (try dsimp)
         apply E_ret
         cases h
         (try simp only [qt, qb, qn])
         refine fin_mk (xs := _) ⟨_, rfl, rfl⟩ ?_
         rfl
        ·replace h := of_cf h hc118
         apply E_skip
         refine E_keep [1, 3, 5, 7, 15, 16, 17, 26, 27] [1, 5, 13] ?_
         (try dsimp)
         apply E_ops
         apply WM
         apply WM
         obtain ⟨g119, h⟩ := of_gd h
         refine WQ (does_idx_own rfl rfl rfl g119.1 g119.2) ?_
         refine W1 (does_store_rgF (e := e_bool) (n := 1) (k := 1) rfl rfl (fun _ => rfl) g119 0 (by omega) rfl rfl rfl (by decide) true rfl (by decide) rfl) ?_
         apply W_nil
         refine E_keep [1, 3, 5, 15, 16, 17, 26, 27] [1, 5, 13] ?_
         (try dsimp)
         apply E_ops
         obtain ⟨g120, h⟩ := of_gd h
         refine WQ (does_add rfl rfl g120.1 g120.2) ?_
         apply WM
         apply W_nil
         refine ⟨n114, ((v112 + (1 : Int)), (setn v113 ((nth a0.xThings v88).xBase + v112) true)), Nat.lt_succ_self _, h, ?_⟩
         refine LeB_trans (Le_ownlen (i := 3) _ rfl (by simp [setn_length, cpy_length, sortI_length] : v113.length = (setn v113 ((nth a0.xThings v88).xBase + v112) true).length)).b ?_
         exact (Le.b (le_mk ⟨rfl, rfl, rfl, rfl, rfl, rfl, rfl, rfl, trivial⟩ ⟨rfl, rfl, rfl, trivial⟩))
       ·replace h := of_cf h hc115
        apply E_exit
        refine ⟨v113, h, ?_⟩
        exact (Le.b (le_mk ⟨rfl, rfl, rfl, rfl, rfl, trivial⟩ ⟨rfl, rfl, trivial⟩))
   ·replace h := of_cf h hc91
    apply E_exit
    refine ⟨v89, h, ?_⟩
    exact (Le.b (le_mk ⟨rfl, rfl, trivial⟩ ⟨rfl, rfl, trivial⟩))
end Go.V.P
