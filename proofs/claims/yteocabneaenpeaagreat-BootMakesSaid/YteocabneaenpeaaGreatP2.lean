/- Walks: each function does what its model says: reeve/state.has, reeve/state.within, slices.IndexFunc[[]reeve/thing.Thing,reeve/thing.Thing], (reeve/state.State).owner, (reeve/state.State).inside, (reeve/state.State).ring, reeve/state.Forest, (reeve/forest.Forest).is, reeve/forest.Good, reeve/right.of, reeve/right.Less, reeve/right.Within, reeve/cap.Less, (reeve/state.State).allowed, reeve/state.Good, reeve/geo.slotsAt, reeve/geo.thingsAt, reeve/geo.Copy, reeve/geo.Rows, math.Abs, math.Copysign, math.trunc, math.Trunc, math.Signbit, reeve/gauss.whole, reeve/gauss.Parts, reeve/gauss.in, reeve/gauss.Of, reeve/gauss.Turn, reeve/gauss.rest, reeve/gauss.Spin, reeve/gauss.Word, reeve/super.Put, reeve/geo.Slot, reeve/cap.fields, (reeve/tag.Field).mask, reeve/tag.all, reeve/tag.Good, reeve/tag.Put. Printed by mg.py. No premises. -/
import Derived.Test.YteocabneaenpeaaGreatP1
set_option linter.unusedVariables false
set_option linter.unusedSimpArgs false
set_option maxRecDepth 20000
set_option maxHeartbeats 4000000
namespace Go.V.P
open Go.V Go.Proofs
/- reeve/state.has -/
def c_state_has : VCode := (.seq (.ops [(o (.box 104 (t 0)) 2), (o (.mv (cb false)) 4)]) (.seq (.draw [((o (.add 0 (t 2)) 5), []), ((o (.load false 1 (t 5)) 6), [0]), ((o (.bin .eql 3 (t 6) (ci 2)) 7), [1]), ((w 8 7), [2]), ((g_ (.mv (t 1)) 9 8 true), [3]), ((g_ (.add 2 (t 2)) 10 8 true), [3]), ((g_ (.load false 1 (t 10)) 11 8 true), [5, 3]), ((g_ (.bin .geq 3 (t 9) (t 11)) 12 8 true), [4, 6, 3]), ((o (.pick (t 8) (t 12) (cb false)) 13), [3, 7]), ((w 14 13), [8, 3]), ((g_ (.mv (t 1)) 15 14 true), [9]), ((g_ (.add 2 (t 2)) 16 14 true), [9]), ((g_ (.load false 1 (t 16)) 17 14 true), [11, 9]), ((g_ (.add 1 (t 2)) 18 14 true), [9]), ((g_ (.load false 1 (t 18)) 19 14 true), [13, 9]), ((g_ (.bin .shl 3 (ci 1) (t 19)) 20 14 true), [14, 9]), ((g_ (.bin .add 3 (t 17) (t 20)) 21 14 true), [12, 15, 9]), ((g_ (.bin .lss 3 (t 15) (t 21)) 22 14 true), [10, 16, 9]), ((o (.pick (t 14) (t 22) (cb false)) 23), [9, 17]), ((w 4 23), [18, 9, 0, 1, 2, 3, 4, 5, 6, 7, 8, 9, 10, 11, 12, 13, 14, 15, 16, 17, 18])]) .ret))
theorem f_state_has : Fits Tryz.prog 182 2 c_state_has [(.tmp 4)] := fits_mk Tryz.func182 (by kernel_rfl) (by kernel_rfl) (by kernel_rfl)
theorem p_state_has (F : Nat) (a0 : S_thing_Thing) (a1 : Int) (r : Bool) (h : m_state_has F a0 a1 = some r) : PC Tryz.prog 182 [S.agg [.v (.int .i64 a0.xType), .v (.int .i64 a0.xBits), .v (.int .i64 a0.xBase), .v (.int .i64 a0.xSize), .v (.int .i64 a0.xUsed), .v (.int .i64 a0.xFrom), .v (.int .i64 a0.xBadge), .v (.bool a0.xFull), .v (.int .u64 a0.xWord), .v (.int .u64 a0.xData.c0), .v (.int .u64 a0.xData.c1), .v (.int .u64 a0.xData.c2), .v (.int .u64 a0.xData.c3)], S.one (.v (.int .i64 a1))] (S.one (.v (.bool r))) := by
 unfold m_state_has at h
 refine PC_go f_state_has rfl rfl ?_
 intro C hP
 unfold c_state_has; dsimp
 apply E_seq
 apply E_ops
 refine W1 (does_box rfl rfl rfl rfl) ?_
 apply WM
 apply W_nil
 refine E_keep [1, 2] [2] ?_
 (try dsimp)
 apply E_seq
 obtain ⟨g1, h⟩ := of_gd h
 obtain ⟨g2, h⟩ := of_gd h
 refine E_draw [0, 1, 2, 3, 4, 5, 6, 7, 8, 9, 10, 11, 12, 13, 14, 15, 16, 17, 18, 19] ?_
 refine XQ 0 rfl rfl rfl (does_add_ptr rfl rfl) ?_
 refine XQ 1 rfl rfl rfl (does_load1_ptr rfl rfl rfl) ?_
 refine XQ 2 rfl rfl rfl (does_int rfl rfl rfl) ?_
 refine XQ 3 rfl rfl rfl (does_mv rfl) ?_
 apply XQ_lazy 4
 ·rfl
 ·rfl
 ·rfl
 ·rfl
 ·intro hB; (try simp only [hB, bss, ctt]); exact does_mv rfl
 apply XQ_lazy 5
 ·rfl
 ·rfl
 ·rfl
 ·rfl
 ·intro hB; (try simp only [hB, bss, ctt]); exact does_add_ptr rfl rfl
 apply XQ_lazy 6
 ·rfl
 ·rfl
 ·rfl
 ·rfl
 ·intro hB; (try simp only [hB, bss, ctt]); exact does_load1_ptr rfl rfl rfl
 apply XQ_lazy 7
 ·rfl
 ·rfl
 ·rfl
 ·rfl
 ·intro hB; (try simp only [hB, bss, ctt]); exact does_int rfl rfl rfl
 refine XQ 8 rfl rfl rfl (does_and rfl rfl rfl) ?_
 refine XQ 9 rfl rfl rfl (does_mv rfl) ?_
 apply XQ_lazy 10
 ·rfl
 ·rfl
 ·rfl
 ·rfl
 ·intro hB; (try simp only [hB, bss, ctt]); exact does_mv rfl
 apply XQ_lazy 11
 ·rfl
 ·rfl
 ·rfl
 ·rfl
 ·intro hB; (try simp only [hB, bss, ctt]); exact does_add_ptr rfl rfl
 apply XQ_lazy 12
 ·rfl
 ·rfl
 ·rfl
 ·rfl
 ·intro hB; (try simp only [hB, bss, ctt]); exact does_load1_ptr rfl rfl rfl
 apply XQ_lazy 13
 ·rfl
 ·rfl
 ·rfl
 ·rfl
 ·intro hB; (try simp only [hB, bss, ctt]); exact does_add_ptr rfl rfl
 apply XQ_lazy 14
 ·rfl
 ·rfl
 ·rfl
 ·rfl
 ·intro hB; (try simp only [hB, bss, ctt]); exact does_load1_ptr rfl rfl rfl
 apply XQ_lazy 15
 ·rfl
 ·rfl
 ·rfl
 ·rfl
 ·intro hB; (try simp only [hB, bss, ctt]); exact does_shl rfl rfl (g1 hB)
 apply XQ_lazy 16
 ·rfl
 ·rfl
 ·rfl
 ·rfl
 ·intro hB; (try simp only [hB, bss, ctt]); exact does_add rfl rfl (g2 hB).1 (g2 hB).2
 apply XQ_lazy 17
 ·rfl
 ·rfl
 ·rfl
 ·rfl
 ·intro hB; (try simp only [hB, bss, ctt]); exact does_int rfl rfl rfl
 refine XQ 18 rfl rfl rfl (does_and rfl rfl rfl) ?_
 refine XQ 19 rfl rfl rfl (does_mv rfl) ?_
 refine X_nil rfl ?_
 refine E_keep [4] [] ?_
 (try dsimp)
 apply E_ret
 cases h
 (try simp only [qt, qb, qn])
 refine fin_mk (xs := _) ⟨_, rfl, rfl⟩ ?_
 rfl
/- reeve/state.within -/
def c_state_within : VCode := (.seq (.ops [(o (.box 27 (t 0)) 3)]) (.seq (.seq (.ops [(w 8 2), (w 9 1), (o .bad 10)]) (.cond (t 10) .ret .skip)) (.seq (.ops [(w 11 2), (w 12 1), (n_ .bad)]) (.seq (.ops [(o (.add 3 (t 3)) 13), (o (.load false 1 (t 13)) 14), (o (.len false (t 14)) 15), (o (.mv (ci 0)) 16)]) (.block 0 (.loop (.seq (.ops [(o (.bin .lss 3 (t 16) (t 15)) 17)]) (.seq (.cond (t 17) .skip (.exit 0)) (.seq (.block 1 (.seq (.ops [(w 18 16), (o (.idxS 5 (t 14) (t 16)) 19), (o (.load true 5 (t 19)) 20), (o (.newv [zi, zi, zi, zi, zi]) 7), (w 6 18), (n_ (.store 5 (t 7) (t 20)))]) (.seq (.ops [(o (.add 0 (t 7)) 21), (o (.add 0 (t 21)) 22), (o (.load false 1 (t 22)) 23), (o (.bin .eql 3 (t 23) (ci 2)) 24), (w 25 24), (g_ (.add 4 (t 3)) 26 25 true), (g_ (.load false 1 (t 26)) 27 25 true), (g_ (.mv (t 1)) 28 25 true), (g_ (.idxS 13 (t 27) (t 28)) 29 25 true), (g_ (.load true 13 (t 29)) 30 25 true), (g_ (.mv (t 6)) 31 25 true), (g_ (.call 182 [(t 30), (t 31)]) 32 25 true), (o (.pick (t 25) (t 32) (cb false)) 33), (w 34 33), (g_ (.load true 5 (t 3)) 35 34 true), (g_ (.add 0 (t 7)) 36 34 true), (g_ (.add 1 (t 36)) 37 34 true), (g_ (.load false 1 (t 37)) 38 34 true), (g_ (.call 126 [(t 35), (t 38)]) 39 34 true), (o (.pick (t 34) (t 39) (cb false)) 40)]) (.cond (t 40) (.ops [(o (.load true 5 (t 3)) 41), (o (.add 0 (t 7)) 42), (o (.add 1 (t 42)) 43), (o (.load false 1 (t 43)) 44), (w 45 2), (o (.call 160 [(t 41), (t 44), (t 45)]) 46)]) .skip)))) (.ops [(o (.bin .add 3 (t 16) (ci 1)) 47), (w 16 47)]))))))))))
theorem f_state_within : Fits Tryz.prog 160 3 c_state_within [] := fits_mk Tryz.func160 (by kernel_rfl) (by kernel_rfl) (by kernel_rfl)
theorem p_state_within (F : Nat) (a0 : S_state_State) (a1 : Int) (a2 : Value) (r : Unit) (h : m_state_within F a0 a1 a2 = some r) : PC Tryz.prog 160 [S.agg [.v (.int .i64 a0.xGeo.xThreads), .v (.int .i64 a0.xGeo.xSlots), .v (.int .i64 a0.xGeo.xThings), .sl (flat e_S_state_Slot a0.xSlots) a0.xSlots.length, .sl (flat e_S_thing_Thing a0.xThings) a0.xThings.length], S.one (.v (.int .i64 a1)), S.one (.v a2)] (S.tup []) := by
 unfold m_state_within at h
 refine PC_go f_state_within rfl rfl ?_
 intro C hP
 unfold c_state_within; dsimp
 apply E_seq
 apply E_ops
 refine W1 (does_box rfl rfl rfl rfl) ?_
 apply W_nil
 refine E_keep [1, 2, 3] [3] ?_
 (try dsimp)
 apply E_seq
 apply E_seq
 apply E_ops
 apply WM
 apply WM
 cases h
/- slices.IndexFunc[[]reeve/thing.Thing,reeve/thing.Thing] -/
def c_slices_IndexFunc_thing_Thing : VCode := (.seq (.ops [(o (.mv (ci 0)) 4)]) (.seq (.seq (.ops [(w 6 0), (o (.len false (t 6)) 7), (o (.mv (ci 0)) 8)]) (.block 0 (.loop (.seq (.ops [(o (.bin .lss 3 (t 8) (t 7)) 9)]) (.seq (.cond (t 9) .skip (.exit 0)) (.seq (.block 1 (.seq (.ops [(w 10 8), (w 5 10)]) (.seq (.ops [(w 11 1), (w 12 0), (w 13 5), (o (.idxS 13 (t 12) (t 13)) 14), (o (.load true 13 (t 14)) 15), (o .bad 16)]) (.cond (t 16) (.seq (.ops [(w 17 5), (w 4 17)]) .ret) .skip)))) (.ops [(o (.bin .add 3 (t 8) (ci 1)) 18), (w 8 18)]))))))) (.seq (.ops [(o (.mv (.const (.int .i64 (-1)))) 4)]) .ret)))
theorem f_slices_IndexFunc_thing_Thing : Fits Tryz.prog 183 2 c_slices_IndexFunc_thing_Thing [(.tmp 4)] := fits_mk Tryz.func183 (by kernel_rfl) (by kernel_rfl) (by kernel_rfl)
theorem p_slices_IndexFunc_thing_Thing (F : Nat) (a0 : (List S_thing_Thing)) (a1 : Value) (r : Int) (h : m_slices_IndexFunc_thing_Thing F a0 a1 = some r) : PC Tryz.prog 183 [S.one (.sl (flat e_S_thing_Thing a0) a0.length), S.one (.v a1)] (S.one (.v (.int .i64 r))) := by
 unfold m_slices_IndexFunc_thing_Thing at h
 refine PC_go f_slices_IndexFunc_thing_Thing rfl rfl ?_
 intro C hP
 unfold c_slices_IndexFunc_thing_Thing; dsimp
 apply E_seq
 apply E_ops
 apply WM
 apply W_nil
 refine E_keep [0, 1] [] ?_
 (try dsimp)
 obtain ⟨k1, k1d, h⟩ := of_jn h
 refine E_seqJ (α := Unit) (fun (i : Unit) => (⟨[], []⟩ : St)) (fun i => k1 () = some r) (fun i h => ?_) ?_
 ·skip
  rw [k1d] at h; dsimp only at h
  (try dsimp)
  apply E_seq
  apply E_ops
  apply WM
  apply W_nil
  (try dsimp)
  apply E_ret
  cases h
  (try simp only [qt, qb, qn])
  refine fin_mk (xs := _) ⟨_, rfl, rfl⟩ ?_
  rfl
 ·
  skip
  apply E_seq
  apply E_ops
  apply WM
  refine WQ (does_len_sl rfl) ?_
  apply WM
  apply W_nil
  refine E_keep [0, 1, 7, 8] [] ?_
  (try dsimp)
  apply E_block
  (try dsimp)
  refine E_loopB (α := Unit) (fun (i : Unit) => (⟨[(0, S.one (.sl (flat e_S_thing_Thing a0) a0.length)), (1, S.one (.v a1)), (7, S.one (.v (.int .i64 ((a0.length : Nat) : Int)))), (8, S.one (.v (.int .i64 (0 : Int))))], []⟩ : St)) (fun n i => m_slices_IndexFunc_thing_Thing_l0 F a0 k1 n () = some r) F () h ?_ (fun n i h => ?_)
  ·
   exact (Le.b (le_mk ⟨rfl, rfl, rfl, rfl, trivial⟩ trivial))
  cases n with
  | zero => cases h
  | succ n4 =>
   unfold m_slices_IndexFunc_thing_Thing_l0 at h
   (try dsimp)
   apply E_seq
   apply E_ops
   refine WQ (does_int rfl rfl rfl) ?_
   apply W_nil
   (try dsimp)
   apply E_seq
   refine E_cond rfl (fun hc5 => ?_) (fun hc5 => ?_)
   ·replace h := of_ct h hc5
    apply E_skip
    refine E_keep [0, 1, 7, 8] [] ?_
    (try dsimp)
    apply E_seq
    apply E_block
    apply E_seq
    apply E_ops
    apply WM
    apply WM
    apply W_nil
    refine E_keep [0, 1, 5, 7, 8] [] ?_
    (try dsimp)
    apply E_seq
    apply E_ops
    apply WM
    apply WM
    apply WM
    obtain ⟨g6, h⟩ := of_gd h
    refine WQ (does_idx_sl rfl rfl g6.1 g6.2) ?_
    refine WQ (does_loadA_slF (k := 13) rfl (fun _ => rfl) g6 0 rfl rfl rfl) ?_
    cases h
   ·replace h := of_cf h hc5
    apply E_exit
    refine ⟨(), h, ?_⟩
    exact (Le.b (le_mk trivial trivial))
/- (reeve/state.State).owner -/
def c_state_State_owner : VCode := (.seq (.ops [(o (.box 27 (t 0)) 2), (o (.box 3 (t 1)) 3), (o (.mv (ci 0)) 4)]) (.seq (.ops [(o (.add 4 (t 2)) 5), (o (.load false 1 (t 5)) 6), (o .bad 7), (o (.call 183 [(t 6), (t 7)]) 8), (w 4 8)]) .ret))
theorem f_state_State_owner : Fits Tryz.prog 161 2 c_state_State_owner [(.tmp 4)] := fits_mk Tryz.func161 (by kernel_rfl) (by kernel_rfl) (by kernel_rfl)
theorem p_state_State_owner (F : Nat) (a0 : S_state_State) (a1 : Int) (r : Int) (h : m_state_State_owner F a0 a1 = some r) : PC Tryz.prog 161 [S.agg [.v (.int .i64 a0.xGeo.xThreads), .v (.int .i64 a0.xGeo.xSlots), .v (.int .i64 a0.xGeo.xThings), .sl (flat e_S_state_Slot a0.xSlots) a0.xSlots.length, .sl (flat e_S_thing_Thing a0.xThings) a0.xThings.length], S.one (.v (.int .i64 a1))] (S.one (.v (.int .i64 r))) := by
 unfold m_state_State_owner at h
 refine PC_go f_state_State_owner rfl rfl ?_
 intro C hP
 unfold c_state_State_owner; dsimp
 apply E_seq
 apply E_ops
 refine W1 (does_box rfl rfl rfl rfl) ?_
 refine W1 (does_box rfl rfl rfl rfl) ?_
 apply WM
 apply W_nil
 refine E_keep [2] [2] ?_
 (try dsimp)
 apply E_seq
 apply E_ops
 refine WQ (does_add_ptr rfl rfl) ?_
 refine WQ (does_load1_ptr rfl rfl rfl) ?_
 cases h
/- (reeve/state.State).inside -/
def c_state_State_inside : VCode := (.seq (.ops [(o (.box 27 (t 0)) 3), (o (.mv (cb false)) 6)]) (.seq (.seq (.ops [(o (.load true 5 (t 3)) 8), (w 9 1), (o (.call 126 [(t 8), (t 9)]) 10), (o (.un .not (t 10)) 11), (w 12 11), (g_ (.add 4 (t 3)) 13 12 false), (g_ (.load false 1 (t 13)) 14 12 false), (g_ (.mv (t 1)) 15 12 false), (g_ (.idxS 13 (t 14) (t 15)) 16 12 false), (g_ (.add 0 (t 16)) 17 12 false), (g_ (.load false 1 (t 17)) 18 12 false), (g_ (.bin .neq 3 (t 18) (ci 2)) 19 12 false), (o (.pick (t 12) (cb true) (t 19)) 20)]) (.cond (t 20) (.seq (.ops [(o (.mv (cb false)) 6)]) .ret) .skip)) (.seq (.ops [(o .bad 21), (w 7 21)]) (.seq (.ops [(o (.load true 5 (t 3)) 22), (w 23 1), (w 24 7), (o (.call 160 [(t 22), (t 23), (t 24)]) 25)]) (.seq (.ops [(w 26 7), (o (.load true 5 (t 3)) 27), (w 28 2), (o (.call 161 [(t 27), (t 28)]) 29), (o .bad 30), (w 6 30)]) .ret)))))
theorem f_state_State_inside : Fits Tryz.prog 128 3 c_state_State_inside [(.tmp 6)] := fits_mk Tryz.func128 (by kernel_rfl) (by kernel_rfl) (by kernel_rfl)
theorem p_state_State_inside (F : Nat) (a0 : S_state_State) (a1 : Int) (a2 : Int) (r : Bool) (h : m_state_State_inside F a0 a1 a2 = some r) : PC Tryz.prog 128 [S.agg [.v (.int .i64 a0.xGeo.xThreads), .v (.int .i64 a0.xGeo.xSlots), .v (.int .i64 a0.xGeo.xThings), .sl (flat e_S_state_Slot a0.xSlots) a0.xSlots.length, .sl (flat e_S_thing_Thing a0.xThings) a0.xThings.length], S.one (.v (.int .i64 a1)), S.one (.v (.int .i64 a2))] (S.one (.v (.bool r))) := by
 unfold m_state_State_inside at h
 refine PC_go f_state_State_inside rfl rfl ?_
 intro C hP
 unfold c_state_State_inside; dsimp
 apply E_seq
 apply E_ops
 refine W1 (does_box rfl rfl rfl rfl) ?_
 apply WM
 apply W_nil
 refine E_keep [1, 2, 3] [3] ?_
 (try dsimp)
 apply E_seq
 apply E_seq
 apply E_ops
 refine WQ (does_loadA_ptr rfl rfl rfl rfl (by decide)) ?_
 apply WM
 obtain ⟨x1, x1h, h⟩ := of_bind h
 refine W1 (does_call1 hP (p_state_State_there F a0 a1 x1 x1h) rfl rfl rfl) ?_
 refine WQ (does_not rfl) ?_
 apply WM
 apply W_lazy
 ·rfl
 ·intro hB; (try simp only [hB, bss, ctt]); exact does_add_ptr rfl rfl
 apply W_lazy
 ·rfl
 ·intro hB; (try simp only [hB, bss, ctt]); exact does_load1_ptr rfl rfl rfl
 apply W_lazy
 ·rfl
 ·intro hB; (try simp only [hB, bss, ctt]); exact does_mv rfl
 obtain ⟨g2, h⟩ := of_gd h
 apply W_lazy
 ·rfl
 ·intro hB; (try simp only [hB, bss, ctt]); exact does_idx_sl rfl rfl (g2 hB).1 (g2 hB).2
 apply W_lazy
 ·rfl
 ·intro hB; (try simp only [hB, bss, ctt]); exact does_add_psl rfl
 apply W_lazy
 ·rfl
 ·intro hB; (try simp only [hB, bss, ctt]); exact does_load1_slF (k := 13) rfl (fun _ => rfl) (g2 hB) 0 rfl rfl
 apply W_lazy
 ·rfl
 ·intro hB; (try simp only [hB, bss, ctt]); exact does_int rfl rfl rfl
 refine WQ (does_or rfl rfl rfl) ?_
 apply W_nil
 refine E_keep [1, 2, 3, 20] [3] ?_
 (try dsimp)
 refine E_cond rfl (fun hc3 => ?_) (fun hc3 => ?_)
 ·replace h := of_ct h hc3
  apply E_seq
  apply E_ops
  apply WM
  apply W_nil
  refine E_keep [6] [] ?_
  (try dsimp)
  apply E_ret
  cases h
  (try simp only [qt, qb, qn])
  refine fin_mk (xs := _) ⟨_, rfl, rfl⟩ ?_
  rfl
 ·replace h := of_cf h hc3
  apply E_skip
  refine E_keep [1, 2, 3] [3] ?_
  (try dsimp)
  apply E_seq
  apply E_ops
  cases h
/- (reeve/state.State).ring -/
def c_state_State_ring : VCode := (.seq (.ops [(o (.box 27 (t 0)) 1), (o (.mv (cb false)) 2)]) (.seq (.seq (.ops [(o (.add 3 (t 1)) 5), (o (.load false 1 (t 5)) 6), (o (.len false (t 6)) 7), (o (.mv (ci 0)) 8)]) (.block 0 (.loop (.seq (.ops [(o (.bin .lss 3 (t 8) (t 7)) 9)]) (.seq (.cond (t 9) .skip (.exit 0)) (.seq (.block 1 (.seq (.ops [(w 10 8), (o (.idxS 5 (t 6) (t 8)) 11), (o (.load true 5 (t 11)) 12), (o (.newv [zi, zi, zi, zi, zi]) 4), (w 3 10), (n_ (.store 5 (t 4) (t 12)))]) (.seq (.ops [(o (.add 0 (t 4)) 13), (o (.add 0 (t 13)) 14), (o (.load false 1 (t 14)) 15), (o (.bin .eql 3 (t 15) (ci 2)) 16), (w 17 16), (g_ (.load true 5 (t 1)) 18 17 true), (g_ (.add 0 (t 4)) 19 17 true), (g_ (.add 1 (t 19)) 20 17 true), (g_ (.load false 1 (t 20)) 21 17 true), (g_ (.mv (t 3)) 22 17 true), (g_ (.call 128 [(t 18), (t 21), (t 22)]) 23 17 true), (o (.pick (t 17) (t 23) (cb false)) 24)]) (.cond (t 24) (.seq (.ops [(o (.mv (cb true)) 2)]) .ret) .skip)))) (.ops [(o (.bin .add 3 (t 8) (ci 1)) 25), (w 8 25)]))))))) (.seq (.ops [(o (.mv (cb false)) 2)]) .ret)))
theorem f_state_State_ring : Fits Tryz.prog 89 1 c_state_State_ring [(.tmp 2)] := fits_mk Tryz.func89 (by kernel_rfl) (by kernel_rfl) (by kernel_rfl)
theorem p_state_State_ring (F : Nat) (a0 : S_state_State) (r : Bool) (h : m_state_State_ring F a0 = some r) : PC Tryz.prog 89 [S.agg [.v (.int .i64 a0.xGeo.xThreads), .v (.int .i64 a0.xGeo.xSlots), .v (.int .i64 a0.xGeo.xThings), .sl (flat e_S_state_Slot a0.xSlots) a0.xSlots.length, .sl (flat e_S_thing_Thing a0.xThings) a0.xThings.length]] (S.one (.v (.bool r))) := by
 unfold m_state_State_ring at h
 refine PC_go f_state_State_ring rfl rfl ?_
 intro C hP
 unfold c_state_State_ring; dsimp
 apply E_seq
 apply E_ops
 refine W1 (does_box rfl rfl rfl rfl) ?_
 apply WM
 apply W_nil
 refine E_keep [1] [1] ?_
 (try dsimp)
 obtain ⟨k1, k1d, h⟩ := of_jn h
 refine E_seqJ (α := Unit) (fun (i : Unit) => (⟨[], []⟩ : St)) (fun i => k1 () = some r) (fun i h => ?_) ?_
 ·skip
  rw [k1d] at h; dsimp only at h
  (try dsimp)
  apply E_seq
  apply E_ops
  apply WM
  apply W_nil
  (try dsimp)
  apply E_ret
  cases h
  (try simp only [qt, qb, qn])
  refine fin_mk (xs := _) ⟨_, rfl, rfl⟩ ?_
  rfl
 ·
  skip
  apply E_seq
  apply E_ops
  refine WQ (does_add_ptr rfl rfl) ?_
  refine WQ (does_load1_ptr rfl rfl rfl) ?_
  refine WQ (does_len_sl rfl) ?_
  apply WM
  apply W_nil
  refine E_keep [1, 6, 7, 8] [1] ?_
  (try dsimp)
  apply E_block
  (try dsimp)
  refine E_loopB (α := Int) (fun (i : Int) => (⟨[(1, S.one (.ptr 1 0)), (6, S.one (.sl (flat e_S_state_Slot a0.xSlots) a0.xSlots.length)), (7, S.one (.v (.int .i64 ((a0.xSlots.length : Nat) : Int)))), (8, S.one (.v (.int .i64 i)))], [(1, (⟨true, [.v (.int .i64 a0.xGeo.xThreads), .v (.int .i64 a0.xGeo.xSlots), .v (.int .i64 a0.xGeo.xThings), .sl (flat e_S_state_Slot a0.xSlots) a0.xSlots.length, .sl (flat e_S_thing_Thing a0.xThings) a0.xThings.length]⟩ : Reg))]⟩ : St)) (fun n i => m_state_State_ring_l0 F a0 k1 n i = some r) F (0 : Int) h ?_ (fun n i h => ?_)
  ·
   exact (Le.b (le_mk ⟨rfl, rfl, rfl, rfl, trivial⟩ ⟨rfl, trivial⟩))
  generalize i = v13 at h ⊢
  cases n with
  | zero => cases h
  | succ n14 =>
   unfold m_state_State_ring_l0 at h
   (try dsimp)
   apply E_seq
   apply E_ops
   refine WQ (does_int rfl rfl rfl) ?_
   apply W_nil
   (try dsimp)
   apply E_seq
   refine E_cond rfl (fun hc15 => ?_) (fun hc15 => ?_)
   ·replace h := of_ct h hc15
    apply E_skip
    refine E_keep [1, 6, 7, 8] [1] ?_
    (try dsimp)
    apply E_seq
    apply E_block
    apply E_seq
    apply E_ops
    apply WM
    obtain ⟨g16, h⟩ := of_gd h
    refine WQ (does_idx_sl rfl rfl g16.1 g16.2) ?_
    refine WQ (does_loadA_slF (k := 5) rfl (fun _ => rfl) g16 0 rfl rfl rfl) ?_
    refine W1 (does_newv rfl rfl) ?_
    apply WM
    refine W1 (does_store rfl rfl rfl rfl rfl (Nat.le_of_ble_eq_true rfl) rfl (by decide)) ?_
    apply W_nil
    refine E_keep [1, 3, 4, 6, 7, 8] [1, 4] ?_
    (try dsimp)
    apply E_seq
    apply E_ops
    refine WQ (does_add_ptr rfl rfl) ?_
    refine WQ (does_add_ptr rfl rfl) ?_
    refine WQ (does_load1_ptr rfl rfl rfl) ?_
    refine WQ (does_int rfl rfl rfl) ?_
    apply WM
    apply W_lazy
    ·rfl
    ·intro hB; (try simp only [hB, bss, ctt]); exact does_loadA_ptr rfl rfl rfl rfl (by decide)
    apply W_lazy
    ·rfl
    ·intro hB; (try simp only [hB, bss, ctt]); exact does_add_ptr rfl rfl
    apply W_lazy
    ·rfl
    ·intro hB; (try simp only [hB, bss, ctt]); exact does_add_ptr rfl rfl
    apply W_lazy
    ·rfl
    ·intro hB; (try simp only [hB, bss, ctt]); exact does_load1_ptr rfl rfl rfl
    apply W_lazy
    ·rfl
    ·intro hB; (try simp only [hB, bss, ctt]); exact does_mv rfl
    obtain ⟨x17, x17h, h⟩ := of_bind h
    apply W_lazyD
    ·rfl
    ·intro hB; (try simp only [hB, bss, ctt]); exact does_call1 hP (p_state_State_inside F a0 ((nth a0.xSlots v13).xCap.xThing) v13 x17 (of_lz x17h (bt hB))) rfl rfl rfl
    refine WQ (does_and rfl rfl rfl) ?_
    apply W_nil
    refine E_keep [1, 6, 7, 8, 24] [1] ?_
    (try dsimp)
    refine E_cond rfl (fun hc18 => ?_) (fun hc18 => ?_)
    ·replace h := of_ct h hc18
     apply E_seq
     apply E_ops
     apply WM
     apply W_nil
     refine E_keep [2] [] ?_
     (try dsimp)
     apply E_ret
     cases h
     (try simp only [qt, qb, qn])
     refine fin_mk (xs := _) ⟨_, rfl, rfl⟩ ?_
     rfl
    ·replace h := of_cf h hc18
     apply E_skip
     refine E_keep [1, 6, 7, 8] [1] ?_
     (try dsimp)
     apply E_ops
     obtain ⟨g19, h⟩ := of_gd h
     refine WQ (does_add rfl rfl g19.1 g19.2) ?_
     apply WM
     apply W_nil
     refine ⟨n14, (v13 + (1 : Int)), Nat.lt_succ_self _, h, ?_⟩
     exact (Le.b (le_mk ⟨rfl, rfl, rfl, rfl, trivial⟩ ⟨rfl, trivial⟩))
   ·replace h := of_cf h hc15
    apply E_exit
    refine ⟨(), h, ?_⟩
    exact (Le.b (le_mk trivial trivial))
/- reeve/state.Forest -/
def c_state_Forest : VCode := (.seq (.ops [(o (.box 27 (t 0)) 1), (o (.newv [.nil]) 2)]) (.seq (.ops [(o (.newv [.nil]) 3)]) (.seq (.seq (.ops [(o (.add 3 (t 1)) 6), (o (.load false 1 (t 6)) 7), (o (.len false (t 7)) 8), (o (.mv (ci 0)) 9)]) (.block 0 (.loop (.seq (.ops [(o (.bin .lss 3 (t 9) (t 8)) 10)]) (.seq (.cond (t 10) .skip (.exit 0)) (.seq (.block 1 (.seq (.ops [(o (.idxS 5 (t 7) (t 9)) 11), (o (.load true 5 (t 11)) 12), (o (.newv [zi, zi, zi, zi, zi]) 5), (n_ (.store 5 (t 5) (t 12)))]) (.seq (.seq (.ops [(o (.add 0 (t 5)) 13), (o (.load true 4 (t 13)) 14), (o (.call 125 [(t 14)]) 15)]) (.cond (t 15) (.ops [(o (.add 4 (t 5)) 16), (n_ (.store 1 (t 16) (.const (.int .i64 (-2)))))]) .skip)) (.ops [(o (.add 0 (t 3)) 17), (o (.load false 1 (t 17)) 18), (o (.add 4 (t 5)) 19), (o (.load false 1 (t 19)) 20), (o (.bslice 1 3 1 [zi] [(0, (1, (t 20)))]) 21), (o (.app 47 3 1 8 (t 18) (t 21)) 22), (o (.add 0 (t 3)) 23), (n_ (.store 1 (t 23) (t 22)))])))) (.ops [(o (.bin .add 3 (t 9) (ci 1)) 24), (w 9 24)]))))))) (.seq (.ops [(o (.load true 1 (t 3)) 25), (n_ (.store 1 (t 2) (t 25)))]) .ret))))
theorem f_state_Forest : Fits Tryz.prog 91 1 c_state_Forest [(.cell true 1 2)] := fits_mk Tryz.func91 (by kernel_rfl) (by kernel_rfl) (by kernel_rfl)
theorem p_state_Forest (F : Nat) (a0 : S_state_State) (r : S_forest_Forest) (h : m_state_Forest F a0 = some r) : PC Tryz.prog 91 [S.agg [.v (.int .i64 a0.xGeo.xThreads), .v (.int .i64 a0.xGeo.xSlots), .v (.int .i64 a0.xGeo.xThings), .sl (flat e_S_state_Slot a0.xSlots) a0.xSlots.length, .sl (flat e_S_thing_Thing a0.xThings) a0.xThings.length]] (S.agg [.sl (flat e_i_i64 r.xUp) r.xUp.length]) := by
 unfold m_state_Forest at h
 refine PC_go f_state_Forest rfl rfl ?_
 intro C hP
 unfold c_state_Forest; dsimp
 apply E_seq
 apply E_ops
 refine W1 (does_box rfl rfl rfl rfl) ?_
 refine W1 (does_newv rfl rfl) ?_
 apply W_nil
 refine E_keep [1, 2] [1, 2] ?_
 (try dsimp)
 apply E_seq
 apply E_ops
 refine W1 (does_newv rfl rfl) ?_
 apply W_nil
 (try dsimp)
 obtain ⟨k2, k2d, h⟩ := of_jn h
 refine E_seqJ (α := (List Int)) (fun (i : (List Int)) => (⟨[(2, S.one (.ptr 2 0)), (3, S.one (.ptr 3 0))], [(2, (⟨true, [.nil]⟩ : Reg)), (3, (⟨false, [.own 1022 0 i.length (some (1, 3))]⟩ : Reg)), (1022, (⟨true, flat e_i_i64 i⟩ : Reg))]⟩ : St)) (fun i => k2 i = some r) (fun i h => ?_) ?_
 ·let iv := i; change k2 i = some r at h; generalize i = v1 at h ⊢
  rw [k2d] at h; dsimp only at h
  (try dsimp)
  apply E_seq
  apply E_ops
  refine WQ (does_loadA_ptr rfl rfl rfl rfl (by decide)) ?_
  refine W1 (does_store rfl rfl rfl rfl rfl (Nat.le_of_ble_eq_true rfl) rfl (by decide)) ?_
  apply W_nil
  refine E_keep [2] [2, 1022] ?_
  (try dsimp)
  refine E_ghost (Le_frz (r := 1022) rfl rfl).b ?_
  (try dsimp)
  apply E_ret
  cases h
  (try simp only [qt, qb, qn])
  refine fin_mk (xs := _) ⟨_, _, at_whole rfl (by simp), rfl, rfl, rfl⟩ ?_
  rfl
 ·
  skip
  apply E_seq
  apply E_ops
  refine WQ (does_add_ptr rfl rfl) ?_
  refine WQ (does_load1_ptr rfl rfl rfl) ?_
  refine WQ (does_len_sl rfl) ?_
  apply WM
  apply W_nil
  refine E_keep [2, 3, 7, 8, 9] [2, 3] ?_
  (try dsimp)
  apply E_block
  (try dsimp)
  refine E_loopB (α := Int × (List Int)) (fun (i : Int × (List Int)) => (⟨[(2, S.one (.ptr 2 0)), (3, S.one (.ptr 3 0)), (7, S.one (.sl (flat e_S_state_Slot a0.xSlots) a0.xSlots.length)), (8, S.one (.v (.int .i64 ((a0.xSlots.length : Nat) : Int)))), (9, S.one (.v (.int .i64 i.1)))], [(2, (⟨true, [.nil]⟩ : Reg)), (3, (⟨false, [.own 1022 0 i.2.length (some (1, 3))]⟩ : Reg)), (1022, (⟨true, flat e_i_i64 i.2⟩ : Reg))]⟩ : St)) (fun n i => m_state_Forest_l0 F a0 k2 n i.1 i.2 = some r) F ((0 : Int), ([] : List Int)) h ?_ (fun n i h => ?_)
  ·
   refine LeB_trans (LeB_nilownB (q := 3) (j := 0) (r := 1022) 1 3 rfl rfl rfl rfl) ?_
   exact (Le.b (le_mk ⟨rfl, rfl, rfl, rfl, rfl, trivial⟩ ⟨rfl, rfl, rfl, trivial⟩))
  obtain ⟨v21, v22⟩ := i; dsimp only at h
  cases n with
  | zero => cases h
  | succ n23 =>
   unfold m_state_Forest_l0 at h
   (try dsimp)
   apply E_seq
   apply E_ops
   refine WQ (does_int rfl rfl rfl) ?_
   apply W_nil
   (try dsimp)
   apply E_seq
   refine E_cond rfl (fun hc24 => ?_) (fun hc24 => ?_)
   ·replace h := of_ct h hc24
    apply E_skip
    refine E_keep [2, 3, 7, 8, 9] [2, 3, 1022] ?_
    (try dsimp)
    apply E_seq
    apply E_block
    apply E_seq
    apply E_ops
    obtain ⟨g25, h⟩ := of_gd h
    refine WQ (does_idx_sl rfl rfl g25.1 g25.2) ?_
    refine WQ (does_loadA_slF (k := 5) rfl (fun _ => rfl) g25 0 rfl rfl rfl) ?_
    refine W1 (does_newv rfl rfl) ?_
    refine W1 (does_store rfl rfl rfl rfl rfl (Nat.le_of_ble_eq_true rfl) rfl (by decide)) ?_
    apply W_nil
    refine E_keep [2, 3, 5, 7, 8, 9] [2, 3, 5, 1022] ?_
    (try dsimp)
    obtain ⟨k27, k27d, h⟩ := of_jn h
    refine E_seqJ (α := Int) (fun (i : Int) => (⟨[(2, S.one (.ptr 2 0)), (3, S.one (.ptr 3 0)), (5, S.one (.ptr 5 0)), (7, S.one (.sl (flat e_S_state_Slot a0.xSlots) a0.xSlots.length)), (8, S.one (.v (.int .i64 ((a0.xSlots.length : Nat) : Int)))), (9, S.one (.v (.int .i64 v21)))], [(2, (⟨true, [.nil]⟩ : Reg)), (3, (⟨false, [.own 1022 0 v22.length (some (1, 3))]⟩ : Reg)), (5, (⟨true, [.v (.int .i64 (nth a0.xSlots v21).xCap.xType), .v (.int .i64 (nth a0.xSlots v21).xCap.xThing), .v (.int .i64 (nth a0.xSlots v21).xCap.xRights), .v (.int .i64 (nth a0.xSlots v21).xCap.xBadge), .v (.int .i64 i)]⟩ : Reg)), (1022, (⟨true, flat e_i_i64 v22⟩ : Reg))]⟩ : St)) (fun i => k27 i = some r) (fun i h => ?_) ?_
    ·let iv := i; change k27 i = some r at h; generalize i = v26 at h ⊢
     rw [k27d] at h; dsimp only at h
     (try dsimp)
     apply E_ops
     refine WQ (does_add_ptr rfl rfl) ?_
     refine WQ (does_load1_ptr rfl rfl rfl) ?_
     refine WQ (does_add_ptr rfl rfl) ?_
     refine WQ (does_load1_ptr rfl rfl rfl) ?_
     refine W1 (does_bslice rfl rfl rfl rfl) ?_
     obtain ⟨g28, h⟩ := of_gd h
     refine W1 (does_appF (e := e_i_i64) rfl rfl (fun _ => rfl) (fun _ => rfl) rfl (Src.lit (e := e_i_i64) ([v26] : List Int) rfl (fun _ => rfl) rfl rfl) g28 rfl) ?_
     refine WQ (does_add_ptr rfl rfl) ?_
     refine W1 (does_store rfl rfl rfl rfl rfl (Nat.le_of_ble_eq_true rfl) rfl (by decide)) ?_
     apply W_nil
     refine E_keep [2, 3, 7, 8, 9] [2, 3, 1022] ?_
     (try dsimp)
     apply E_ops
     obtain ⟨g29, h⟩ := of_gd h
     refine WQ (does_add rfl rfl g29.1 g29.2) ?_
     apply WM
     apply W_nil
     refine ⟨n23, ((v21 + (1 : Int)), (v22 ++ ([v26] : List Int))), Nat.lt_succ_self _, h, ?_⟩
     exact (Le.b (le_mk ⟨rfl, rfl, rfl, rfl, rfl, trivial⟩ ⟨rfl, rfl, rfl, trivial⟩))
    ·
     skip
     apply E_seq
     apply E_ops
     refine WQ (does_add_ptr rfl rfl) ?_
     refine WQ (does_loadA_ptr rfl rfl rfl rfl (by decide)) ?_
     obtain ⟨x30, x30h, h⟩ := of_bind h
     refine W1 (does_call1 hP (p_cap_None F ((nth a0.xSlots v21).xCap) x30 x30h) rfl rfl rfl) ?_
     apply W_nil
     refine E_keep [2, 3, 5, 7, 8, 9, 15] [2, 3, 5, 1022] ?_
     (try dsimp)
     refine E_cond rfl (fun hc31 => ?_) (fun hc31 => ?_)
     ·replace h := of_ct h hc31
      apply E_ops
      refine WQ (does_add_ptr rfl rfl) ?_
      refine W1 (does_store rfl rfl rfl rfl rfl (Nat.le_of_ble_eq_true rfl) rfl (by decide)) ?_
      apply W_nil
      refine ⟨(-2 : Int), h, ?_⟩
      exact (Le.b (le_mk ⟨rfl, rfl, rfl, rfl, rfl, rfl, trivial⟩ ⟨rfl, rfl, rfl, rfl, trivial⟩))
     ·replace h := of_cf h hc31
      apply E_skip
      refine ⟨(nth a0.xSlots v21).xUp, h, ?_⟩
      exact (Le.b (le_mk ⟨rfl, rfl, rfl, rfl, rfl, rfl, trivial⟩ ⟨rfl, rfl, rfl, rfl, trivial⟩))
   ·replace h := of_cf h hc24
    apply E_exit
    refine ⟨v22, h, ?_⟩
    exact (Le.b (le_mk ⟨rfl, rfl, trivial⟩ ⟨rfl, rfl, rfl, trivial⟩))
/- (reeve/forest.Forest).is -/
def c_forest_Forest_is : VCode := (.seq (.ops [(o (.box 179 (t 0)) 2), (o (.mv (cb false)) 4)]) (.seq (.ops [(w 5 1), (o (.bin .geq 3 (t 5) (ci 0)) 6), (w 7 6), (g_ (.mv (t 1)) 8 7 true), (g_ (.add 0 (t 2)) 9 7 true), (g_ (.load false 1 (t 9)) 10 7 true), (g_ (.len false (t 10)) 11 7 true), (g_ (.bin .lss 3 (t 8) (t 11)) 12 7 true), (o (.pick (t 7) (t 12) (cb false)) 13), (w 14 13), (g_ (.add 0 (t 2)) 15 14 true), (g_ (.load false 1 (t 15)) 16 14 true), (g_ (.mv (t 1)) 17 14 true), (g_ (.idxS 1 (t 16) (t 17)) 18 14 true), (g_ (.load false 1 (t 18)) 19 14 true), (g_ (.bin .neq 3 (t 19) (.const (.int .i64 (-2)))) 20 14 true), (o (.pick (t 14) (t 20) (cb false)) 21), (w 4 21)]) .ret))
theorem f_forest_Forest_is : Fits Tryz.prog 129 2 c_forest_Forest_is [(.tmp 4)] := fits_mk Tryz.func129 (by kernel_rfl) (by kernel_rfl) (by kernel_rfl)
theorem p_forest_Forest_is (F : Nat) (a0 : S_forest_Forest) (a1 : Int) (r : Bool) (h : m_forest_Forest_is F a0 a1 = some r) : PC Tryz.prog 129 [S.agg [.sl (flat e_i_i64 a0.xUp) a0.xUp.length], S.one (.v (.int .i64 a1))] (S.one (.v (.bool r))) := by
 unfold m_forest_Forest_is at h
 refine PC_go f_forest_Forest_is rfl rfl ?_
 intro C hP
 unfold c_forest_Forest_is; dsimp
 apply E_seq
 apply E_ops
 refine W1 (does_box rfl rfl rfl rfl) ?_
 apply WM
 apply W_nil
 refine E_keep [1, 2] [2] ?_
 (try dsimp)
 apply E_seq
 apply E_ops
 apply WM
 refine WQ (does_int rfl rfl rfl) ?_
 apply WM
 apply W_lazy
 ·rfl
 ·intro hB; (try simp only [hB, bss, ctt]); exact does_mv rfl
 apply W_lazy
 ·rfl
 ·intro hB; (try simp only [hB, bss, ctt]); exact does_add_ptr rfl rfl
 apply W_lazy
 ·rfl
 ·intro hB; (try simp only [hB, bss, ctt]); exact does_load1_ptr rfl rfl rfl
 apply W_lazy
 ·rfl
 ·intro hB; (try simp only [hB, bss, ctt]); exact does_len_sl rfl
 apply W_lazy
 ·rfl
 ·intro hB; (try simp only [hB, bss, ctt]); exact does_int rfl rfl rfl
 refine WQ (does_and rfl rfl rfl) ?_
 apply WM
 apply W_lazy
 ·rfl
 ·intro hB; (try simp only [hB, bss, ctt]); exact does_add_ptr rfl rfl
 apply W_lazy
 ·rfl
 ·intro hB; (try simp only [hB, bss, ctt]); exact does_load1_ptr rfl rfl rfl
 apply W_lazy
 ·rfl
 ·intro hB; (try simp only [hB, bss, ctt]); exact does_mv rfl
 obtain ⟨g1, h⟩ := of_gd h
 apply W_lazy
 ·rfl
 ·intro hB; (try simp only [hB, bss, ctt]); exact does_idx_sl rfl rfl (g1 hB).1 (g1 hB).2
 apply W_lazy
 ·rfl
 ·intro hB; (try simp only [hB, bss, ctt]); exact does_load1_slF (k := 1) rfl (fun _ => rfl) (g1 hB) 0 rfl rfl
 apply W_lazy
 ·rfl
 ·intro hB; (try simp only [hB, bss, ctt]); exact does_int rfl rfl rfl
 refine WQ (does_and rfl rfl rfl) ?_
 apply WM
 apply W_nil
 refine E_keep [4] [] ?_
 (try dsimp)
 apply E_ret
 cases h
 (try simp only [qt, qb, qn])
 refine fin_mk (xs := _) ⟨_, rfl, rfl⟩ ?_
 rfl
/- reeve/forest.Good -/
def c_forest_Good : VCode := (.seq (.ops [(o (.box 179 (t 0)) 1), (o (.mv (cb false)) 2)]) (.seq (.seq (.ops [(o (.add 0 (t 1)) 8), (o (.load false 1 (t 8)) 9), (o (.len false (t 9)) 10), (o (.bin .gtr 3 (t 10) (ci 96)) 11)]) (.cond (t 11) (.seq (.ops [(o (.mv (cb false)) 2)]) .ret) .skip)) (.seq (.seq (.ops [(o (.add 0 (t 1)) 12), (o (.load false 1 (t 12)) 13), (o (.len false (t 13)) 14), (o (.mv (ci 0)) 15)]) (.block 0 (.loop (.seq (.ops [(o (.bin .lss 3 (t 15) (t 14)) 16)]) (.seq (.cond (t 16) .skip (.exit 0)) (.seq (.block 1 (.seq (.ops [(o (.idxS 1 (t 13) (t 15)) 17), (o (.load false 1 (t 17)) 18), (w 4 18)]) (.seq (.ops [(w 19 4), (o (.bin .neq 3 (t 19) (.const (.int .i64 (-2)))) 20), (w 21 20), (g_ (.mv (t 4)) 22 21 true), (g_ (.bin .neq 3 (t 22) (.const (.int .i64 (-1)))) 23 21 true), (o (.pick (t 21) (t 23) (cb false)) 24), (w 25 24), (g_ (.load true 1 (t 1)) 26 25 true), (g_ (.mv (t 4)) 27 25 true), (g_ (.call 129 [(t 26), (t 27)]) 28 25 true), (g_ (.un .not (t 28)) 29 25 true), (o (.pick (t 25) (t 29) (cb false)) 30)]) (.cond (t 30) (.seq (.ops [(o (.mv (cb false)) 2)]) .ret) .skip)))) (.ops [(o (.bin .add 3 (t 15) (ci 1)) 31), (w 15 31)]))))))) (.seq (.seq (.ops [(o (.add 0 (t 1)) 32), (o (.load false 1 (t 32)) 33), (o (.len false (t 33)) 34), (o (.mv (ci 0)) 35)]) (.block 2 (.loop (.seq (.ops [(o (.bin .lss 3 (t 35) (t 34)) 36)]) (.seq (.cond (t 36) .skip (.exit 2)) (.seq (.block 3 (.seq (.ops [(w 37 35), (w 5 37)]) (.seq (.ops [(o (.mv (ci 0)) 6)]) (.seq (.ops [(w 38 5), (w 7 38)]) (.block 4 (.loop (.seq (.seq (.ops [(o (.load true 1 (t 1)) 39), (w 40 7), (o (.call 129 [(t 39), (t 40)]) 41)]) (.cond (t 41) .skip (.exit 4))) (.seq (.block 5 (.seq (.seq (.ops [(w 47 6), (o (.add 0 (t 1)) 48), (o (.load false 1 (t 48)) 49), (o (.len false (t 49)) 50), (o (.bin .gtr 3 (t 47) (t 50)) 51)]) (.cond (t 51) (.seq (.ops [(o (.mv (cb false)) 2)]) .ret) .skip)) (.ops [(w 52 6), (o (.bin .add 3 (t 52) (ci 1)) 53), (w 6 53)]))) (.ops [(o (.add 0 (t 1)) 42), (o (.load false 1 (t 42)) 43), (w 44 7), (o (.idxS 1 (t 43) (t 44)) 45), (o (.load false 1 (t 45)) 46), (w 7 46)]))))))))) (.ops [(o (.bin .add 3 (t 35) (ci 1)) 54), (w 35 54)]))))))) (.seq (.ops [(o (.mv (cb true)) 2)]) .ret)))))
theorem f_forest_Good : Fits Tryz.prog 90 1 c_forest_Good [(.tmp 2)] := fits_mk Tryz.func90 (by kernel_rfl) (by kernel_rfl) (by kernel_rfl)
theorem p_forest_Good (F : Nat) (a0 : S_forest_Forest) (r : Bool) (h : m_forest_Good F a0 = some r) : PC Tryz.prog 90 [S.agg [.sl (flat e_i_i64 a0.xUp) a0.xUp.length]] (S.one (.v (.bool r))) := by
 unfold m_forest_Good at h
 refine PC_go f_forest_Good rfl rfl ?_
 intro C hP
 unfold c_forest_Good; dsimp
 apply E_seq
 apply E_ops
 refine W1 (does_box rfl rfl rfl rfl) ?_
 apply WM
 apply W_nil
 refine E_keep [1] [1] ?_
 (try dsimp)
 apply E_seq
 apply E_seq
 apply E_ops
 refine WQ (does_add_ptr rfl rfl) ?_
 refine WQ (does_load1_ptr rfl rfl rfl) ?_
 refine WQ (does_len_sl rfl) ?_
 refine WQ (does_int rfl rfl rfl) ?_
 apply W_nil
 refine E_keep [1, 11] [1] ?_
 (try dsimp)
 refine E_cond rfl (fun hc1 => ?_) (fun hc1 => ?_)
 ·replace h := of_ct h hc1
  apply E_seq
  apply E_ops
  apply WM
  apply W_nil
  refine E_keep [2] [] ?_
  (try dsimp)
  apply E_ret
  cases h
  (try simp only [qt, qb, qn])
  refine fin_mk (xs := _) ⟨_, rfl, rfl⟩ ?_
  rfl
 ·replace h := of_cf h hc1
  apply E_skip
  refine E_keep [1] [1] ?_
  (try dsimp)
  obtain ⟨k2, k2d, h⟩ := of_jn h
  refine E_seqJ (α := Unit) (fun (i : Unit) => (⟨[(1, S.one (.ptr 1 0))], [(1, (⟨true, [.sl (flat e_i_i64 a0.xUp) a0.xUp.length]⟩ : Reg))]⟩ : St)) (fun i => k2 () = some r) (fun i h => ?_) ?_
  ·skip
   rw [k2d] at h; dsimp only at h
   (try dsimp)
   obtain ⟨k3, k3d, h⟩ := of_jn h
   refine E_seqJ (α := Unit) (fun (i : Unit) => (⟨[], []⟩ : St)) (fun i => k3 () = some r) (fun i h => ?_) ?_
   ·skip
    rw [k3d] at h; dsimp only at h
    (try dsimp)
    apply E_seq
    apply E_ops
    apply WM
    apply W_nil
    (try dsimp)
    apply E_ret
    cases h
    (try simp only [qt, qb, qn])
    refine fin_mk (xs := _) ⟨_, rfl, rfl⟩ ?_
    rfl
   ·
    skip
    apply E_seq
    apply E_ops
    refine WQ (does_add_ptr rfl rfl) ?_
    refine WQ (does_load1_ptr rfl rfl rfl) ?_
    refine WQ (does_len_sl rfl) ?_
    apply WM
    apply W_nil
    refine E_keep [1, 34, 35] [1] ?_
    (try dsimp)
    apply E_block
    (try dsimp)
    refine E_loopB (α := Int) (fun (i : Int) => (⟨[(1, S.one (.ptr 1 0)), (34, S.one (.v (.int .i64 ((a0.xUp.length : Nat) : Int)))), (35, S.one (.v (.int .i64 i)))], [(1, (⟨true, [.sl (flat e_i_i64 a0.xUp) a0.xUp.length]⟩ : Reg))]⟩ : St)) (fun n i => m_forest_Good_l0 F a0 k3 n i = some r) F (0 : Int) h ?_ (fun n i h => ?_)
    ·
     exact (Le.b (le_mk ⟨rfl, rfl, rfl, trivial⟩ ⟨rfl, trivial⟩))
    generalize i = v51 at h ⊢
    cases n with
    | zero => cases h
    | succ n52 =>
     unfold m_forest_Good_l0 at h
     (try dsimp)
     apply E_seq
     apply E_ops
     refine WQ (does_int rfl rfl rfl) ?_
     apply W_nil
     (try dsimp)
     apply E_seq
     refine E_cond rfl (fun hc53 => ?_) (fun hc53 => ?_)
     ·replace h := of_ct h hc53
      apply E_skip
      refine E_keep [1, 34, 35] [1] ?_
      (try dsimp)
      obtain ⟨k54, k54d, h⟩ := of_jn h
      refine E_seqJ (α := Unit) (fun (i : Unit) => (⟨[(1, S.one (.ptr 1 0)), (34, S.one (.v (.int .i64 ((a0.xUp.length : Nat) : Int)))), (35, S.one (.v (.int .i64 v51)))], [(1, (⟨true, [.sl (flat e_i_i64 a0.xUp) a0.xUp.length]⟩ : Reg))]⟩ : St)) (fun i => k54 () = some r) (fun i h => ?_) ?_
      ·skip
       rw [k54d] at h; dsimp only at h
       (try dsimp)
       apply E_ops
       obtain ⟨g55, h⟩ := of_gd h
       refine WQ (does_add rfl rfl g55.1 g55.2) ?_
       apply WM
       apply W_nil
       refine ⟨n52, (v51 + (1 : Int)), Nat.lt_succ_self _, h, ?_⟩
       exact (Le.b (le_mk ⟨rfl, rfl, rfl, trivial⟩ ⟨rfl, trivial⟩))
      ·
       skip
       apply E_block
       apply E_seq
       apply E_ops
       apply WM
       apply WM
       apply W_nil
       refine E_keep [1, 5, 34, 35] [1] ?_
       (try dsimp)
       apply E_seq
       apply E_ops
       apply WM
       apply W_nil
       (try dsimp)
       apply E_seq
       apply E_ops
       apply WM
       apply WM
       apply W_nil
       refine E_keep [1, 6, 7, 34, 35] [1] ?_
       (try dsimp)
       apply E_block
       (try dsimp)
       refine E_loopB (α := Int × Int) (fun (i : Int × Int) => (⟨[(1, S.one (.ptr 1 0)), (6, S.one (.v (.int .i64 i.1))), (7, S.one (.v (.int .i64 i.2))), (34, S.one (.v (.int .i64 ((a0.xUp.length : Nat) : Int)))), (35, S.one (.v (.int .i64 v51)))], [(1, (⟨true, [.sl (flat e_i_i64 a0.xUp) a0.xUp.length]⟩ : Reg))]⟩ : St)) (fun n i => m_forest_Good_l1 F a0 k54 n i.1 i.2 = some r) F ((0 : Int), v51) h ?_ (fun n i h => ?_)
       ·
        exact (Le.b (le_mk ⟨rfl, rfl, rfl, rfl, rfl, trivial⟩ ⟨rfl, trivial⟩))
       obtain ⟨v68, v69⟩ := i; dsimp only at h
       cases n with
       | zero => cases h
       | succ n70 =>
        unfold m_forest_Good_l1 at h
        (try dsimp)
        apply E_seq
        apply E_seq
        apply E_ops
        refine WQ (does_loadA_ptr rfl rfl rfl rfl (by decide)) ?_
        apply WM
        obtain ⟨x71, x71h, h⟩ := of_bind h
        refine W1 (does_call1 hP (p_forest_Forest_is F a0 v69 x71 x71h) rfl rfl rfl) ?_
        apply W_nil
        refine E_keep [1, 6, 7, 34, 35, 41] [1] ?_
        (try dsimp)
        refine E_cond rfl (fun hc72 => ?_) (fun hc72 => ?_)
        ·replace h := of_ct h hc72
         apply E_skip
         refine E_keep [1, 6, 7, 34, 35] [1] ?_
         (try dsimp)
         apply E_seq
         apply E_block
         apply E_seq
         apply E_seq
         apply E_ops
         apply WM
         refine WQ (does_add_ptr rfl rfl) ?_
         refine WQ (does_load1_ptr rfl rfl rfl) ?_
         refine WQ (does_len_sl rfl) ?_
         refine WQ (does_int rfl rfl rfl) ?_
         apply W_nil
         refine E_keep [1, 6, 7, 34, 35, 51] [1] ?_
         (try dsimp)
         refine E_cond rfl (fun hc73 => ?_) (fun hc73 => ?_)
         ·replace h := of_ct h hc73
          apply E_seq
          apply E_ops
          apply WM
          apply W_nil
          refine E_keep [2] [] ?_
          (try dsimp)
          apply E_ret
          cases h
          (try simp only [qt, qb, qn])
          refine fin_mk (xs := _) ⟨_, rfl, rfl⟩ ?_
          rfl
         ·replace h := of_cf h hc73
          apply E_skip
          refine E_keep [1, 6, 7, 34, 35] [1] ?_
          (try dsimp)
          apply E_ops
          apply WM
          obtain ⟨g74, h⟩ := of_gd h
          refine WQ (does_add rfl rfl g74.1 g74.2) ?_
          apply WM
          apply W_nil
          refine E_keep [1, 6, 7, 34, 35] [1] ?_
          (try dsimp)
          apply E_ops
          refine WQ (does_add_ptr rfl rfl) ?_
          refine WQ (does_load1_ptr rfl rfl rfl) ?_
          apply WM
          obtain ⟨g75, h⟩ := of_gd h
          refine WQ (does_idx_sl rfl rfl g75.1 g75.2) ?_
          refine WQ (does_load1_slF (k := 1) rfl (fun _ => rfl) g75 0 rfl rfl) ?_
          apply WM
          apply W_nil
          refine ⟨n70, ((v68 + (1 : Int)), (nth a0.xUp v69)), Nat.lt_succ_self _, h, ?_⟩
          exact (Le.b (le_mk ⟨rfl, rfl, rfl, rfl, rfl, trivial⟩ ⟨rfl, trivial⟩))
        ·replace h := of_cf h hc72
         apply E_exit
         refine ⟨(), h, ?_⟩
         exact (Le.b (le_mk ⟨rfl, rfl, rfl, trivial⟩ ⟨rfl, trivial⟩))
     ·replace h := of_cf h hc53
      apply E_exit
      refine ⟨(), h, ?_⟩
      exact (Le.b (le_mk trivial trivial))
  ·
   skip
   apply E_seq
   apply E_ops
   refine WQ (does_add_ptr rfl rfl) ?_
   refine WQ (does_load1_ptr rfl rfl rfl) ?_
   refine WQ (does_len_sl rfl) ?_
   apply WM
   apply W_nil
   refine E_keep [1, 13, 14, 15] [1] ?_
   (try dsimp)
   apply E_block
   (try dsimp)
   refine E_loopB (α := Int) (fun (i : Int) => (⟨[(1, S.one (.ptr 1 0)), (13, S.one (.sl (flat e_i_i64 a0.xUp) a0.xUp.length)), (14, S.one (.v (.int .i64 ((a0.xUp.length : Nat) : Int)))), (15, S.one (.v (.int .i64 i)))], [(1, (⟨true, [.sl (flat e_i_i64 a0.xUp) a0.xUp.length]⟩ : Reg))]⟩ : St)) (fun n i => m_forest_Good_l2 F a0 k2 n i = some r) F (0 : Int) h ?_ (fun n i h => ?_)
   ·
    exact (Le.b (le_mk ⟨rfl, rfl, rfl, rfl, trivial⟩ ⟨rfl, trivial⟩))
   generalize i = v87 at h ⊢
   cases n with
   | zero => cases h
   | succ n88 =>
    unfold m_forest_Good_l2 at h
    (try dsimp)
    apply E_seq
    apply E_ops
    refine WQ (does_int rfl rfl rfl) ?_
    apply W_nil
    (try dsimp)
    apply E_seq
    refine E_cond rfl (fun hc89 => ?_) (fun hc89 => ?_)
    ·replace h := of_ct h hc89
     apply E_skip
     refine E_keep [1, 13, 14, 15] [1] ?_
     (try dsimp)
     apply E_seq
     apply E_block
     apply E_seq
     apply E_ops
     obtain ⟨g90, h⟩ := of_gd h
     refine WQ (does_idx_sl rfl rfl g90.1 g90.2) ?_
     refine WQ (does_load1_slF (k := 1) rfl (fun _ => rfl) g90 0 rfl rfl) ?_
     apply WM
     apply W_nil
     refine E_keep [1, 4, 13, 14, 15] [1] ?_
     (try dsimp)
     apply E_seq
     apply E_ops
     apply WM
     refine WQ (does_int rfl rfl rfl) ?_
     apply WM
     apply W_lazy
     ·rfl
     ·intro hB; (try simp only [hB, bss, ctt]); exact does_mv rfl
     apply W_lazy
     ·rfl
     ·intro hB; (try simp only [hB, bss, ctt]); exact does_int rfl rfl rfl
     refine WQ (does_and rfl rfl rfl) ?_
     apply WM
     apply W_lazy
     ·rfl
     ·intro hB; (try simp only [hB, bss, ctt]); exact does_loadA_ptr rfl rfl rfl rfl (by decide)
     apply W_lazy
     ·rfl
     ·intro hB; (try simp only [hB, bss, ctt]); exact does_mv rfl
     obtain ⟨x91, x91h, h⟩ := of_bind h
     apply W_lazyD
     ·rfl
     ·intro hB; (try simp only [hB, bss, ctt]); exact does_call1 hP (p_forest_Forest_is F a0 (nth a0.xUp v87) x91 (of_lz x91h (bt hB))) rfl rfl rfl
     apply W_lazy
     ·rfl
     ·intro hB; (try simp only [hB, bss, ctt]); exact does_not rfl
     refine WQ (does_and rfl rfl rfl) ?_
     apply W_nil
     refine E_keep [1, 13, 14, 15, 30] [1] ?_
     (try dsimp)
     refine E_cond rfl (fun hc92 => ?_) (fun hc92 => ?_)
     ·replace h := of_ct h hc92
      apply E_seq
      apply E_ops
      apply WM
      apply W_nil
      refine E_keep [2] [] ?_
      (try dsimp)
      apply E_ret
      cases h
      (try simp only [qt, qb, qn])
      refine fin_mk (xs := _) ⟨_, rfl, rfl⟩ ?_
      rfl
     ·replace h := of_cf h hc92
      apply E_skip
      refine E_keep [1, 13, 14, 15] [1] ?_
      (try dsimp)
      apply E_ops
      obtain ⟨g93, h⟩ := of_gd h
      refine WQ (does_add rfl rfl g93.1 g93.2) ?_
      apply WM
      apply W_nil
      refine ⟨n88, (v87 + (1 : Int)), Nat.lt_succ_self _, h, ?_⟩
      exact (Le.b (le_mk ⟨rfl, rfl, rfl, rfl, trivial⟩ ⟨rfl, trivial⟩))
    ·replace h := of_cf h hc89
     apply E_exit
     refine ⟨(), h, ?_⟩
     exact (Le.b (le_mk ⟨rfl, trivial⟩ ⟨rfl, trivial⟩))
/- reeve/right.of -/
def c_right_of : VCode := (.seq (.ops [(o (.mv (ci 0)) 2)]) (.seq (.seq (.ops [(w 3 0), (o (.call 136 [(t 3)]) 4), (o (.un .not (t 4)) 5)]) (.cond (t 5) (.seq (.ops [(o (.mv (ci 0)) 2)]) .ret) .skip)) (.seq (.ops [(w 6 0), (w 2 6)]) .ret)))
theorem f_right_of : Fits Tryz.prog 196 1 c_right_of [(.tmp 2)] := fits_mk Tryz.func196 (by kernel_rfl) (by kernel_rfl) (by kernel_rfl)
theorem p_right_of (F : Nat) (a0 : Int) (r : Int) (h : m_right_of F a0 = some r) : PC Tryz.prog 196 [S.one (.v (.int .i64 a0))] (S.one (.v (.int .i64 r))) := by
 unfold m_right_of at h
 refine PC_go f_right_of rfl rfl ?_
 intro C hP
 unfold c_right_of; dsimp
 apply E_seq
 apply E_ops
 apply WM
 apply W_nil
 refine E_keep [0] [] ?_
 (try dsimp)
 apply E_seq
 apply E_seq
 apply E_ops
 apply WM
 obtain ⟨x1, x1h, h⟩ := of_bind h
 refine W1 (does_call1 hP (p_right_Good F a0 x1 x1h) rfl rfl rfl) ?_
 refine WQ (does_not rfl) ?_
 apply W_nil
 refine E_keep [0, 5] [] ?_
 (try dsimp)
 refine E_cond rfl (fun hc2 => ?_) (fun hc2 => ?_)
 ·replace h := of_ct h hc2
  apply E_seq
  apply E_ops
  apply WM
  apply W_nil
  refine E_keep [2] [] ?_
  (try dsimp)
  apply E_ret
  cases h
  (try simp only [qt, qb, qn])
  refine fin_mk (xs := _) ⟨_, rfl, rfl⟩ ?_
  rfl
 ·replace h := of_cf h hc2
  apply E_skip
  refine E_keep [0] [] ?_
  (try dsimp)
  apply E_seq
  apply E_ops
  apply WM
  apply WM
  apply W_nil
  refine E_keep [2] [] ?_
  (try dsimp)
  apply E_ret
  cases h
  (try simp only [qt, qb, qn])
  refine fin_mk (xs := _) ⟨_, rfl, rfl⟩ ?_
  rfl
/- reeve/right.Less -/
def c_right_Less : VCode := (.seq (.ops [(o (.mv (ci 0)) 4)]) (.seq (.ops [(w 5 0), (o (.call 196 [(t 5)]) 6), (w 7 1), (o (.call 196 [(t 7)]) 8), (o (.bin .andNot 3 (t 6) (t 8)) 9), (w 4 9)]) .ret))
theorem f_right_Less : Fits Tryz.prog 185 2 c_right_Less [(.tmp 4)] := fits_mk Tryz.func185 (by kernel_rfl) (by kernel_rfl) (by kernel_rfl)
theorem p_right_Less (F : Nat) (a0 : Int) (a1 : Int) (r : Int) (h : m_right_Less F a0 a1 = some r) : PC Tryz.prog 185 [S.one (.v (.int .i64 a0)), S.one (.v (.int .i64 a1))] (S.one (.v (.int .i64 r))) := by
 unfold m_right_Less at h
 refine PC_go f_right_Less rfl rfl ?_
 intro C hP
 unfold c_right_Less; dsimp
 apply E_seq
 apply E_ops
 apply WM
 apply W_nil
 refine E_keep [0, 1] [] ?_
 (try dsimp)
 apply E_seq
 apply E_ops
 apply WM
 obtain ⟨x1, x1h, h⟩ := of_bind h
 refine W1 (does_call1 hP (p_right_of F a0 x1 x1h) rfl rfl rfl) ?_
 apply WM
 obtain ⟨x2, x2h, h⟩ := of_bind h
 refine W1 (does_call1 hP (p_right_of F a1 x2 x2h) rfl rfl rfl) ?_
 refine WQ (does_int rfl rfl rfl) ?_
 apply WM
 apply W_nil
 refine E_keep [4] [] ?_
 (try dsimp)
 apply E_ret
 cases h
 (try simp only [qt, qb, qn])
 refine fin_mk (xs := _) ⟨_, rfl, rfl⟩ ?_
 rfl
/- reeve/right.Within -/
def c_right_Within : VCode := (.seq (.ops [(o (.mv (cb false)) 4)]) (.seq (.ops [(w 5 0), (w 6 1), (o (.call 185 [(t 5), (t 6)]) 7), (o (.bin .eql 3 (t 7) (ci 0)) 8), (w 4 8)]) .ret))
theorem f_right_Within : Fits Tryz.prog 162 2 c_right_Within [(.tmp 4)] := fits_mk Tryz.func162 (by kernel_rfl) (by kernel_rfl) (by kernel_rfl)
theorem p_right_Within (F : Nat) (a0 : Int) (a1 : Int) (r : Bool) (h : m_right_Within F a0 a1 = some r) : PC Tryz.prog 162 [S.one (.v (.int .i64 a0)), S.one (.v (.int .i64 a1))] (S.one (.v (.bool r))) := by
 unfold m_right_Within at h
 refine PC_go f_right_Within rfl rfl ?_
 intro C hP
 unfold c_right_Within; dsimp
 apply E_seq
 apply E_ops
 apply WM
 apply W_nil
 refine E_keep [0, 1] [] ?_
 (try dsimp)
 apply E_seq
 apply E_ops
 apply WM
 apply WM
 obtain ⟨x1, x1h, h⟩ := of_bind h
 refine W1 (does_call1 hP (p_right_Less F a0 a1 x1 x1h) rfl rfl rfl) ?_
 refine WQ (does_int rfl rfl rfl) ?_
 apply WM
 apply W_nil
 refine E_keep [4] [] ?_
 (try dsimp)
 apply E_ret
 cases h
 (try simp only [qt, qb, qn])
 refine fin_mk (xs := _) ⟨_, rfl, rfl⟩ ?_
 rfl
/- reeve/cap.Less -/
def c_cap_Less : VCode := (.seq (.ops [(o (.box 109 (t 0)) 2), (o (.box 109 (t 1)) 3), (o (.mv (cb false)) 4)]) (.seq (.seq (.ops [(o (.load true 4 (t 2)) 5), (o (.call 125 [(t 5)]) 6)]) (.cond (t 6) (.seq (.ops [(o (.mv (cb true)) 4)]) .ret) .skip)) (.seq (.ops [(o (.add 0 (t 2)) 7), (o (.load false 1 (t 7)) 8), (o (.add 0 (t 3)) 9), (o (.load false 1 (t 9)) 10), (o (.bin .eql 3 (t 8) (t 10)) 11), (w 12 11), (g_ (.add 1 (t 2)) 13 12 true), (g_ (.load false 1 (t 13)) 14 12 true), (g_ (.add 1 (t 3)) 15 12 true), (g_ (.load false 1 (t 15)) 16 12 true), (g_ (.bin .eql 3 (t 14) (t 16)) 17 12 true), (o (.pick (t 12) (t 17) (cb false)) 18), (w 19 18), (g_ (.add 2 (t 2)) 20 19 true), (g_ (.load false 1 (t 20)) 21 19 true), (g_ (.add 2 (t 3)) 22 19 true), (g_ (.load false 1 (t 22)) 23 19 true), (g_ (.call 162 [(t 21), (t 23)]) 24 19 true), (o (.pick (t 19) (t 24) (cb false)) 25), (w 26 25), (g_ (.add 3 (t 3)) 27 26 true), (g_ (.load false 1 (t 27)) 28 26 true), (g_ (.bin .eql 3 (t 28) (ci 0)) 29 26 true), (g_ (.mv (t 29)) 30 26 true), (g_ (.add 3 (t 3)) 31 30 false), (g_ (.load false 1 (t 31)) 32 30 false), (g_ (.add 3 (t 2)) 33 30 false), (g_ (.load false 1 (t 33)) 34 30 false), (g_ (.bin .eql 3 (t 32) (t 34)) 35 30 false), (g_ (.pick (t 30) (cb true) (t 35)) 36 26 true), (o (.pick (t 26) (t 36) (cb false)) 37), (w 4 37)]) .ret)))
theorem f_cap_Less : Fits Tryz.prog 130 2 c_cap_Less [(.tmp 4)] := fits_mk Tryz.func130 (by kernel_rfl) (by kernel_rfl) (by kernel_rfl)
theorem p_cap_Less (F : Nat) (a0 : S_cap_Cap) (a1 : S_cap_Cap) (r : Bool) (h : m_cap_Less F a0 a1 = some r) : PC Tryz.prog 130 [S.agg [.v (.int .i64 a0.xType), .v (.int .i64 a0.xThing), .v (.int .i64 a0.xRights), .v (.int .i64 a0.xBadge)], S.agg [.v (.int .i64 a1.xType), .v (.int .i64 a1.xThing), .v (.int .i64 a1.xRights), .v (.int .i64 a1.xBadge)]] (S.one (.v (.bool r))) := by
 unfold m_cap_Less at h
 refine PC_go f_cap_Less rfl rfl ?_
 intro C hP
 unfold c_cap_Less; dsimp
 apply E_seq
 apply E_ops
 refine W1 (does_box rfl rfl rfl rfl) ?_
 refine W1 (does_box rfl rfl rfl rfl) ?_
 apply WM
 apply W_nil
 refine E_keep [2, 3] [2, 3] ?_
 (try dsimp)
 apply E_seq
 apply E_seq
 apply E_ops
 refine WQ (does_loadA_ptr rfl rfl rfl rfl (by decide)) ?_
 obtain ⟨x1, x1h, h⟩ := of_bind h
 refine W1 (does_call1 hP (p_cap_None F a0 x1 x1h) rfl rfl rfl) ?_
 apply W_nil
 refine E_keep [2, 3, 6] [2, 3] ?_
 (try dsimp)
 refine E_cond rfl (fun hc2 => ?_) (fun hc2 => ?_)
 ·replace h := of_ct h hc2
  apply E_seq
  apply E_ops
  apply WM
  apply W_nil
  refine E_keep [4] [] ?_
  (try dsimp)
  apply E_ret
  cases h
  (try simp only [qt, qb, qn])
  refine fin_mk (xs := _) ⟨_, rfl, rfl⟩ ?_
  rfl
 ·replace h := of_cf h hc2
  apply E_skip
  refine E_keep [2, 3] [2, 3] ?_
  (try dsimp)
  apply E_seq
  apply E_ops
  refine WQ (does_add_ptr rfl rfl) ?_
  refine WQ (does_load1_ptr rfl rfl rfl) ?_
  refine WQ (does_add_ptr rfl rfl) ?_
  refine WQ (does_load1_ptr rfl rfl rfl) ?_
  refine WQ (does_int rfl rfl rfl) ?_
  apply WM
  apply W_lazy
  ·rfl
  ·intro hB; (try simp only [hB, bss, ctt]); exact does_add_ptr rfl rfl
  apply W_lazy
  ·rfl
  ·intro hB; (try simp only [hB, bss, ctt]); exact does_load1_ptr rfl rfl rfl
  apply W_lazy
  ·rfl
  ·intro hB; (try simp only [hB, bss, ctt]); exact does_add_ptr rfl rfl
  apply W_lazy
  ·rfl
  ·intro hB; (try simp only [hB, bss, ctt]); exact does_load1_ptr rfl rfl rfl
  apply W_lazy
  ·rfl
  ·intro hB; (try simp only [hB, bss, ctt]); exact does_int rfl rfl rfl
  refine WQ (does_and rfl rfl rfl) ?_
  apply WM
  apply W_lazy
  ·rfl
  ·intro hB; (try simp only [hB, bss, ctt]); exact does_add_ptr rfl rfl
  apply W_lazy
  ·rfl
  ·intro hB; (try simp only [hB, bss, ctt]); exact does_load1_ptr rfl rfl rfl
  apply W_lazy
  ·rfl
  ·intro hB; (try simp only [hB, bss, ctt]); exact does_add_ptr rfl rfl
  apply W_lazy
  ·rfl
  ·intro hB; (try simp only [hB, bss, ctt]); exact does_load1_ptr rfl rfl rfl
  obtain ⟨x3, x3h, h⟩ := of_bind h
  apply W_lazyD
  ·rfl
  ·intro hB; (try simp only [hB, bss, ctt]); exact does_call1 hP (p_right_Within F a0.xRights a1.xRights x3 (of_lz x3h (bt hB))) rfl rfl rfl
  refine WQ (does_and rfl rfl rfl) ?_
  apply WM
  apply W_lazy
  ·rfl
  ·intro hB; (try simp only [hB, bss, ctt]); exact does_add_ptr rfl rfl
  apply W_lazy
  ·rfl
  ·intro hB; (try simp only [hB, bss, ctt]); exact does_load1_ptr rfl rfl rfl
  apply W_lazy
  ·rfl
  ·intro hB; (try simp only [hB, bss, ctt]); exact does_int rfl rfl rfl
  apply W_lazy
  ·rfl
  ·intro hB; (try simp only [hB, bss, ctt]); exact does_mv rfl
  apply W_lazy2
  ·rfl
  ·intro hA hB; (try simp only [hA, hB, bss, Bool.and_true, Bool.true_and, ctt]); exact (does_add_ptr rfl rfl).does
  apply W_lazy2
  ·rfl
  ·intro hA hB; (try simp only [hA, hB, bss, Bool.and_true, Bool.true_and, ctt]); exact (does_load1_ptr rfl rfl rfl).does
  apply W_lazy2
  ·rfl
  ·intro hA hB; (try simp only [hA, hB, bss, Bool.and_true, Bool.true_and, ctt]); exact (does_add_ptr rfl rfl).does
  apply W_lazy2
  ·rfl
  ·intro hA hB; (try simp only [hA, hB, bss, Bool.and_true, Bool.true_and, ctt]); exact (does_load1_ptr rfl rfl rfl).does
  apply W_lazy2
  ·rfl
  ·intro hA hB; (try simp only [hA, hB, bss, Bool.and_true, Bool.true_and, ctt]); exact (does_int rfl rfl rfl).does
  apply W_lazy
  ·rfl
  ·intro hB; (try simp only [hB, bss, ctt]); exact does_or rfl rfl rfl
  refine WQ (does_and rfl rfl rfl) ?_
  apply WM
  apply W_nil
  refine E_keep [4] [] ?_
  (try dsimp)
  apply E_ret
  cases h
  (try simp only [qt, qb, qn])
  refine fin_mk (xs := _) ⟨_, rfl, rfl⟩ ?_
  rfl
/- (reeve/state.State).allowed -/
def c_state_State_allowed : VCode := (.seq (.ops [(o (.box 27 (t 0)) 1), (o (.mv (cb false)) 2)]) (.seq (.seq (.ops [(o (.add 3 (t 1)) 7), (o (.load false 1 (t 7)) 8), (o (.len false (t 8)) 9), (o (.mv (ci 0)) 10)]) (.block 0 (.loop (.seq (.ops [(o (.bin .lss 3 (t 10) (t 9)) 11)]) (.seq (.cond (t 11) .skip (.exit 0)) (.seq (.block 1 (.seq (.ops [(o (.idxS 5 (t 8) (t 10)) 12), (o (.load true 5 (t 12)) 13), (o (.newv [zi, zi, zi, zi, zi]) 4), (n_ (.store 5 (t 4) (t 13)))]) (.seq (.ops [(o (.add 4 (t 4)) 14), (o (.load false 1 (t 14)) 15), (w 5 15)]) (.seq (.ops [(o (.add 3 (t 1)) 16), (o (.load false 1 (t 16)) 17), (o (.len false (t 17)) 18), (o (.mv (ci 0)) 19)]) (.block 2 (.loop (.seq (.ops [(o (.bin .lss 3 (t 19) (t 18)) 20)]) (.seq (.cond (t 20) .skip (.exit 2)) (.seq (.block 3 (.seq (.seq (.ops [(w 21 5), (o (.bin .lss 3 (t 21) (ci 0)) 22)]) (.cond (t 22) (.exit 2) .skip)) (.seq (.ops [(o (.add 3 (t 1)) 23), (o (.load false 1 (t 23)) 24), (w 25 5), (o (.idxS 5 (t 24) (t 25)) 26), (o (.load true 5 (t 26)) 27), (o (.newv [zi, zi, zi, zi, zi]) 6), (n_ (.store 5 (t 6) (t 27)))]) (.seq (.seq (.ops [(o (.add 0 (t 4)) 28), (o (.load true 4 (t 28)) 29), (o (.add 0 (t 6)) 30), (o (.load true 4 (t 30)) 31), (o (.call 130 [(t 29), (t 31)]) 32), (o (.un .not (t 32)) 33), (w 34 33), (g_ (.add 0 (t 6)) 35 34 true), (g_ (.add 0 (t 35)) 36 34 true), (g_ (.load false 1 (t 36)) 37 34 true), (g_ (.bin .neq 3 (t 37) (ci 1)) 38 34 true), (g_ (.mv (t 38)) 39 34 true), (g_ (.add 0 (t 4)) 40 39 false), (g_ (.add 1 (t 40)) 41 39 false), (g_ (.load false 1 (t 41)) 42 39 false), (g_ (.add 0 (t 6)) 43 39 false), (g_ (.add 1 (t 43)) 44 39 false), (g_ (.load false 1 (t 44)) 45 39 false), (g_ (.bin .eql 3 (t 42) (t 45)) 46 39 false), (g_ (.pick (t 39) (cb true) (t 46)) 47 34 true), (o (.pick (t 34) (t 47) (cb false)) 48)]) (.cond (t 48) (.seq (.ops [(o (.mv (cb false)) 2)]) .ret) .skip)) (.ops [(o (.add 4 (t 6)) 49), (o (.load false 1 (t 49)) 50), (w 5 50)]))))) (.ops [(o (.bin .add 3 (t 19) (ci 1)) 51), (w 19 51)])))))))))) (.ops [(o (.bin .add 3 (t 10) (ci 1)) 52), (w 10 52)]))))))) (.seq (.ops [(o (.mv (cb true)) 2)]) .ret)))
theorem f_state_State_allowed : Fits Tryz.prog 92 1 c_state_State_allowed [(.tmp 2)] := fits_mk Tryz.func92 (by kernel_rfl) (by kernel_rfl) (by kernel_rfl)
theorem p_state_State_allowed (F : Nat) (a0 : S_state_State) (r : Bool) (h : m_state_State_allowed F a0 = some r) : PC Tryz.prog 92 [S.agg [.v (.int .i64 a0.xGeo.xThreads), .v (.int .i64 a0.xGeo.xSlots), .v (.int .i64 a0.xGeo.xThings), .sl (flat e_S_state_Slot a0.xSlots) a0.xSlots.length, .sl (flat e_S_thing_Thing a0.xThings) a0.xThings.length]] (S.one (.v (.bool r))) := by
 unfold m_state_State_allowed at h
 refine PC_go f_state_State_allowed rfl rfl ?_
 intro C hP
 unfold c_state_State_allowed; dsimp
 apply E_seq
 apply E_ops
 refine W1 (does_box rfl rfl rfl rfl) ?_
 apply WM
 apply W_nil
 refine E_keep [1] [1] ?_
 (try dsimp)
 obtain ⟨k1, k1d, h⟩ := of_jn h
 refine E_seqJ (α := Unit) (fun (i : Unit) => (⟨[], []⟩ : St)) (fun i => k1 () = some r) (fun i h => ?_) ?_
 ·skip
  rw [k1d] at h; dsimp only at h
  (try dsimp)
  apply E_seq
  apply E_ops
  apply WM
  apply W_nil
  (try dsimp)
  apply E_ret
  cases h
  (try simp only [qt, qb, qn])
  refine fin_mk (xs := _) ⟨_, rfl, rfl⟩ ?_
  rfl
 ·
  skip
  apply E_seq
  apply E_ops
  refine WQ (does_add_ptr rfl rfl) ?_
  refine WQ (does_load1_ptr rfl rfl rfl) ?_
  refine WQ (does_len_sl rfl) ?_
  apply WM
  apply W_nil
  refine E_keep [1, 8, 9, 10] [1] ?_
  (try dsimp)
  apply E_block
  (try dsimp)
  refine E_loopB (α := Int) (fun (i : Int) => (⟨[(1, S.one (.ptr 1 0)), (8, S.one (.sl (flat e_S_state_Slot a0.xSlots) a0.xSlots.length)), (9, S.one (.v (.int .i64 ((a0.xSlots.length : Nat) : Int)))), (10, S.one (.v (.int .i64 i)))], [(1, (⟨true, [.v (.int .i64 a0.xGeo.xThreads), .v (.int .i64 a0.xGeo.xSlots), .v (.int .i64 a0.xGeo.xThings), .sl (flat e_S_state_Slot a0.xSlots) a0.xSlots.length, .sl (flat e_S_thing_Thing a0.xThings) a0.xThings.length]⟩ : Reg))]⟩ : St)) (fun n i => m_state_State_allowed_l0 F a0 k1 n i = some r) F (0 : Int) h ?_ (fun n i h => ?_)
  ·
   exact (Le.b (le_mk ⟨rfl, rfl, rfl, rfl, trivial⟩ ⟨rfl, trivial⟩))
  generalize i = v57 at h ⊢
  cases n with
  | zero => cases h
  | succ n58 =>
   unfold m_state_State_allowed_l0 at h
   (try dsimp)
   apply E_seq
   apply E_ops
   refine WQ (does_int rfl rfl rfl) ?_
   apply W_nil
   (try dsimp)
   apply E_seq
   refine E_cond rfl (fun hc59 => ?_) (fun hc59 => ?_)
   ·replace h := of_ct h hc59
    apply E_skip
    refine E_keep [1, 8, 9, 10] [1] ?_
    (try dsimp)
    obtain ⟨k60, k60d, h⟩ := of_jn h
    refine E_seqJ (α := Unit) (fun (i : Unit) => (⟨[(1, S.one (.ptr 1 0)), (8, S.one (.sl (flat e_S_state_Slot a0.xSlots) a0.xSlots.length)), (9, S.one (.v (.int .i64 ((a0.xSlots.length : Nat) : Int)))), (10, S.one (.v (.int .i64 v57)))], [(1, (⟨true, [.v (.int .i64 a0.xGeo.xThreads), .v (.int .i64 a0.xGeo.xSlots), .v (.int .i64 a0.xGeo.xThings), .sl (flat e_S_state_Slot a0.xSlots) a0.xSlots.length, .sl (flat e_S_thing_Thing a0.xThings) a0.xThings.length]⟩ : Reg))]⟩ : St)) (fun i => k60 () = some r) (fun i h => ?_) ?_
    ·skip
     rw [k60d] at h; dsimp only at h
     (try dsimp)
     apply E_ops
     obtain ⟨g61, h⟩ := of_gd h
     refine WQ (does_add rfl rfl g61.1 g61.2) ?_
     apply WM
     apply W_nil
     refine ⟨n58, (v57 + (1 : Int)), Nat.lt_succ_self _, h, ?_⟩
     exact (Le.b (le_mk ⟨rfl, rfl, rfl, rfl, trivial⟩ ⟨rfl, trivial⟩))
    ·
     skip
     apply E_block
     apply E_seq
     apply E_ops
     obtain ⟨g62, h⟩ := of_gd h
     refine WQ (does_idx_sl rfl rfl g62.1 g62.2) ?_
     refine WQ (does_loadA_slF (k := 5) rfl (fun _ => rfl) g62 0 rfl rfl rfl) ?_
     refine W1 (does_newv rfl rfl) ?_
     refine W1 (does_store rfl rfl rfl rfl rfl (Nat.le_of_ble_eq_true rfl) rfl (by decide)) ?_
     apply W_nil
     refine E_keep [1, 4, 8, 9, 10] [1, 4] ?_
     (try dsimp)
     apply E_seq
     apply E_ops
     refine WQ (does_add_ptr rfl rfl) ?_
     refine WQ (does_load1_ptr rfl rfl rfl) ?_
     apply WM
     apply W_nil
     refine E_keep [1, 4, 5, 8, 9, 10] [1, 4] ?_
     (try dsimp)
     apply E_seq
     apply E_ops
     refine WQ (does_add_ptr rfl rfl) ?_
     refine WQ (does_load1_ptr rfl rfl rfl) ?_
     refine WQ (does_len_sl rfl) ?_
     apply WM
     apply W_nil
     refine E_keep [1, 4, 5, 8, 9, 10, 18, 19] [1, 4] ?_
     (try dsimp)
     apply E_block
     (try dsimp)
     refine E_loopB (α := Int × Int) (fun (i : Int × Int) => (⟨[(1, S.one (.ptr 1 0)), (4, S.one (.ptr 4 0)), (5, S.one (.v (.int .i64 i.1))), (8, S.one (.sl (flat e_S_state_Slot a0.xSlots) a0.xSlots.length)), (9, S.one (.v (.int .i64 ((a0.xSlots.length : Nat) : Int)))), (10, S.one (.v (.int .i64 v57))), (18, S.one (.v (.int .i64 ((a0.xSlots.length : Nat) : Int)))), (19, S.one (.v (.int .i64 i.2)))], [(1, (⟨true, [.v (.int .i64 a0.xGeo.xThreads), .v (.int .i64 a0.xGeo.xSlots), .v (.int .i64 a0.xGeo.xThings), .sl (flat e_S_state_Slot a0.xSlots) a0.xSlots.length, .sl (flat e_S_thing_Thing a0.xThings) a0.xThings.length]⟩ : Reg)), (4, (⟨true, [.v (.int .i64 (nth a0.xSlots v57).xCap.xType), .v (.int .i64 (nth a0.xSlots v57).xCap.xThing), .v (.int .i64 (nth a0.xSlots v57).xCap.xRights), .v (.int .i64 (nth a0.xSlots v57).xCap.xBadge), .v (.int .i64 (nth a0.xSlots v57).xUp)]⟩ : Reg))]⟩ : St)) (fun n i => m_state_State_allowed_l1 F a0 v57 k60 n i.1 i.2 = some r) F ((nth a0.xSlots v57).xUp, (0 : Int)) h ?_ (fun n i h => ?_)
     ·
      exact (Le.b (le_mk ⟨rfl, rfl, rfl, rfl, rfl, rfl, rfl, rfl, trivial⟩ ⟨rfl, rfl, trivial⟩))
     obtain ⟨v77, v78⟩ := i; dsimp only at h
     cases n with
     | zero => cases h
     | succ n79 =>
      unfold m_state_State_allowed_l1 at h
      (try dsimp)
      apply E_seq
      apply E_ops
      refine WQ (does_int rfl rfl rfl) ?_
      apply W_nil
      (try dsimp)
      apply E_seq
      refine E_cond rfl (fun hc80 => ?_) (fun hc80 => ?_)
      ·replace h := of_ct h hc80
       apply E_skip
       refine E_keep [1, 4, 5, 8, 9, 10, 18, 19] [1, 4] ?_
       (try dsimp)
       apply E_seq
       apply E_block
       apply E_seq
       apply E_seq
       apply E_ops
       apply WM
       refine WQ (does_int rfl rfl rfl) ?_
       apply W_nil
       refine E_keep [1, 4, 5, 8, 9, 10, 18, 19, 22] [1, 4] ?_
       (try dsimp)
       refine E_cond rfl (fun hc81 => ?_) (fun hc81 => ?_)
       ·replace h := of_ct h hc81
        apply E_exit
        refine ⟨(), h, ?_⟩
        exact (Le.b (le_mk ⟨rfl, rfl, rfl, rfl, trivial⟩ ⟨rfl, trivial⟩))
       ·replace h := of_cf h hc81
        apply E_skip
        refine E_keep [1, 4, 5, 8, 9, 10, 18, 19] [1, 4] ?_
        (try dsimp)
        apply E_seq
        apply E_ops
        refine WQ (does_add_ptr rfl rfl) ?_
        refine WQ (does_load1_ptr rfl rfl rfl) ?_
        apply WM
        obtain ⟨g82, h⟩ := of_gd h
        refine WQ (does_idx_sl rfl rfl g82.1 g82.2) ?_
        refine WQ (does_loadA_slF (k := 5) rfl (fun _ => rfl) g82 0 rfl rfl rfl) ?_
        refine W1 (does_newv rfl rfl) ?_
        refine W1 (does_store rfl rfl rfl rfl rfl (Nat.le_of_ble_eq_true rfl) rfl (by decide)) ?_
        apply W_nil
        refine E_keep [1, 4, 6, 8, 9, 10, 18, 19] [1, 4, 6] ?_
        (try dsimp)
        apply E_seq
        apply E_seq
        apply E_ops
        refine WQ (does_add_ptr rfl rfl) ?_
        refine WQ (does_loadA_ptr rfl rfl rfl rfl (by decide)) ?_
        refine WQ (does_add_ptr rfl rfl) ?_
        refine WQ (does_loadA_ptr rfl rfl rfl rfl (by decide)) ?_
        obtain ⟨x83, x83h, h⟩ := of_bind h
        refine W1 (does_call1 hP (p_cap_Less F ((nth a0.xSlots v57).xCap) ((nth a0.xSlots v77).xCap) x83 x83h) rfl rfl rfl) ?_
        refine WQ (does_not rfl) ?_
        apply WM
        apply W_lazy
        ·rfl
        ·intro hB; (try simp only [hB, bss, ctt]); exact does_add_ptr rfl rfl
        apply W_lazy
        ·rfl
        ·intro hB; (try simp only [hB, bss, ctt]); exact does_add_ptr rfl rfl
        apply W_lazy
        ·rfl
        ·intro hB; (try simp only [hB, bss, ctt]); exact does_load1_ptr rfl rfl rfl
        apply W_lazy
        ·rfl
        ·intro hB; (try simp only [hB, bss, ctt]); exact does_int rfl rfl rfl
        apply W_lazy
        ·rfl
        ·intro hB; (try simp only [hB, bss, ctt]); exact does_mv rfl
        apply W_lazy2
        ·rfl
        ·intro hA hB; (try simp only [hA, hB, bss, Bool.and_true, Bool.true_and, ctt]); exact (does_add_ptr rfl rfl).does
        apply W_lazy2
        ·rfl
        ·intro hA hB; (try simp only [hA, hB, bss, Bool.and_true, Bool.true_and, ctt]); exact (does_add_ptr rfl rfl).does
        apply W_lazy2
        ·rfl
        ·intro hA hB; (try simp only [hA, hB, bss, Bool.and_true, Bool.true_and, ctt]); exact (does_load1_ptr rfl rfl rfl).does
        apply W_lazy2
        ·rfl
        ·intro hA hB; (try simp only [hA, hB, bss, Bool.and_true, Bool.true_and, ctt]); exact (does_add_ptr rfl rfl).does
        apply W_lazy2
        ·rfl
        ·intro hA hB; (try simp only [hA, hB, bss, Bool.and_true, Bool.true_and, ctt]); exact (does_add_ptr rfl rfl).does
        apply W_lazy2
        ·rfl
        ·intro hA hB; (try simp only [hA, hB, bss, Bool.and_true, Bool.true_and, ctt]); exact (does_load1_ptr rfl rfl rfl).does
        apply W_lazy2
        ·rfl
        ·intro hA hB; (try simp only [hA, hB, bss, Bool.and_true, Bool.true_and, ctt]); exact (does_int rfl rfl rfl).does
        apply W_lazy
        ·rfl
        ·intro hB; (try simp only [hB, bss, ctt]); exact does_or rfl rfl rfl
        refine WQ (does_and rfl rfl rfl) ?_
        apply W_nil
        refine E_keep [1, 4, 6, 8, 9, 10, 18, 19, 48] [1, 4, 6] ?_
        (try dsimp)
        refine E_cond rfl (fun hc84 => ?_) (fun hc84 => ?_)
        ·replace h := of_ct h hc84
         apply E_seq
         apply E_ops
         apply WM
         apply W_nil
         refine E_keep [2] [] ?_
         (try dsimp)
         apply E_ret
         cases h
         (try simp only [qt, qb, qn])
         refine fin_mk (xs := _) ⟨_, rfl, rfl⟩ ?_
         rfl
        ·replace h := of_cf h hc84
         apply E_skip
         refine E_keep [1, 4, 6, 8, 9, 10, 18, 19] [1, 4, 6] ?_
         (try dsimp)
         apply E_ops
         refine WQ (does_add_ptr rfl rfl) ?_
         refine WQ (does_load1_ptr rfl rfl rfl) ?_
         apply WM
         apply W_nil
         refine E_keep [1, 4, 5, 8, 9, 10, 18, 19] [1, 4] ?_
         (try dsimp)
         apply E_ops
         obtain ⟨g85, h⟩ := of_gd h
         refine WQ (does_add rfl rfl g85.1 g85.2) ?_
         apply WM
         apply W_nil
         refine ⟨n79, ((nth a0.xSlots v77).xUp, (v78 + (1 : Int))), Nat.lt_succ_self _, h, ?_⟩
         exact (Le.b (le_mk ⟨rfl, rfl, rfl, rfl, rfl, rfl, rfl, rfl, trivial⟩ ⟨rfl, rfl, trivial⟩))
      ·replace h := of_cf h hc80
       apply E_exit
       refine ⟨(), h, ?_⟩
       exact (Le.b (le_mk ⟨rfl, rfl, rfl, rfl, trivial⟩ ⟨rfl, trivial⟩))
   ·replace h := of_cf h hc59
    apply E_exit
    refine ⟨(), h, ?_⟩
    exact (Le.b (le_mk trivial trivial))
/- reeve/state.Good -/
def c_state_Good : VCode := (.seq (.ops [(o (.box 27 (t 0)) 1), (o (.mv (cb false)) 2)]) (.seq (.seq (.ops [(o (.add 0 (t 1)) 3), (o (.load true 3 (t 3)) 4), (o (.call 38 [(t 4)]) 5), (o (.un .not (t 5)) 6), (w 7 6), (g_ (.add 3 (t 1)) 8 7 false), (g_ (.load false 1 (t 8)) 9 7 false), (g_ (.len false (t 9)) 10 7 false), (g_ (.add 0 (t 1)) 11 7 false), (g_ (.add 1 (t 11)) 12 7 false), (g_ (.load false 1 (t 12)) 13 7 false), (g_ (.bin .neq 3 (t 10) (t 13)) 14 7 false), (o (.pick (t 7) (cb true) (t 14)) 15), (w 16 15), (g_ (.add 4 (t 1)) 17 16 false), (g_ (.load false 1 (t 17)) 18 16 false), (g_ (.len false (t 18)) 19 16 false), (g_ (.add 0 (t 1)) 20 16 false), (g_ (.add 2 (t 20)) 21 16 false), (g_ (.load false 1 (t 21)) 22 16 false), (g_ (.bin .neq 3 (t 19) (t 22)) 23 16 false), (o (.pick (t 16) (cb true) (t 23)) 24)]) (.cond (t 24) (.seq (.ops [(o (.mv (cb false)) 2)]) .ret) .skip)) (.seq (.ops [(o (.load true 5 (t 1)) 25), (o (.call 86 [(t 25)]) 26), (w 27 26), (g_ (.load true 5 (t 1)) 28 27 true), (g_ (.call 87 [(t 28)]) 29 27 true), (o (.pick (t 27) (t 29) (cb false)) 30), (w 31 30), (g_ (.load true 5 (t 1)) 32 31 true), (g_ (.call 88 [(t 32)]) 33 31 true), (o (.pick (t 31) (t 33) (cb false)) 34), (w 35 34), (g_ (.load true 5 (t 1)) 36 35 true), (g_ (.call 89 [(t 36)]) 37 35 true), (g_ (.un .not (t 37)) 38 35 true), (o (.pick (t 35) (t 38) (cb false)) 39), (w 40 39), (g_ (.load true 5 (t 1)) 41 40 true), (g_ (.call 91 [(t 41)]) 42 40 true), (g_ (.call 90 [(t 42)]) 43 40 true), (o (.pick (t 40) (t 43) (cb false)) 44), (w 45 44), (g_ (.load true 5 (t 1)) 46 45 true), (g_ (.call 92 [(t 46)]) 47 45 true), (o (.pick (t 45) (t 47) (cb false)) 48), (w 2 48)]) .ret)))
theorem f_state_Good : Fits Tryz.prog 55 1 c_state_Good [(.tmp 2)] := fits_mk Tryz.func55 (by kernel_rfl) (by kernel_rfl) (by kernel_rfl)
theorem p_state_Good (F : Nat) (a0 : S_state_State) (r : Bool) (h : m_state_Good F a0 = some r) : PC Tryz.prog 55 [S.agg [.v (.int .i64 a0.xGeo.xThreads), .v (.int .i64 a0.xGeo.xSlots), .v (.int .i64 a0.xGeo.xThings), .sl (flat e_S_state_Slot a0.xSlots) a0.xSlots.length, .sl (flat e_S_thing_Thing a0.xThings) a0.xThings.length]] (S.one (.v (.bool r))) := by
 unfold m_state_Good at h
 refine PC_go f_state_Good rfl rfl ?_
 intro C hP
 unfold c_state_Good; dsimp
 apply E_seq
 apply E_ops
 refine W1 (does_box rfl rfl rfl rfl) ?_
 apply WM
 apply W_nil
 refine E_keep [1] [1] ?_
 (try dsimp)
 apply E_seq
 apply E_seq
 apply E_ops
 refine WQ (does_add_ptr rfl rfl) ?_
 refine WQ (does_loadA_ptr rfl rfl rfl rfl (by decide)) ?_
 obtain ⟨x1, x1h, h⟩ := of_bind h
 refine W1 (does_call1 hP (p_geo_Good F a0.xGeo x1 x1h) rfl rfl rfl) ?_
 refine WQ (does_not rfl) ?_
 apply WM
 apply W_lazy
 ·rfl
 ·intro hB; (try simp only [hB, bss, ctt]); exact does_add_ptr rfl rfl
 apply W_lazy
 ·rfl
 ·intro hB; (try simp only [hB, bss, ctt]); exact does_load1_ptr rfl rfl rfl
 apply W_lazy
 ·rfl
 ·intro hB; (try simp only [hB, bss, ctt]); exact does_len_sl rfl
 apply W_lazy
 ·rfl
 ·intro hB; (try simp only [hB, bss, ctt]); exact does_add_ptr rfl rfl
 apply W_lazy
 ·rfl
 ·intro hB; (try simp only [hB, bss, ctt]); exact does_add_ptr rfl rfl
 apply W_lazy
 ·rfl
 ·intro hB; (try simp only [hB, bss, ctt]); exact does_load1_ptr rfl rfl rfl
 apply W_lazy
 ·rfl
 ·intro hB; (try simp only [hB, bss, ctt]); exact does_int rfl rfl rfl
 refine WQ (does_or rfl rfl rfl) ?_
 apply WM
 apply W_lazy
 ·rfl
 ·intro hB; (try simp only [hB, bss, ctt]); exact does_add_ptr rfl rfl
 apply W_lazy
 ·rfl
 ·intro hB; (try simp only [hB, bss, ctt]); exact does_load1_ptr rfl rfl rfl
 apply W_lazy
 ·rfl
 ·intro hB; (try simp only [hB, bss, ctt]); exact does_len_sl rfl
 apply W_lazy
 ·rfl
 ·intro hB; (try simp only [hB, bss, ctt]); exact does_add_ptr rfl rfl
 apply W_lazy
 ·rfl
 ·intro hB; (try simp only [hB, bss, ctt]); exact does_add_ptr rfl rfl
 apply W_lazy
 ·rfl
 ·intro hB; (try simp only [hB, bss, ctt]); exact does_load1_ptr rfl rfl rfl
 apply W_lazy
 ·rfl
 ·intro hB; (try simp only [hB, bss, ctt]); exact does_int rfl rfl rfl
 refine WQ (does_or rfl rfl rfl) ?_
 apply W_nil
 refine E_keep [1, 24] [1] ?_
 (try dsimp)
 refine E_cond rfl (fun hc2 => ?_) (fun hc2 => ?_)
 ·replace h := of_ct h hc2
  apply E_seq
  apply E_ops
  apply WM
  apply W_nil
  refine E_keep [2] [] ?_
  (try dsimp)
  apply E_ret
  cases h
  (try simp only [qt, qb, qn])
  refine fin_mk (xs := _) ⟨_, rfl, rfl⟩ ?_
  rfl
 ·replace h := of_cf h hc2
  apply E_skip
  refine E_keep [1] [1] ?_
  (try dsimp)
  apply E_seq
  apply E_ops
  refine WQ (does_loadA_ptr rfl rfl rfl rfl (by decide)) ?_
  obtain ⟨x3, x3h, h⟩ := of_bind h
  refine W1 (does_call1 hP (p_state_State_caps F a0 x3 x3h) rfl rfl rfl) ?_
  apply WM
  apply W_lazy
  ·rfl
  ·intro hB; (try simp only [hB, bss, ctt]); exact does_loadA_ptr rfl rfl rfl rfl (by decide)
  obtain ⟨x4, x4h, h⟩ := of_bind h
  apply W_lazyD
  ·rfl
  ·intro hB; (try simp only [hB, bss, ctt]); exact does_call1 hP (p_state_State_things F a0 x4 (of_lz x4h (bt hB))) rfl rfl rfl
  refine WQ (does_and rfl rfl rfl) ?_
  apply WM
  apply W_lazy
  ·rfl
  ·intro hB; (try simp only [hB, bss, ctt]); exact does_loadA_ptr rfl rfl rfl rfl (by decide)
  obtain ⟨x5, x5h, h⟩ := of_bind h
  apply W_lazyD
  ·rfl
  ·intro hB; (try simp only [hB, bss, ctt]); exact does_call1 hP (p_state_State_nodes F a0 x5 (of_lz x5h (bt hB))) rfl rfl rfl
  refine WQ (does_and rfl rfl rfl) ?_
  apply WM
  apply W_lazy
  ·rfl
  ·intro hB; (try simp only [hB, bss, ctt]); exact does_loadA_ptr rfl rfl rfl rfl (by decide)
  obtain ⟨x6, x6h, h⟩ := of_bind h
  apply W_lazyD
  ·rfl
  ·intro hB; (try simp only [hB, bss, ctt]); exact does_call1 hP (p_state_State_ring F a0 x6 (of_lz x6h (bt hB))) rfl rfl rfl
  apply W_lazy
  ·rfl
  ·intro hB; (try simp only [hB, bss, ctt]); exact does_not rfl
  refine WQ (does_and rfl rfl rfl) ?_
  apply WM
  apply W_lazy
  ·rfl
  ·intro hB; (try simp only [hB, bss, ctt]); exact does_loadA_ptr rfl rfl rfl rfl (by decide)
  obtain ⟨x7, x7h, h⟩ := of_bind h
  apply W_lazyD
  ·rfl
  ·intro hB; (try simp only [hB, bss, ctt]); exact does_call1 hP (p_state_Forest F a0 x7 (of_lz x7h (bt hB))) rfl rfl rfl
  obtain ⟨x8, x8h, h⟩ := of_bind h
  apply W_lazyD
  ·rfl
  ·intro hB; (try simp only [hB, bss, ctt]); exact does_call1 hP (p_forest_Good F x7 x8 (of_lz x8h (bt hB))) rfl rfl rfl
  refine WQ (does_and rfl rfl rfl) ?_
  apply WM
  apply W_lazy
  ·rfl
  ·intro hB; (try simp only [hB, bss, ctt]); exact does_loadA_ptr rfl rfl rfl rfl (by decide)
  obtain ⟨x9, x9h, h⟩ := of_bind h
  apply W_lazyD
  ·rfl
  ·intro hB; (try simp only [hB, bss, ctt]); exact does_call1 hP (p_state_State_allowed F a0 x9 (of_lz x9h (bt hB))) rfl rfl rfl
  refine WQ (does_and rfl rfl rfl) ?_
  apply WM
  apply W_nil
  refine E_keep [2] [] ?_
  (try dsimp)
  apply E_ret
  cases h
  (try simp only [qt, qb, qn])
  refine fin_mk (xs := _) ⟨_, rfl, rfl⟩ ?_
  rfl
/- reeve/geo.slotsAt -/
def c_geo_slotsAt : VCode := (.seq (.ops [(o (.box 23 (t 0)) 1), (o (.mv (ci 0)) 2)]) (.seq (.ops [(o (.add 0 (t 1)) 3), (o (.load false 1 (t 3)) 4), (o (.bin .mul 3 (t 4) (ci 1208)) 5), (o (.bin .add 3 (ci 16) (t 5)) 6), (w 2 6)]) .ret))
theorem f_geo_slotsAt : Fits Tryz.prog 96 1 c_geo_slotsAt [(.tmp 2)] := fits_mk Tryz.func96 (by kernel_rfl) (by kernel_rfl) (by kernel_rfl)
theorem p_geo_slotsAt (F : Nat) (a0 : S_geo_Geo) (r : Int) (h : m_geo_slotsAt F a0 = some r) : PC Tryz.prog 96 [S.agg [.v (.int .i64 a0.xThreads), .v (.int .i64 a0.xSlots), .v (.int .i64 a0.xThings)]] (S.one (.v (.int .i64 r))) := by
 unfold m_geo_slotsAt at h
 refine PC_go f_geo_slotsAt rfl rfl ?_
 intro C hP
 unfold c_geo_slotsAt; dsimp
 apply E_seq
 apply E_ops
 refine W1 (does_box rfl rfl rfl rfl) ?_
 apply WM
 apply W_nil
 refine E_keep [1] [1] ?_
 (try dsimp)
 apply E_seq
 apply E_ops
 refine WQ (does_add_ptr rfl rfl) ?_
 refine WQ (does_load1_ptr rfl rfl rfl) ?_
 obtain ⟨g1, h⟩ := of_gd h
 refine WQ (does_mul rfl rfl g1.1 g1.2) ?_
 obtain ⟨g2, h⟩ := of_gd h
 refine WQ (does_add rfl rfl g2.1 g2.2) ?_
 apply WM
 apply W_nil
 refine E_keep [2] [] ?_
 (try dsimp)
 apply E_ret
 cases h
 (try simp only [qt, qb, qn])
 refine fin_mk (xs := _) ⟨_, rfl, rfl⟩ ?_
 rfl
/- reeve/geo.thingsAt -/
def c_geo_thingsAt : VCode := (.seq (.ops [(o (.box 23 (t 0)) 1), (o (.mv (ci 0)) 2)]) (.seq (.draw [((o (.load true 3 (t 1)) 3), []), ((o (.call 96 [(t 3)]) 4), [0]), ((o (.add 1 (t 1)) 5), []), ((o (.load false 1 (t 5)) 6), [2]), ((o (.bin .mul 3 (ci 2) (t 6)) 7), [3]), ((o (.bin .add 3 (t 4) (t 7)) 8), [1, 4]), ((w 2 8), [5, 1, 0, 1, 2, 3, 4, 5])]) .ret))
theorem f_geo_thingsAt : Fits Tryz.prog 95 1 c_geo_thingsAt [(.tmp 2)] := fits_mk Tryz.func95 (by kernel_rfl) (by kernel_rfl) (by kernel_rfl)
theorem p_geo_thingsAt (F : Nat) (a0 : S_geo_Geo) (r : Int) (h : m_geo_thingsAt F a0 = some r) : PC Tryz.prog 95 [S.agg [.v (.int .i64 a0.xThreads), .v (.int .i64 a0.xSlots), .v (.int .i64 a0.xThings)]] (S.one (.v (.int .i64 r))) := by
 unfold m_geo_thingsAt at h
 refine PC_go f_geo_thingsAt rfl rfl ?_
 intro C hP
 unfold c_geo_thingsAt; dsimp
 apply E_seq
 apply E_ops
 refine W1 (does_box rfl rfl rfl rfl) ?_
 apply WM
 apply W_nil
 refine E_keep [1] [1] ?_
 (try dsimp)
 apply E_seq
 obtain ⟨x1, x1h, h⟩ := of_bind h
 obtain ⟨g2, h⟩ := of_gd h
 obtain ⟨g3, h⟩ := of_gd h
 refine E_draw [0, 2, 3, 4, 5, 6] ?_
 refine XQ 0 rfl rfl rfl (does_loadA_ptr rfl rfl rfl rfl (by decide)) ?_
 refine XQ 2 rfl rfl rfl (does_add_ptr rfl rfl) ?_
 refine XQ 3 rfl rfl rfl (does_load1_ptr rfl rfl rfl) ?_
 refine XQ 4 rfl rfl rfl (does_mul rfl rfl g2.1 g2.2) ?_
 refine X1 rfl (XK rfl (does_call1 hP (p_geo_slotsAt F a0 x1 x1h) rfl rfl rfl) ?_)
 refine XQ 5 rfl rfl rfl (does_add rfl rfl g3.1 g3.2) ?_
 refine XQ 6 rfl rfl rfl (does_mv rfl) ?_
 refine X_nil rfl ?_
 refine E_keep [2] [] ?_
 (try dsimp)
 apply E_ret
 cases h
 (try simp only [qt, qb, qn])
 refine fin_mk (xs := _) ⟨_, rfl, rfl⟩ ?_
 rfl
/- reeve/geo.Copy -/
def c_geo_Copy : VCode := (.seq (.ops [(o (.box 23 (t 0)) 1), (o (.mv (ci 0)) 2)]) (.seq (.seq (.ops [(o (.load true 3 (t 1)) 3), (o (.call 38 [(t 3)]) 4), (o (.un .not (t 4)) 5)]) (.cond (t 5) (.seq (.ops [(o (.mv (ci 0)) 2)]) .ret) .skip)) (.seq (.draw [((o (.load true 3 (t 1)) 6), []), ((o (.call 95 [(t 6)]) 7), [0]), ((o (.add 2 (t 1)) 8), []), ((o (.load false 1 (t 8)) 9), [2]), ((o (.bin .mul 3 (ci 8) (t 9)) 10), [3]), ((o (.bin .add 3 (t 7) (t 10)) 11), [1, 4]), ((w 2 11), [5, 1, 0, 1, 2, 3, 4, 5])]) .ret)))
theorem f_geo_Copy : Fits Tryz.prog 58 1 c_geo_Copy [(.tmp 2)] := fits_mk Tryz.func58 (by kernel_rfl) (by kernel_rfl) (by kernel_rfl)
theorem p_geo_Copy (F : Nat) (a0 : S_geo_Geo) (r : Int) (h : m_geo_Copy F a0 = some r) : PC Tryz.prog 58 [S.agg [.v (.int .i64 a0.xThreads), .v (.int .i64 a0.xSlots), .v (.int .i64 a0.xThings)]] (S.one (.v (.int .i64 r))) := by
 unfold m_geo_Copy at h
 refine PC_go f_geo_Copy rfl rfl ?_
 intro C hP
 unfold c_geo_Copy; dsimp
 apply E_seq
 apply E_ops
 refine W1 (does_box rfl rfl rfl rfl) ?_
 apply WM
 apply W_nil
 refine E_keep [1] [1] ?_
 (try dsimp)
 apply E_seq
 apply E_seq
 apply E_ops
 refine WQ (does_loadA_ptr rfl rfl rfl rfl (by decide)) ?_
 obtain ⟨x1, x1h, h⟩ := of_bind h
 refine W1 (does_call1 hP (p_geo_Good F a0 x1 x1h) rfl rfl rfl) ?_
 refine WQ (does_not rfl) ?_
 apply W_nil
 refine E_keep [1, 5] [1] ?_
 (try dsimp)
 refine E_cond rfl (fun hc2 => ?_) (fun hc2 => ?_)
 ·replace h := of_ct h hc2
  apply E_seq
  apply E_ops
  apply WM
  apply W_nil
  refine E_keep [2] [] ?_
  (try dsimp)
  apply E_ret
  cases h
  (try simp only [qt, qb, qn])
  refine fin_mk (xs := _) ⟨_, rfl, rfl⟩ ?_
  rfl
 ·replace h := of_cf h hc2
  apply E_skip
  refine E_keep [1] [1] ?_
  (try dsimp)
  apply E_seq
  obtain ⟨x3, x3h, h⟩ := of_bind h
  obtain ⟨g4, h⟩ := of_gd h
  obtain ⟨g5, h⟩ := of_gd h
  refine E_draw [0, 2, 3, 4, 5, 6] ?_
  refine XQ 0 rfl rfl rfl (does_loadA_ptr rfl rfl rfl rfl (by decide)) ?_
  refine XQ 2 rfl rfl rfl (does_add_ptr rfl rfl) ?_
  refine XQ 3 rfl rfl rfl (does_load1_ptr rfl rfl rfl) ?_
  refine XQ 4 rfl rfl rfl (does_mul rfl rfl g4.1 g4.2) ?_
  refine X1 rfl (XK rfl (does_call1 hP (p_geo_thingsAt F a0 x3 x3h) rfl rfl rfl) ?_)
  refine XQ 5 rfl rfl rfl (does_add rfl rfl g5.1 g5.2) ?_
  refine XQ 6 rfl rfl rfl (does_mv rfl) ?_
  refine X_nil rfl ?_
  refine E_keep [2] [] ?_
  (try dsimp)
  apply E_ret
  cases h
  (try simp only [qt, qb, qn])
  refine fin_mk (xs := _) ⟨_, rfl, rfl⟩ ?_
  rfl
/- reeve/geo.Rows -/
def c_geo_Rows : VCode := (.seq (.ops [(o (.box 23 (t 0)) 1), (o (.mv (ci 0)) 2)]) (.seq (.seq (.ops [(o (.load true 3 (t 1)) 3), (o (.call 38 [(t 3)]) 4), (o (.un .not (t 4)) 5)]) (.cond (t 5) (.seq (.ops [(o (.mv (ci 0)) 2)]) .ret) .skip)) (.seq (.ops [(o (.load true 3 (t 1)) 6), (o (.call 58 [(t 6)]) 7), (o (.bin .quo 3 (t 7) (ci 8)) 8), (o (.bin .add 3 (t 8) (ci 1)) 9), (w 2 9)]) .ret)))
theorem f_geo_Rows : Fits Tryz.prog 56 1 c_geo_Rows [(.tmp 2)] := fits_mk Tryz.func56 (by kernel_rfl) (by kernel_rfl) (by kernel_rfl)
theorem p_geo_Rows (F : Nat) (a0 : S_geo_Geo) (r : Int) (h : m_geo_Rows F a0 = some r) : PC Tryz.prog 56 [S.agg [.v (.int .i64 a0.xThreads), .v (.int .i64 a0.xSlots), .v (.int .i64 a0.xThings)]] (S.one (.v (.int .i64 r))) := by
 unfold m_geo_Rows at h
 refine PC_go f_geo_Rows rfl rfl ?_
 intro C hP
 unfold c_geo_Rows; dsimp
 apply E_seq
 apply E_ops
 refine W1 (does_box rfl rfl rfl rfl) ?_
 apply WM
 apply W_nil
 refine E_keep [1] [1] ?_
 (try dsimp)
 apply E_seq
 apply E_seq
 apply E_ops
 refine WQ (does_loadA_ptr rfl rfl rfl rfl (by decide)) ?_
 obtain ⟨x1, x1h, h⟩ := of_bind h
 refine W1 (does_call1 hP (p_geo_Good F a0 x1 x1h) rfl rfl rfl) ?_
 refine WQ (does_not rfl) ?_
 apply W_nil
 refine E_keep [1, 5] [1] ?_
 (try dsimp)
 refine E_cond rfl (fun hc2 => ?_) (fun hc2 => ?_)
 ·replace h := of_ct h hc2
  apply E_seq
  apply E_ops
  apply WM
  apply W_nil
  refine E_keep [2] [] ?_
  (try dsimp)
  apply E_ret
  cases h
  (try simp only [qt, qb, qn])
  refine fin_mk (xs := _) ⟨_, rfl, rfl⟩ ?_
  rfl
 ·replace h := of_cf h hc2
  apply E_skip
  refine E_keep [1] [1] ?_
  (try dsimp)
  apply E_seq
  apply E_ops
  refine WQ (does_loadA_ptr rfl rfl rfl rfl (by decide)) ?_
  obtain ⟨x3, x3h, h⟩ := of_bind h
  refine W1 (does_call1 hP (p_geo_Copy F a0 x3 x3h) rfl rfl rfl) ?_
  refine WQ (does_int rfl rfl rfl) ?_
  obtain ⟨g4, h⟩ := of_gd h
  refine WQ (does_add rfl rfl g4.1 g4.2) ?_
  apply WM
  apply W_nil
  refine E_keep [2] [] ?_
  (try dsimp)
  apply E_ret
  cases h
  (try simp only [qt, qb, qn])
  refine fin_mk (xs := _) ⟨_, rfl, rfl⟩ ?_
  rfl
/- math.Abs -/
def c_math_Abs : VCode := (.seq (.ops [(o (.mv (.const (.float .f64 0))) 2)]) (.seq (.ops [(w 3 0), (o (.xcall 199 [(t 3)]) 4), (o (.bin .andNot 42 (t 4) (.const (.int .u64 9223372036854775808))) 5), (o (.xcall 205 [(t 5)]) 6), (w 2 6)]) .ret))
theorem f_math_Abs : Fits Tryz.prog 203 1 c_math_Abs [(.tmp 2)] := fits_mk Tryz.func203 (by kernel_rfl) (by kernel_rfl) (by kernel_rfl)
theorem p_math_Abs (F : Nat) (a0 : Value) (r : Value) (h : m_math_Abs F a0 = some r) : PC Tryz.prog 203 [S.one (.v a0)] (S.one (.v r)) := by
 unfold m_math_Abs at h
 refine PC_go f_math_Abs rfl rfl ?_
 intro C hP
 unfold c_math_Abs; dsimp
 apply E_seq
 apply E_ops
 apply WM
 apply W_nil
 refine E_keep [0] [] ?_
 (try dsimp)
 apply E_seq
 apply E_ops
 apply WM
 obtain ⟨x1, x1h, h⟩ := of_bind h
 refine WQ (does_xcall (vs := [a0]) hP rfl (X_i x1h) rfl) ?_
 refine WQ (does_int rfl rfl rfl) ?_
 obtain ⟨x2, x2h, h⟩ := of_bind h
 refine WQ (does_xcall (vs := [(.int .u64 (iandn .u64 x1 (9223372036854775808 : Int)))]) hP rfl (X_xz x2h) (X_x1 x2h)) ?_
 apply WM
 apply W_nil
 refine E_keep [2] [] ?_
 (try dsimp)
 apply E_ret
 cases h
 (try simp only [qt, qb, qn])
 refine fin_mk (xs := _) ⟨_, rfl, rfl⟩ ?_
 rfl
/- math.Copysign -/
def c_math_Copysign : VCode := (.seq (.ops [(o (.mv (.const (.float .f64 0))) 4)]) (.seq (.ops [(w 5 0), (o (.xcall 199 [(t 5)]) 6), (o (.bin .andNot 42 (t 6) (.const (.int .u64 9223372036854775808))) 7), (w 8 1), (o (.xcall 199 [(t 8)]) 9), (o (.bin .and 42 (t 9) (.const (.int .u64 9223372036854775808))) 10), (o (.bin .or 42 (t 7) (t 10)) 11), (o (.xcall 205 [(t 11)]) 12), (w 4 12)]) .ret))
theorem f_math_Copysign : Fits Tryz.prog 204 2 c_math_Copysign [(.tmp 4)] := fits_mk Tryz.func204 (by kernel_rfl) (by kernel_rfl) (by kernel_rfl)
theorem p_math_Copysign (F : Nat) (a0 : Value) (a1 : Value) (r : Value) (h : m_math_Copysign F a0 a1 = some r) : PC Tryz.prog 204 [S.one (.v a0), S.one (.v a1)] (S.one (.v r)) := by
 unfold m_math_Copysign at h
 refine PC_go f_math_Copysign rfl rfl ?_
 intro C hP
 unfold c_math_Copysign; dsimp
 apply E_seq
 apply E_ops
 apply WM
 apply W_nil
 refine E_keep [0, 1] [] ?_
 (try dsimp)
 apply E_seq
 apply E_ops
 apply WM
 obtain ⟨x1, x1h, h⟩ := of_bind h
 refine WQ (does_xcall (vs := [a0]) hP rfl (X_i x1h) rfl) ?_
 refine WQ (does_int rfl rfl rfl) ?_
 apply WM
 obtain ⟨x2, x2h, h⟩ := of_bind h
 refine WQ (does_xcall (vs := [a1]) hP rfl (X_i x2h) rfl) ?_
 refine WQ (does_int rfl rfl rfl) ?_
 refine WQ (does_int rfl rfl rfl) ?_
 obtain ⟨x3, x3h, h⟩ := of_bind h
 refine WQ (does_xcall (vs := [(.int .u64 (ior .u64 (iandn .u64 x1 (9223372036854775808 : Int)) (iand .u64 x2 (9223372036854775808 : Int))))]) hP rfl (X_xz x3h) (X_x1 x3h)) ?_
 apply WM
 apply W_nil
 refine E_keep [4] [] ?_
 (try dsimp)
 apply E_ret
 cases h
 (try simp only [qt, qb, qn])
 refine fin_mk (xs := _) ⟨_, rfl, rfl⟩ ?_
 rfl
/- math.trunc -/
def c_math_trunc : VCode := (.seq (.ops [(o (.mv (.const (.float .f64 0))) 2)]) (.seq (.seq (.ops [(w 5 0), (o (.call 203 [(t 5)]) 6), (o (.bin .lss 242 (t 6) (.const (.float .f64 4607182418800017408))) 7)]) (.cond (t 7) (.seq (.ops [(w 8 0), (o (.call 204 [(.const (.float .f64 0)), (t 8)]) 9), (w 2 9)]) .ret) .skip)) (.seq (.ops [(w 10 0), (o (.xcall 199 [(t 10)]) 11), (w 3 11)]) (.seq (.ops [(w 12 3), (o (.bin .shr 42 (t 12) (.const (.int .u64 52))) 13), (o (.bin .and 213 (t 13) (.const (.int .u64 2047))) 14), (o (.bin .sub 213 (t 14) (.const (.int .u64 1023))) 15), (w 4 15)]) (.seq (.seq (.ops [(w 16 4), (o (.bin .lss 213 (t 16) (.const (.int .u64 52))) 17)]) (.cond (t 17) (.ops [(w 18 3), (w 19 4), (o (.bin .sub 213 (.const (.int .u64 52)) (t 19)) 20), (o (.bin .shl 42 (.const (.int .u64 1)) (t 20)) 21), (o (.bin .sub 42 (t 21) (.const (.int .u64 1))) 22), (o (.bin .andNot 42 (t 18) (t 22)) 23), (w 3 23)]) .skip)) (.seq (.ops [(w 24 3), (o (.xcall 205 [(t 24)]) 25), (w 2 25)]) .ret))))))
theorem f_math_trunc : Fits Tryz.prog 198 1 c_math_trunc [(.tmp 2)] := fits_mk Tryz.func198 (by kernel_rfl) (by kernel_rfl) (by kernel_rfl)
theorem p_math_trunc (F : Nat) (a0 : Value) (r : Value) (h : m_math_trunc F a0 = some r) : PC Tryz.prog 198 [S.one (.v a0)] (S.one (.v r)) := by
 unfold m_math_trunc at h
 refine PC_go f_math_trunc rfl rfl ?_
 intro C hP
 unfold c_math_trunc; dsimp
 apply E_seq
 apply E_ops
 apply WM
 apply W_nil
 refine E_keep [0] [] ?_
 (try dsimp)
 apply E_seq
 apply E_seq
 apply E_ops
 apply WM
 obtain ⟨x1, x1h, h⟩ := of_bind h
 refine W1 (does_call1 hP (p_math_Abs F a0 x1 x1h) rfl rfl rfl) ?_
 obtain ⟨x2, x2h, h⟩ := of_bind h
 refine WQ (does_bn hP rfl rfl (X_b x2h) rfl) ?_
 apply W_nil
 refine E_keep [0, 7] [] ?_
 (try dsimp)
 refine E_cond rfl (fun hc3 => ?_) (fun hc3 => ?_)
 ·replace h := of_ct h hc3
  apply E_seq
  apply E_ops
  apply WM
  obtain ⟨x4, x4h, h⟩ := of_bind h
  refine W1 (does_call1 hP (p_math_Copysign F (.float .f64 0 : Value) a0 x4 x4h) rfl rfl rfl) ?_
  apply WM
  apply W_nil
  refine E_keep [2] [] ?_
  (try dsimp)
  apply E_ret
  cases h
  (try simp only [qt, qb, qn])
  refine fin_mk (xs := _) ⟨_, rfl, rfl⟩ ?_
  rfl
 ·replace h := of_cf h hc3
  apply E_skip
  refine E_keep [0] [] ?_
  (try dsimp)
  apply E_seq
  apply E_ops
  apply WM
  obtain ⟨x5, x5h, h⟩ := of_bind h
  refine WQ (does_xcall (vs := [a0]) hP rfl (X_i x5h) rfl) ?_
  apply WM
  apply W_nil
  refine E_keep [3] [] ?_
  (try dsimp)
  apply E_seq
  apply E_ops
  apply WM
  refine WQ (does_shr rfl rfl (by decide)) ?_
  refine WQ (does_int rfl rfl rfl) ?_
  refine WQ (does_int rfl rfl rfl) ?_
  apply WM
  apply W_nil
  refine E_keep [3, 4] [] ?_
  (try dsimp)
  obtain ⟨k7, k7d, h⟩ := of_jn h
  refine E_seqJ (α := Int) (fun (i : Int) => (⟨[(3, S.one (.v (.int .u64 i)))], []⟩ : St)) (fun i => k7 i = some r) (fun i h => ?_) ?_
  ·let iv := i; change k7 i = some r at h; generalize i = v6 at h ⊢
   rw [k7d] at h; dsimp only at h
   (try dsimp)
   apply E_seq
   apply E_ops
   apply WM
   obtain ⟨x8, x8h, h⟩ := of_bind h
   refine WQ (does_xcall (vs := [(.int .u64 v6)]) hP rfl (X_xz x8h) (X_x1 x8h)) ?_
   apply WM
   apply W_nil
   refine E_keep [2] [] ?_
   (try dsimp)
   apply E_ret
   cases h
   (try simp only [qt, qb, qn])
   refine fin_mk (xs := _) ⟨_, rfl, rfl⟩ ?_
   rfl
  ·
   skip
   apply E_seq
   apply E_ops
   apply WM
   refine WQ (does_int rfl rfl rfl) ?_
   apply W_nil
   refine E_keep [3, 4, 17] [] ?_
   (try dsimp)
   refine E_cond rfl (fun hc9 => ?_) (fun hc9 => ?_)
   ·replace h := of_ct h hc9
    apply E_ops
    apply WM
    apply WM
    refine WQ (does_int rfl rfl rfl) ?_
    obtain ⟨g10, h⟩ := of_gd h
    refine WQ (does_shl rfl rfl g10) ?_
    refine WQ (does_int rfl rfl rfl) ?_
    refine WQ (does_int rfl rfl rfl) ?_
    apply WM
    apply W_nil
    refine ⟨(iandn .u64 x5 (IntKind.u64.wrap ((ishl .u64 (1 : Int) (IntKind.u64.wrap ((52 : Int) - (IntKind.u64.wrap ((iand .u64 (ishr .u64 x5 (52 : Int)) (2047 : Int)) - (1023 : Int)))))) - (1 : Int)))), h, ?_⟩
    exact (Le.b (le_mk ⟨rfl, trivial⟩ trivial))
   ·replace h := of_cf h hc9
    apply E_skip
    refine ⟨x5, h, ?_⟩
    exact (Le.b (le_mk ⟨rfl, trivial⟩ trivial))
/- math.Trunc -/
def c_math_Trunc : VCode := (.seq (.ops [(o (.mv (.const (.float .f64 0))) 2)]) (.seq (.cond (cb true) (.seq (.ops [(w 3 0), (o (.xcall 197 [(t 3)]) 4), (w 2 4)]) .ret) .skip) (.seq (.ops [(w 5 0), (o (.call 198 [(t 5)]) 6), (w 2 6)]) .ret)))
theorem f_math_Trunc : Fits Tryz.prog 186 1 c_math_Trunc [(.tmp 2)] := fits_mk Tryz.func186 (by kernel_rfl) (by kernel_rfl) (by kernel_rfl)
theorem p_math_Trunc (F : Nat) (a0 : Value) (r : Value) (h : m_math_Trunc F a0 = some r) : PC Tryz.prog 186 [S.one (.v a0)] (S.one (.v r)) := by
 unfold m_math_Trunc at h
 refine PC_go f_math_Trunc rfl rfl ?_
 intro C hP
 unfold c_math_Trunc; dsimp
 apply E_seq
 apply E_ops
 apply WM
 apply W_nil
 refine E_keep [0] [] ?_
 (try dsimp)
 apply E_seq
 refine E_cond rfl (fun hc1 => ?_) (fun hc1 => ?_)
 ·
  apply E_seq
  apply E_ops
  apply WM
  obtain ⟨x2, x2h, h⟩ := of_bind h
  refine WQ (does_xcall (vs := [a0]) hP rfl (X_xz x2h) (X_x1 x2h)) ?_
  apply WM
  apply W_nil
  refine E_keep [2] [] ?_
  (try dsimp)
  apply E_ret
  cases h
  (try simp only [qt, qb, qn])
  refine fin_mk (xs := _) ⟨_, rfl, rfl⟩ ?_
  rfl
 ·cases hc1
/- math.Signbit -/
def c_math_Signbit : VCode := (.seq (.ops [(o (.mv (cb false)) 2)]) (.seq (.ops [(w 3 0), (o (.xcall 199 [(t 3)]) 4), (o (.convI .i64 (t 4)) 5), (o (.bin .lss 2 (t 5) (ci 0)) 6), (w 2 6)]) .ret))
theorem f_math_Signbit : Fits Tryz.prog 187 1 c_math_Signbit [(.tmp 2)] := fits_mk Tryz.func187 (by kernel_rfl) (by kernel_rfl) (by kernel_rfl)
theorem p_math_Signbit (F : Nat) (a0 : Value) (r : Bool) (h : m_math_Signbit F a0 = some r) : PC Tryz.prog 187 [S.one (.v a0)] (S.one (.v (.bool r))) := by
 unfold m_math_Signbit at h
 refine PC_go f_math_Signbit rfl rfl ?_
 intro C hP
 unfold c_math_Signbit; dsimp
 apply E_seq
 apply E_ops
 apply WM
 apply W_nil
 refine E_keep [0] [] ?_
 (try dsimp)
 apply E_seq
 apply E_ops
 apply WM
 obtain ⟨x1, x1h, h⟩ := of_bind h
 refine WQ (does_xcall (vs := [a0]) hP rfl (X_i x1h) rfl) ?_
 refine WQ (does_convI rfl) ?_
 refine WQ (does_int rfl rfl rfl) ?_
 apply WM
 apply W_nil
 refine E_keep [2] [] ?_
 (try dsimp)
 apply E_ret
 cases h
 (try simp only [qt, qb, qn])
 refine fin_mk (xs := _) ⟨_, rfl, rfl⟩ ?_
 rfl
/- reeve/gauss.whole -/
def c_gauss_whole : VCode := (.seq (.ops [(o (.mv (ci 0)) 2), (o (.mv (cb false)) 3)]) (.seq (.seq (.ops [(w 4 0), (o (.bin .geq 242 (t 4) (.const (.float .f64 14010698440749613056))) 5), (w 6 5), (g_ (.mv (t 0)) 7 6 true), (g_ (.bin .leq 242 (t 7) (.const (.float .f64 4787326403894837248))) 8 6 true), (o (.pick (t 6) (t 8) (cb false)) 9), (o (.un .not (t 9)) 10), (w 11 10), (g_ (.mv (t 0)) 12 11 false), (g_ (.mv (t 0)) 13 11 false), (g_ (.call 186 [(t 13)]) 14 11 false), (g_ (.bin .neq 242 (t 12) (t 14)) 15 11 false), (o (.pick (t 11) (cb true) (t 15)) 16), (w 17 16), (g_ (.mv (t 0)) 18 17 false), (g_ (.bin .eql 242 (t 18) (.const (.float .f64 0))) 19 17 false), (g_ (.mv (t 19)) 20 17 false), (g_ (.mv (t 0)) 21 20 true), (g_ (.call 187 [(t 21)]) 22 20 true), (g_ (.pick (t 20) (t 22) (cb false)) 23 17 false), (o (.pick (t 17) (cb true) (t 23)) 24)]) (.cond (t 24) (.seq (.ops [(o (.mv (ci 0)) 2), (o (.mv (cb false)) 3)]) .ret) .skip)) (.seq (.ops [(w 25 0), (o (.conv 242 2 (t 25)) 26), (w 2 26), (o (.mv (cb true)) 3)]) .ret)))
theorem f_gauss_whole : Fits Tryz.prog 163 1 c_gauss_whole [(.tmp 2), (.tmp 3)] := fits_mk Tryz.func163 (by kernel_rfl) (by kernel_rfl) (by kernel_rfl)
theorem p_gauss_whole (F : Nat) (a0 : Value) (r : Int × Bool) (h : m_gauss_whole F a0 = some r) : PC Tryz.prog 163 [S.one (.v a0)] (S.tup [S.one (.v (.int .i64 r.1)), S.one (.v (.bool r.2))]) := by
 unfold m_gauss_whole at h
 refine PC_go f_gauss_whole rfl rfl ?_
 intro C hP
 unfold c_gauss_whole; dsimp
 apply E_seq
 apply E_ops
 apply WM
 apply WM
 apply W_nil
 refine E_keep [0] [] ?_
 (try dsimp)
 apply E_seq
 apply E_seq
 apply E_ops
 apply WM
 obtain ⟨x1, x1h, h⟩ := of_bind h
 refine WQ (does_bn hP rfl rfl (X_b x1h) rfl) ?_
 apply WM
 apply W_lazy
 ·rfl
 ·intro hB; (try simp only [hB, bss, ctt]); exact does_mv rfl
 obtain ⟨x2, x2h, h⟩ := of_bind h
 apply W_lazy
 ·rfl
 ·intro hB; (try simp only [hB, bss, ctt]); exact does_bn hP rfl rfl (X_b (of_lz x2h (bt hB))) rfl
 refine WQ (does_and rfl rfl rfl) ?_
 refine WQ (does_not rfl) ?_
 apply WM
 apply W_lazy
 ·rfl
 ·intro hB; (try simp only [hB, bss, ctt]); exact does_mv rfl
 apply W_lazy
 ·rfl
 ·intro hB; (try simp only [hB, bss, ctt]); exact does_mv rfl
 obtain ⟨x3, x3h, h⟩ := of_bind h
 apply W_lazyD
 ·rfl
 ·intro hB; (try simp only [hB, bss, ctt]); exact does_call1 hP (p_math_Trunc F a0 x3 (of_lz x3h (bt hB))) rfl rfl rfl
 obtain ⟨x4, x4h, h⟩ := of_bind h
 apply W_lazy
 ·rfl
 ·intro hB; (try simp only [hB, bss, ctt]); exact does_bn hP rfl rfl (X_b (of_lz x4h (bt hB))) rfl
 refine WQ (does_or rfl rfl rfl) ?_
 apply WM
 apply W_lazy
 ·rfl
 ·intro hB; (try simp only [hB, bss, ctt]); exact does_mv rfl
 obtain ⟨x5, x5h, h⟩ := of_bind h
 apply W_lazy
 ·rfl
 ·intro hB; (try simp only [hB, bss, ctt]); exact does_bn hP rfl rfl (X_b (of_lz x5h (bt hB))) rfl
 apply W_lazy
 ·rfl
 ·intro hB; (try simp only [hB, bss, ctt]); exact does_mv rfl
 apply W_lazy2
 ·rfl
 ·intro hA hB; (try simp only [hA, hB, bss, Bool.and_true, Bool.true_and, ctt]); exact (does_mv rfl).does
 obtain ⟨x6, x6h, h⟩ := of_bind h
 apply W_lazy2
 ·rfl
 ·intro hA hB; (try simp only [hA, hB, bss, Bool.and_true, Bool.true_and, ctt]); exact does_call1 hP (p_math_Signbit F a0 x6 (of_lz x6h (bt2 hA hB))) rfl rfl rfl
 apply W_lazy
 ·rfl
 ·intro hB; (try simp only [hB, bss, ctt]); exact does_and rfl rfl rfl
 refine WQ (does_or rfl rfl rfl) ?_
 apply W_nil
 refine E_keep [0, 24] [] ?_
 (try dsimp)
 refine E_cond rfl (fun hc7 => ?_) (fun hc7 => ?_)
 ·replace h := of_ct h hc7
  apply E_seq
  apply E_ops
  apply WM
  apply WM
  apply W_nil
  refine E_keep [2, 3] [] ?_
  (try dsimp)
  apply E_ret
  cases h
  (try simp only [qt, qb, qn])
  refine fin_mk (xs := _) ⟨_, rfl, ⟨_, rfl, rfl⟩⟩ ?_
  rfl
 ·replace h := of_cf h hc7
  apply E_skip
  refine E_keep [0] [] ?_
  (try dsimp)
  apply E_seq
  apply E_ops
  apply WM
  obtain ⟨x8, x8h, h⟩ := of_bind h
  refine WQ (does_cv hP rfl (X_i x8h) rfl) ?_
  apply WM
  apply WM
  apply W_nil
  refine E_keep [2, 3] [] ?_
  (try dsimp)
  apply E_ret
  cases h
  (try simp only [qt, qb, qn])
  refine fin_mk (xs := _) ⟨_, rfl, ⟨_, rfl, rfl⟩⟩ ?_
  rfl
/- reeve/gauss.Parts -/
def c_gauss_Parts : VCode := (.seq (.ops [(o (.mv (ci 0)) 2), (o (.mv (ci 0)) 3), (o (.mv (cb false)) 4)]) (.seq (.ops [(w 8 0), (o (.bi .real #[182] 242 #[false] [(t 8)]) 9), (o (.call 163 [(t 9)]) 10), (w 7 10), (o (.ext 0 (t 7)) 11), (o (.ext 1 (t 7)) 12), (w 2 11), (w 5 12)]) (.seq (.ops [(w 14 0), (o (.bi .imag #[182] 242 #[false] [(t 14)]) 15), (o (.call 163 [(t 15)]) 16), (w 13 16), (o (.ext 0 (t 13)) 17), (o (.ext 1 (t 13)) 18), (w 3 17), (w 6 18)]) (.seq (.seq (.ops [(w 19 5), (o (.un .not (t 19)) 20), (w 21 20), (g_ (.mv (t 6)) 22 21 false), (g_ (.un .not (t 22)) 23 21 false), (o (.pick (t 21) (cb true) (t 23)) 24)]) (.cond (t 24) (.seq (.ops [(o (.mv (ci 0)) 2), (o (.mv (ci 0)) 3), (o (.mv (cb false)) 4)]) .ret) .skip)) (.seq (.ops [(w 25 2), (w 26 3), (w 2 25), (w 3 26), (o (.mv (cb true)) 4)]) .ret)))))
theorem f_gauss_Parts : Fits Tryz.prog 131 1 c_gauss_Parts [(.tmp 2), (.tmp 3), (.tmp 4)] := fits_mk Tryz.func131 (by kernel_rfl) (by kernel_rfl) (by kernel_rfl)
theorem p_gauss_Parts (F : Nat) (a0 : Value) (r : Int × Int × Bool) (h : m_gauss_Parts F a0 = some r) : PC Tryz.prog 131 [S.one (.v a0)] (S.tup [S.one (.v (.int .i64 r.1)), S.one (.v (.int .i64 r.2.1)), S.one (.v (.bool r.2.2))]) := by
 unfold m_gauss_Parts at h
 refine PC_go f_gauss_Parts rfl rfl ?_
 intro C hP
 unfold c_gauss_Parts; dsimp
 apply E_seq
 apply E_ops
 apply WM
 apply WM
 apply WM
 apply W_nil
 refine E_keep [0] [] ?_
 (try dsimp)
 apply E_seq
 apply E_ops
 apply WM
 obtain ⟨x1, x1h, h⟩ := of_bind h
 refine WQ (does_bu (vs := [a0]) hP rfl (X_xz x1h) (X_x1 x1h)) ?_
 obtain ⟨x2, x2h, h⟩ := of_bind h
 refine W1 (does_call1 hP (p_gauss_whole F x1 x2 x2h) rfl rfl rfl) ?_
 apply WM
 refine WQ (does_ext rfl rfl) ?_
 refine WQ (does_ext rfl rfl) ?_
 apply WM
 apply WM
 apply W_nil
 refine E_keep [0, 2, 5] [] ?_
 (try dsimp)
 apply E_seq
 apply E_ops
 apply WM
 obtain ⟨x3, x3h, h⟩ := of_bind h
 refine WQ (does_bu (vs := [a0]) hP rfl (X_xz x3h) (X_x1 x3h)) ?_
 obtain ⟨x4, x4h, h⟩ := of_bind h
 refine W1 (does_call1 hP (p_gauss_whole F x3 x4 x4h) rfl rfl rfl) ?_
 apply WM
 refine WQ (does_ext rfl rfl) ?_
 refine WQ (does_ext rfl rfl) ?_
 apply WM
 apply WM
 apply W_nil
 refine E_keep [2, 3, 5, 6] [] ?_
 (try dsimp)
 apply E_seq
 apply E_seq
 apply E_ops
 apply WM
 refine WQ (does_not rfl) ?_
 apply WM
 apply W_lazy
 ·rfl
 ·intro hB; (try simp only [hB, bss, ctt]); exact does_mv rfl
 apply W_lazy
 ·rfl
 ·intro hB; (try simp only [hB, bss, ctt]); exact does_not rfl
 refine WQ (does_or rfl rfl rfl) ?_
 apply W_nil
 refine E_keep [2, 3, 24] [] ?_
 (try dsimp)
 refine E_cond rfl (fun hc5 => ?_) (fun hc5 => ?_)
 ·replace h := of_ct h hc5
  apply E_seq
  apply E_ops
  apply WM
  apply WM
  apply WM
  apply W_nil
  refine E_keep [2, 3, 4] [] ?_
  (try dsimp)
  apply E_ret
  cases h
  (try simp only [qt, qb, qn])
  refine fin_mk (xs := _) ⟨_, rfl, ⟨_, rfl, ⟨_, rfl, rfl⟩⟩⟩ ?_
  rfl
 ·replace h := of_cf h hc5
  apply E_skip
  refine E_keep [2, 3] [] ?_
  (try dsimp)
  apply E_seq
  apply E_ops
  apply WM
  apply WM
  apply WM
  apply WM
  apply WM
  apply W_nil
  refine E_keep [2, 3, 4] [] ?_
  (try dsimp)
  apply E_ret
  cases h
  (try simp only [qt, qb, qn])
  refine fin_mk (xs := _) ⟨_, rfl, ⟨_, rfl, ⟨_, rfl, rfl⟩⟩⟩ ?_
  rfl
/- reeve/gauss.in -/
def c_gauss_in : VCode := (.seq (.ops [(o (.mv (cb false)) 2)]) (.seq (.ops [(w 3 0), (o (.bin .geq 2 (t 3) (.const (.int .i64 (-1099511627776)))) 4), (w 5 4), (g_ (.mv (t 0)) 6 5 true), (g_ (.bin .leq 2 (t 6) (ci 1099511627776)) 7 5 true), (o (.pick (t 5) (t 7) (cb false)) 8), (w 2 8)]) .ret))
theorem f_gauss_in : Fits Tryz.prog 164 1 c_gauss_in [(.tmp 2)] := fits_mk Tryz.func164 (by kernel_rfl) (by kernel_rfl) (by kernel_rfl)
theorem p_gauss_in (F : Nat) (a0 : Int) (r : Bool) (h : m_gauss_in F a0 = some r) : PC Tryz.prog 164 [S.one (.v (.int .i64 a0))] (S.one (.v (.bool r))) := by
 unfold m_gauss_in at h
 refine PC_go f_gauss_in rfl rfl ?_
 intro C hP
 unfold c_gauss_in; dsimp
 apply E_seq
 apply E_ops
 apply WM
 apply W_nil
 refine E_keep [0] [] ?_
 (try dsimp)
 apply E_seq
 apply E_ops
 apply WM
 refine WQ (does_int rfl rfl rfl) ?_
 apply WM
 apply W_lazy
 ·rfl
 ·intro hB; (try simp only [hB, bss, ctt]); exact does_mv rfl
 apply W_lazy
 ·rfl
 ·intro hB; (try simp only [hB, bss, ctt]); exact does_int rfl rfl rfl
 refine WQ (does_and rfl rfl rfl) ?_
 apply WM
 apply W_nil
 refine E_keep [2] [] ?_
 (try dsimp)
 apply E_ret
 cases h
 (try simp only [qt, qb, qn])
 refine fin_mk (xs := _) ⟨_, rfl, rfl⟩ ?_
 rfl
/- reeve/gauss.Of -/
def c_gauss_Of : VCode := (.seq (.ops [(o (.mv (.const (.complex .f64 0 0))) 4), (o (.mv (cb false)) 5)]) (.seq (.seq (.ops [(w 6 0), (o (.call 164 [(t 6)]) 7), (o (.un .not (t 7)) 8), (w 9 8), (g_ (.mv (t 1)) 10 9 false), (g_ (.call 164 [(t 10)]) 11 9 false), (g_ (.un .not (t 11)) 12 9 false), (o (.pick (t 9) (cb true) (t 12)) 13)]) (.cond (t 13) (.seq (.ops [(o (.mv (.const (.complex .f64 0 0))) 4), (o (.mv (cb false)) 5)]) .ret) .skip)) (.seq (.ops [(w 14 0), (o (.conv 2 242 (t 14)) 15), (w 16 1), (o (.conv 2 242 (t 16)) 17), (o (.bi .complex #[242, 242] 182 #[false, false] [(t 15), (t 17)]) 18), (w 4 18), (o (.mv (cb true)) 5)]) .ret)))
theorem f_gauss_Of : Fits Tryz.prog 133 2 c_gauss_Of [(.tmp 4), (.tmp 5)] := fits_mk Tryz.func133 (by kernel_rfl) (by kernel_rfl) (by kernel_rfl)
theorem p_gauss_Of (F : Nat) (a0 : Int) (a1 : Int) (r : Value × Bool) (h : m_gauss_Of F a0 a1 = some r) : PC Tryz.prog 133 [S.one (.v (.int .i64 a0)), S.one (.v (.int .i64 a1))] (S.tup [S.one (.v r.1), S.one (.v (.bool r.2))]) := by
 unfold m_gauss_Of at h
 refine PC_go f_gauss_Of rfl rfl ?_
 intro C hP
 unfold c_gauss_Of; dsimp
 apply E_seq
 apply E_ops
 apply WM
 apply WM
 apply W_nil
 refine E_keep [0, 1] [] ?_
 (try dsimp)
 apply E_seq
 apply E_seq
 apply E_ops
 apply WM
 obtain ⟨x1, x1h, h⟩ := of_bind h
 refine W1 (does_call1 hP (p_gauss_in F a0 x1 x1h) rfl rfl rfl) ?_
 refine WQ (does_not rfl) ?_
 apply WM
 apply W_lazy
 ·rfl
 ·intro hB; (try simp only [hB, bss, ctt]); exact does_mv rfl
 obtain ⟨x2, x2h, h⟩ := of_bind h
 apply W_lazyD
 ·rfl
 ·intro hB; (try simp only [hB, bss, ctt]); exact does_call1 hP (p_gauss_in F a1 x2 (of_lz x2h (bt hB))) rfl rfl rfl
 apply W_lazy
 ·rfl
 ·intro hB; (try simp only [hB, bss, ctt]); exact does_not rfl
 refine WQ (does_or rfl rfl rfl) ?_
 apply W_nil
 refine E_keep [0, 1, 13] [] ?_
 (try dsimp)
 refine E_cond rfl (fun hc3 => ?_) (fun hc3 => ?_)
 ·replace h := of_ct h hc3
  apply E_seq
  apply E_ops
  apply WM
  apply WM
  apply W_nil
  refine E_keep [4, 5] [] ?_
  (try dsimp)
  apply E_ret
  cases h
  (try simp only [qt, qb, qn])
  refine fin_mk (xs := _) ⟨_, rfl, ⟨_, rfl, rfl⟩⟩ ?_
  rfl
 ·replace h := of_cf h hc3
  apply E_skip
  refine E_keep [0, 1] [] ?_
  (try dsimp)
  apply E_seq
  apply E_ops
  apply WM
  obtain ⟨x4, x4h, h⟩ := of_bind h
  refine WQ (does_cv hP rfl (X_xz x4h) (X_x1 x4h)) ?_
  apply WM
  obtain ⟨x5, x5h, h⟩ := of_bind h
  refine WQ (does_cv hP rfl (X_xz x5h) (X_x1 x5h)) ?_
  obtain ⟨x6, x6h, h⟩ := of_bind h
  refine WQ (does_bu (vs := [x4, x5]) hP rfl (X_xz x6h) (X_x1 x6h)) ?_
  apply WM
  apply WM
  apply W_nil
  refine E_keep [4, 5] [] ?_
  (try dsimp)
  apply E_ret
  cases h
  (try simp only [qt, qb, qn])
  refine fin_mk (xs := _) ⟨_, rfl, ⟨_, rfl, rfl⟩⟩ ?_
  rfl
/- reeve/gauss.Turn -/
def c_gauss_Turn : VCode := (.seq (.ops [(o (.mv (.const (.complex .f64 0 0))) 4)]) (.seq (.ops [(w 9 0), (o (.call 131 [(t 9)]) 10), (w 8 10), (o (.ext 0 (t 8)) 11), (o (.ext 1 (t 8)) 12), (o (.ext 2 (t 8)) 13), (w 5 11), (w 6 12), (w 7 13)]) (.seq (.seq (.ops [(w 14 7), (o (.un .not (t 14)) 15)]) (.cond (t 15) (.seq (.ops [(o (.mv (.const (.complex .f64 0 0))) 4)]) .ret) .skip)) (.seq (.seq (.ops [(w 16 1), (o (.bin .rem 3 (t 16) (ci 4)) 17), (o (.bin .add 3 (t 17) (ci 4)) 18), (o (.bin .rem 3 (t 18) (ci 4)) 19), (o (.mv (ci 0)) 20)]) (.block 0 (.loop (.seq (.ops [(o (.bin .lss 3 (t 20) (t 19)) 21)]) (.seq (.cond (t 21) .skip (.exit 0)) (.seq (.block 1 (.ops [(w 22 6), (o (.un .neg (t 22)) 23), (w 24 5), (w 5 23), (w 6 24)])) (.ops [(o (.bin .add 3 (t 20) (ci 1)) 25), (w 20 25)]))))))) (.seq (.ops [(w 27 5), (w 28 6), (o (.call 133 [(t 27), (t 28)]) 29), (w 26 29), (o (.ext 0 (t 26)) 30), (o (.ext 1 (t 26)) 31), (w 0 30)]) (.seq (.ops [(w 32 0), (w 4 32)]) .ret))))))
theorem f_gauss_Turn : Fits Tryz.prog 132 2 c_gauss_Turn [(.tmp 4)] := fits_mk Tryz.func132 (by kernel_rfl) (by kernel_rfl) (by kernel_rfl)
theorem p_gauss_Turn (F : Nat) (a0 : Value) (a1 : Int) (r : Value) (h : m_gauss_Turn F a0 a1 = some r) : PC Tryz.prog 132 [S.one (.v a0), S.one (.v (.int .i64 a1))] (S.one (.v r)) := by
 unfold m_gauss_Turn at h
 refine PC_go f_gauss_Turn rfl rfl ?_
 intro C hP
 unfold c_gauss_Turn; dsimp
 apply E_seq
 apply E_ops
 apply WM
 apply W_nil
 refine E_keep [0, 1] [] ?_
 (try dsimp)
 apply E_seq
 apply E_ops
 apply WM
 obtain ⟨x1, x1h, h⟩ := of_bind h
 refine W1 (does_call1 hP (p_gauss_Parts F a0 x1 x1h) rfl rfl rfl) ?_
 apply WM
 refine WQ (does_ext rfl rfl) ?_
 refine WQ (does_ext rfl rfl) ?_
 refine WQ (does_ext rfl rfl) ?_
 apply WM
 apply WM
 apply WM
 apply W_nil
 refine E_keep [1, 5, 6, 7] [] ?_
 (try dsimp)
 apply E_seq
 apply E_seq
 apply E_ops
 apply WM
 refine WQ (does_not rfl) ?_
 apply W_nil
 refine E_keep [1, 5, 6, 15] [] ?_
 (try dsimp)
 refine E_cond rfl (fun hc2 => ?_) (fun hc2 => ?_)
 ·replace h := of_ct h hc2
  apply E_seq
  apply E_ops
  apply WM
  apply W_nil
  refine E_keep [4] [] ?_
  (try dsimp)
  apply E_ret
  cases h
  (try simp only [qt, qb, qn])
  refine fin_mk (xs := _) ⟨_, rfl, rfl⟩ ?_
  rfl
 ·replace h := of_cf h hc2
  apply E_skip
  refine E_keep [1, 5, 6] [] ?_
  (try dsimp)
  obtain ⟨k5, k5d, h⟩ := of_jn h
  refine E_seqJ (α := Int × Int) (fun (i : Int × Int) => (⟨[(5, S.one (.v (.int .i64 i.1))), (6, S.one (.v (.int .i64 i.2)))], []⟩ : St)) (fun i => k5 i.1 i.2 = some r) (fun i h => ?_) ?_
  ·obtain ⟨v3, v4⟩ := i
   rw [k5d] at h; dsimp only at h
   (try dsimp)
   apply E_seq
   apply E_ops
   apply WM
   apply WM
   obtain ⟨x6, x6h, h⟩ := of_bind h
   refine W1 (does_call1 hP (p_gauss_Of F v3 v4 x6 x6h) rfl rfl rfl) ?_
   apply WM
   refine WQ (does_ext rfl rfl) ?_
   refine WQ (does_ext rfl rfl) ?_
   apply WM
   apply W_nil
   refine E_keep [0] [] ?_
   (try dsimp)
   apply E_seq
   apply E_ops
   apply WM
   apply WM
   apply W_nil
   refine E_keep [4] [] ?_
   (try dsimp)
   apply E_ret
   cases h
   (try simp only [qt, qb, qn])
   refine fin_mk (xs := _) ⟨_, rfl, rfl⟩ ?_
   rfl
  ·
   skip
   apply E_seq
   apply E_ops
   apply WM
   refine WQ (does_int rfl rfl rfl) ?_
   obtain ⟨g7, h⟩ := of_gd h
   refine WQ (does_add rfl rfl g7.1 g7.2) ?_
   refine WQ (does_int rfl rfl rfl) ?_
   apply WM
   apply W_nil
   refine E_keep [5, 6, 19, 20] [] ?_
   (try dsimp)
   apply E_block
   (try dsimp)
   refine E_loopB (α := Int × Int × Int) (fun (i : Int × Int × Int) => (⟨[(5, S.one (.v (.int .i64 i.1))), (6, S.one (.v (.int .i64 i.2.1))), (19, S.one (.v (.int .i64 (Int.tmod ((Int.tmod a1 4) + (4 : Int)) 4)))), (20, S.one (.v (.int .i64 i.2.2)))], []⟩ : St)) (fun n i => m_gauss_Turn_l0 F a1 k5 n i.1 i.2.1 i.2.2 = some r) F (x1.1, x1.2.1, (0 : Int)) h ?_ (fun n i h => ?_)
   ·
    exact (Le.b (le_mk ⟨rfl, rfl, rfl, rfl, trivial⟩ trivial))
   obtain ⟨v17, v18, v19⟩ := i; dsimp only at h
   cases n with
   | zero => cases h
   | succ n20 =>
    unfold m_gauss_Turn_l0 at h
    (try dsimp)
    apply E_seq
    apply E_ops
    refine WQ (does_int rfl rfl rfl) ?_
    apply W_nil
    (try dsimp)
    apply E_seq
    refine E_cond rfl (fun hc21 => ?_) (fun hc21 => ?_)
    ·replace h := of_ct h hc21
     apply E_skip
     refine E_keep [5, 6, 19, 20] [] ?_
     (try dsimp)
     apply E_seq
     apply E_block
     apply E_ops
     apply WM
     obtain ⟨g22, h⟩ := of_gd h
     refine WQ (does_neg rfl g22.1 g22.2) ?_
     apply WM
     apply WM
     apply WM
     apply W_nil
     refine E_keep [5, 6, 19, 20] [] ?_
     (try dsimp)
     apply E_ops
     obtain ⟨g23, h⟩ := of_gd h
     refine WQ (does_add rfl rfl g23.1 g23.2) ?_
     apply WM
     apply W_nil
     refine ⟨n20, ((-v18), v17, (v19 + (1 : Int))), Nat.lt_succ_self _, h, ?_⟩
     exact (Le.b (le_mk ⟨rfl, rfl, rfl, rfl, trivial⟩ trivial))
    ·replace h := of_cf h hc21
     apply E_exit
     refine ⟨(v17, v18), h, ?_⟩
     exact (Le.b (le_mk ⟨rfl, rfl, trivial⟩ trivial))
/- reeve/gauss.rest -/
def c_gauss_rest : VCode := (.seq (.ops [(o (.mv (ci 0)) 2)]) (.seq (.ops [(w 3 0), (o (.bin .rem 2 (t 3) (ci 1000003)) 4), (o (.bin .add 2 (t 4) (ci 1000003)) 5), (o (.bin .rem 2 (t 5) (ci 1000003)) 6), (w 2 6)]) .ret))
theorem f_gauss_rest : Fits Tryz.prog 134 1 c_gauss_rest [(.tmp 2)] := fits_mk Tryz.func134 (by kernel_rfl) (by kernel_rfl) (by kernel_rfl)
theorem p_gauss_rest (F : Nat) (a0 : Int) (r : Int) (h : m_gauss_rest F a0 = some r) : PC Tryz.prog 134 [S.one (.v (.int .i64 a0))] (S.one (.v (.int .i64 r))) := by
 unfold m_gauss_rest at h
 refine PC_go f_gauss_rest rfl rfl ?_
 intro C hP
 unfold c_gauss_rest; dsimp
 apply E_seq
 apply E_ops
 apply WM
 apply W_nil
 refine E_keep [0] [] ?_
 (try dsimp)
 apply E_seq
 apply E_ops
 apply WM
 refine WQ (does_int rfl rfl rfl) ?_
 obtain ⟨g1, h⟩ := of_gd h
 refine WQ (does_add rfl rfl g1.1 g1.2) ?_
 refine WQ (does_int rfl rfl rfl) ?_
 apply WM
 apply W_nil
 refine E_keep [2] [] ?_
 (try dsimp)
 apply E_ret
 cases h
 (try simp only [qt, qb, qn])
 refine fin_mk (xs := _) ⟨_, rfl, rfl⟩ ?_
 rfl
/- reeve/gauss.Spin -/
def c_gauss_Spin : VCode := (.seq (.ops [(o (.mv (.const (.complex .f64 0 0))) 2)]) (.seq (.ops [(o (.mv (.const (.complex .f64 0 0))) 3)]) (.seq (.seq (.ops [(w 9 0), (o (.len false (t 9)) 10), (o (.mv (ci 0)) 11)]) (.block 0 (.loop (.seq (.ops [(o (.bin .lss 3 (t 11) (t 10)) 12)]) (.seq (.cond (t 12) .skip (.exit 0)) (.seq (.block 1 (.seq (.ops [(o (.idxS 1 (t 9) (t 11)) 13), (o (.load false 1 (t 13)) 14), (w 5 14)]) (.seq (.ops [(w 16 3), (o (.call 132 [(t 16), (ci 1)]) 17), (o (.call 131 [(t 17)]) 18), (w 15 18), (o (.ext 0 (t 15)) 19), (o (.ext 1 (t 15)) 20), (o (.ext 2 (t 15)) 21), (w 6 19), (w 7 20), (w 8 21)]) (.seq (.ops [(w 22 6), (w 23 5), (o (.convI .u16 (t 23)) 24), (o (.convI .i64 (t 24)) 25), (w 26 5), (o (.bin .shr 42 (t 26) (.const (.int .u64 32))) 27), (o (.convI .u16 (t 27)) 28), (o (.convI .i64 (t 28)) 29), (o (.bin .sub 2 (t 25) (t 29)) 30), (o (.bin .add 2 (t 22) (t 30)) 31), (w 6 31)]) (.seq (.ops [(w 32 7), (w 33 5), (o (.bin .shr 42 (t 33) (.const (.int .u64 16))) 34), (o (.convI .u16 (t 34)) 35), (o (.convI .i64 (t 35)) 36), (w 37 5), (o (.bin .shr 42 (t 37) (.const (.int .u64 48))) 38), (o (.convI .u16 (t 38)) 39), (o (.convI .i64 (t 39)) 40), (o (.bin .sub 2 (t 36) (t 40)) 41), (o (.bin .add 2 (t 32) (t 41)) 42), (w 7 42)]) (.ops [(w 44 6), (o (.call 134 [(t 44)]) 45), (w 46 7), (o (.call 134 [(t 46)]) 47), (o (.call 133 [(t 45), (t 47)]) 48), (w 43 48), (o (.ext 0 (t 43)) 49), (o (.ext 1 (t 43)) 50), (w 3 49)])))))) (.ops [(o (.bin .add 3 (t 11) (ci 1)) 51), (w 11 51)]))))))) (.seq (.ops [(w 52 3), (w 2 52)]) .ret))))
theorem f_gauss_Spin : Fits Tryz.prog 94 1 c_gauss_Spin [(.tmp 2)] := fits_mk Tryz.func94 (by kernel_rfl) (by kernel_rfl) (by kernel_rfl)
theorem p_gauss_Spin (F : Nat) (a0 : (List Int)) (r : Value) (h : m_gauss_Spin F a0 = some r) : PC Tryz.prog 94 [S.one (.sl (flat e_i_u64 a0) a0.length)] (S.one (.v r)) := by
 unfold m_gauss_Spin at h
 refine PC_go f_gauss_Spin rfl rfl ?_
 intro C hP
 unfold c_gauss_Spin; dsimp
 apply E_seq
 apply E_ops
 apply WM
 apply W_nil
 refine E_keep [0] [] ?_
 (try dsimp)
 apply E_seq
 apply E_ops
 apply WM
 apply W_nil
 (try dsimp)
 obtain ⟨k2, k2d, h⟩ := of_jn h
 refine E_seqJ (α := Value) (fun (i : Value) => (⟨[(3, S.one (.v i))], []⟩ : St)) (fun i => k2 i = some r) (fun i h => ?_) ?_
 ·let iv := i; change k2 i = some r at h; generalize i = v1 at h ⊢
  rw [k2d] at h; dsimp only at h
  (try dsimp)
  apply E_seq
  apply E_ops
  apply WM
  apply WM
  apply W_nil
  refine E_keep [2] [] ?_
  (try dsimp)
  apply E_ret
  cases h
  (try simp only [qt, qb, qn])
  refine fin_mk (xs := _) ⟨_, rfl, rfl⟩ ?_
  rfl
 ·
  skip
  apply E_seq
  apply E_ops
  apply WM
  refine WQ (does_len_sl rfl) ?_
  apply WM
  apply W_nil
  refine E_keep [3, 9, 10, 11] [] ?_
  (try dsimp)
  apply E_block
  (try dsimp)
  refine E_loopB (α := Value × Int) (fun (i : Value × Int) => (⟨[(3, S.one (.v i.1)), (9, S.one (.sl (flat e_i_u64 a0) a0.length)), (10, S.one (.v (.int .i64 ((a0.length : Nat) : Int)))), (11, S.one (.v (.int .i64 i.2)))], []⟩ : St)) (fun n i => m_gauss_Spin_l0 F a0 k2 n i.1 i.2 = some r) F ((.complex .f64 0 0 : Value), (0 : Int)) h ?_ (fun n i h => ?_)
  ·
   exact (Le.b (le_mk ⟨rfl, rfl, rfl, rfl, trivial⟩ trivial))
  obtain ⟨v29, v30⟩ := i; dsimp only at h
  cases n with
  | zero => cases h
  | succ n31 =>
   unfold m_gauss_Spin_l0 at h
   (try dsimp)
   apply E_seq
   apply E_ops
   refine WQ (does_int rfl rfl rfl) ?_
   apply W_nil
   (try dsimp)
   apply E_seq
   refine E_cond rfl (fun hc32 => ?_) (fun hc32 => ?_)
   ·replace h := of_ct h hc32
    apply E_skip
    refine E_keep [3, 9, 10, 11] [] ?_
    (try dsimp)
    apply E_seq
    apply E_block
    apply E_seq
    apply E_ops
    obtain ⟨g33, h⟩ := of_gd h
    refine WQ (does_idx_sl rfl rfl g33.1 g33.2) ?_
    refine WQ (does_load1_slF (k := 1) rfl (fun _ => rfl) g33 0 rfl rfl) ?_
    apply WM
    apply W_nil
    refine E_keep [3, 5, 9, 10, 11] [] ?_
    (try dsimp)
    apply E_seq
    apply E_ops
    apply WM
    obtain ⟨x34, x34h, h⟩ := of_bind h
    refine W1 (does_call1 hP (p_gauss_Turn F v29 (1 : Int) x34 x34h) rfl rfl rfl) ?_
    obtain ⟨x35, x35h, h⟩ := of_bind h
    refine W1 (does_call1 hP (p_gauss_Parts F x34 x35 x35h) rfl rfl rfl) ?_
    apply WM
    refine WQ (does_ext rfl rfl) ?_
    refine WQ (does_ext rfl rfl) ?_
    refine WQ (does_ext rfl rfl) ?_
    apply WM
    apply WM
    apply WM
    apply W_nil
    refine E_keep [5, 6, 7, 9, 10, 11] [] ?_
    (try dsimp)
    apply E_seq
    apply E_ops
    apply WM
    apply WM
    refine WQ (does_convI rfl) ?_
    refine WQ (does_convI rfl) ?_
    apply WM
    refine WQ (does_shr rfl rfl (by decide)) ?_
    refine WQ (does_convI rfl) ?_
    refine WQ (does_convI rfl) ?_
    obtain ⟨g36, h⟩ := of_gd h
    refine WQ (does_sub rfl rfl g36.1 g36.2) ?_
    obtain ⟨g37, h⟩ := of_gd h
    refine WQ (does_add rfl rfl g37.1 g37.2) ?_
    apply WM
    apply W_nil
    refine E_keep [5, 6, 7, 9, 10, 11] [] ?_
    (try dsimp)
    apply E_seq
    apply E_ops
    apply WM
    apply WM
    refine WQ (does_shr rfl rfl (by decide)) ?_
    refine WQ (does_convI rfl) ?_
    refine WQ (does_convI rfl) ?_
    apply WM
    refine WQ (does_shr rfl rfl (by decide)) ?_
    refine WQ (does_convI rfl) ?_
    refine WQ (does_convI rfl) ?_
    obtain ⟨g38, h⟩ := of_gd h
    refine WQ (does_sub rfl rfl g38.1 g38.2) ?_
    obtain ⟨g39, h⟩ := of_gd h
    refine WQ (does_add rfl rfl g39.1 g39.2) ?_
    apply WM
    apply W_nil
    refine E_keep [6, 7, 9, 10, 11] [] ?_
    (try dsimp)
    apply E_ops
    apply WM
    obtain ⟨x40, x40h, h⟩ := of_bind h
    refine W1 (does_call1 hP (p_gauss_rest F (x35.1 + ((IntKind.i64.wrap (IntKind.u16.wrap (nth a0 v30))) - (IntKind.i64.wrap (IntKind.u16.wrap (ishr .u64 (nth a0 v30) (32 : Int)))))) x40 x40h) rfl rfl rfl) ?_
    apply WM
    obtain ⟨x41, x41h, h⟩ := of_bind h
    refine W1 (does_call1 hP (p_gauss_rest F (x35.2.1 + ((IntKind.i64.wrap (IntKind.u16.wrap (ishr .u64 (nth a0 v30) (16 : Int)))) - (IntKind.i64.wrap (IntKind.u16.wrap (ishr .u64 (nth a0 v30) (48 : Int)))))) x41 x41h) rfl rfl rfl) ?_
    obtain ⟨x42, x42h, h⟩ := of_bind h
    refine W1 (does_call1 hP (p_gauss_Of F x40 x41 x42 x42h) rfl rfl rfl) ?_
    apply WM
    refine WQ (does_ext rfl rfl) ?_
    refine WQ (does_ext rfl rfl) ?_
    apply WM
    apply W_nil
    refine E_keep [3, 9, 10, 11] [] ?_
    (try dsimp)
    apply E_ops
    obtain ⟨g43, h⟩ := of_gd h
    refine WQ (does_add rfl rfl g43.1 g43.2) ?_
    apply WM
    apply W_nil
    refine ⟨n31, (x42.1, (v30 + (1 : Int))), Nat.lt_succ_self _, h, ?_⟩
    exact (Le.b (le_mk ⟨rfl, rfl, rfl, rfl, trivial⟩ trivial))
   ·replace h := of_cf h hc32
    apply E_exit
    refine ⟨v29, h, ?_⟩
    exact (Le.b (le_mk ⟨rfl, trivial⟩ trivial))
/- reeve/gauss.Word -/
def c_gauss_Word : VCode := (.seq (.ops [(o (.mv (.const (.int .u64 0))) 2), (o (.mv (cb false)) 3)]) (.seq (.ops [(w 8 0), (o (.call 131 [(t 8)]) 9), (w 7 9), (o (.ext 0 (t 7)) 10), (o (.ext 1 (t 7)) 11), (o (.ext 2 (t 7)) 12), (w 4 10), (w 5 11), (w 6 12)]) (.seq (.seq (.ops [(w 13 6), (o (.un .not (t 13)) 14), (w 15 14), (g_ (.mv (t 4)) 16 15 false), (g_ (.bin .lss 2 (t 16) (ci 0)) 17 15 false), (o (.pick (t 15) (cb true) (t 17)) 18), (w 19 18), (g_ (.mv (t 4)) 20 19 false), (g_ (.bin .gtr 2 (t 20) (ci 4294967295)) 21 19 false), (o (.pick (t 19) (cb true) (t 21)) 22), (w 23 22), (g_ (.mv (t 5)) 24 23 false), (g_ (.bin .lss 2 (t 24) (ci 0)) 25 23 false), (o (.pick (t 23) (cb true) (t 25)) 26), (w 27 26), (g_ (.mv (t 5)) 28 27 false), (g_ (.bin .gtr 2 (t 28) (ci 4294967295)) 29 27 false), (o (.pick (t 27) (cb true) (t 29)) 30)]) (.cond (t 30) (.seq (.ops [(o (.mv (.const (.int .u64 0))) 2), (o (.mv (cb false)) 3)]) .ret) .skip)) (.seq (.ops [(w 31 5), (o (.convI .u64 (t 31)) 32), (o (.bin .shl 42 (t 32) (.const (.int .u64 32))) 33), (w 34 4), (o (.convI .u64 (t 34)) 35), (o (.bin .or 42 (t 33) (t 35)) 36), (w 2 36), (o (.mv (cb true)) 3)]) .ret))))
theorem f_gauss_Word : Fits Tryz.prog 93 1 c_gauss_Word [(.tmp 2), (.tmp 3)] := fits_mk Tryz.func93 (by kernel_rfl) (by kernel_rfl) (by kernel_rfl)
theorem p_gauss_Word (F : Nat) (a0 : Value) (r : Int × Bool) (h : m_gauss_Word F a0 = some r) : PC Tryz.prog 93 [S.one (.v a0)] (S.tup [S.one (.v (.int .u64 r.1)), S.one (.v (.bool r.2))]) := by
 unfold m_gauss_Word at h
 refine PC_go f_gauss_Word rfl rfl ?_
 intro C hP
 unfold c_gauss_Word; dsimp
 apply E_seq
 apply E_ops
 apply WM
 apply WM
 apply W_nil
 refine E_keep [0] [] ?_
 (try dsimp)
 apply E_seq
 apply E_ops
 apply WM
 obtain ⟨x1, x1h, h⟩ := of_bind h
 refine W1 (does_call1 hP (p_gauss_Parts F a0 x1 x1h) rfl rfl rfl) ?_
 apply WM
 refine WQ (does_ext rfl rfl) ?_
 refine WQ (does_ext rfl rfl) ?_
 refine WQ (does_ext rfl rfl) ?_
 apply WM
 apply WM
 apply WM
 apply W_nil
 refine E_keep [4, 5, 6] [] ?_
 (try dsimp)
 apply E_seq
 apply E_seq
 apply E_ops
 apply WM
 refine WQ (does_not rfl) ?_
 apply WM
 apply W_lazy
 ·rfl
 ·intro hB; (try simp only [hB, bss, ctt]); exact does_mv rfl
 apply W_lazy
 ·rfl
 ·intro hB; (try simp only [hB, bss, ctt]); exact does_int rfl rfl rfl
 refine WQ (does_or rfl rfl rfl) ?_
 apply WM
 apply W_lazy
 ·rfl
 ·intro hB; (try simp only [hB, bss, ctt]); exact does_mv rfl
 apply W_lazy
 ·rfl
 ·intro hB; (try simp only [hB, bss, ctt]); exact does_int rfl rfl rfl
 refine WQ (does_or rfl rfl rfl) ?_
 apply WM
 apply W_lazy
 ·rfl
 ·intro hB; (try simp only [hB, bss, ctt]); exact does_mv rfl
 apply W_lazy
 ·rfl
 ·intro hB; (try simp only [hB, bss, ctt]); exact does_int rfl rfl rfl
 refine WQ (does_or rfl rfl rfl) ?_
 apply WM
 apply W_lazy
 ·rfl
 ·intro hB; (try simp only [hB, bss, ctt]); exact does_mv rfl
 apply W_lazy
 ·rfl
 ·intro hB; (try simp only [hB, bss, ctt]); exact does_int rfl rfl rfl
 refine WQ (does_or rfl rfl rfl) ?_
 apply W_nil
 refine E_keep [4, 5, 30] [] ?_
 (try dsimp)
 refine E_cond rfl (fun hc2 => ?_) (fun hc2 => ?_)
 ·replace h := of_ct h hc2
  apply E_seq
  apply E_ops
  apply WM
  apply WM
  apply W_nil
  refine E_keep [2, 3] [] ?_
  (try dsimp)
  apply E_ret
  cases h
  (try simp only [qt, qb, qn])
  refine fin_mk (xs := _) ⟨_, rfl, ⟨_, rfl, rfl⟩⟩ ?_
  rfl
 ·replace h := of_cf h hc2
  apply E_skip
  refine E_keep [4, 5] [] ?_
  (try dsimp)
  apply E_seq
  apply E_ops
  apply WM
  refine WQ (does_convI rfl) ?_
  refine WQ (does_shl rfl rfl (by decide)) ?_
  apply WM
  refine WQ (does_convI rfl) ?_
  refine WQ (does_int rfl rfl rfl) ?_
  apply WM
  apply WM
  apply W_nil
  refine E_keep [2, 3] [] ?_
  (try dsimp)
  apply E_ret
  cases h
  (try simp only [qt, qb, qn])
  refine fin_mk (xs := _) ⟨_, rfl, ⟨_, rfl, rfl⟩⟩ ?_
  rfl
/- reeve/super.Put -/
def c_super_Put : VCode := (.seq (.ops [(o (.box 147 (t 0)) 1), (o (.mv cn) 2)]) (.seq (.seq (.ops [(o (.add 0 (t 1)) 6), (o (.load true 3 (t 6)) 7), (o (.call 38 [(t 7)]) 8), (o (.un .not (t 8)) 9)]) (.cond (t 9) (.seq (.ops [(o (.mv cn) 2)]) .ret) .skip)) (.seq (.ops [(o (.add 0 (t 1)) 10), (o (.add 0 (t 10)) 11), (o (.load false 1 (t 11)) 12), (o (.convI .u64 (t 12)) 13), (o (.add 0 (t 1)) 14), (o (.add 1 (t 14)) 15), (o (.load false 1 (t 15)) 16), (o (.convI .u64 (t 16)) 17), (o (.add 0 (t 1)) 18), (o (.add 2 (t 18)) 19), (o (.load false 1 (t 19)) 20), (o (.convI .u64 (t 20)) 21), (o (.add 3 (t 1)) 22), (o (.load false 1 (t 22)) 23), (o (.bslice 1 42 7 [zu, zu, zu, zu, zu, zu, zu] [(0, (1, (.const (.int .u64 8243106252149764145)))), (1, (1, (t 13))), (2, (1, (t 17))), (3, (1, (t 21))), (4, (1, (t 23))), (5, (1, (.const (.int .u64 0)))), (6, (1, (.const (.int .u64 0))))]) 24), (w 3 24)]) (.seq (.ops [(w 26 3), (o (.call 94 [(t 26)]) 27), (o (.call 93 [(t 27)]) 28), (w 25 28), (o (.ext 0 (t 25)) 29), (o (.ext 1 (t 25)) 30), (w 4 29), (w 5 30)]) (.seq (.ops [(w 31 3), (w 32 4), (o (.bslice 1 42 1 [zu] [(0, (1, (t 32)))]) 33), (o (.app 36 42 1 8 (t 31) (t 33)) 34), (w 2 34)]) .ret)))))
theorem f_super_Put : Fits Tryz.prog 57 1 c_super_Put [(.tmp 2)] := fits_mk Tryz.func57 (by kernel_rfl) (by kernel_rfl) (by kernel_rfl)
theorem p_super_Put (F : Nat) (a0 : S_super_Super) (r : (List Int)) (h : m_super_Put F a0 = some r) : PC Tryz.prog 57 [S.agg [.v (.int .i64 a0.xGeo.xThreads), .v (.int .i64 a0.xGeo.xSlots), .v (.int .i64 a0.xGeo.xThings), .v (.int .u64 a0.xBoot)]] (S.one (.sl (flat e_i_u64 r) r.length)) := by
 unfold m_super_Put at h
 refine PC_go f_super_Put rfl rfl ?_
 intro C hP
 unfold c_super_Put; dsimp
 apply E_seq
 apply E_ops
 refine W1 (does_box rfl rfl rfl rfl) ?_
 apply WM
 apply W_nil
 refine E_keep [1] [1] ?_
 (try dsimp)
 apply E_seq
 apply E_seq
 apply E_ops
 refine WQ (does_add_ptr rfl rfl) ?_
 refine WQ (does_loadA_ptr rfl rfl rfl rfl (by decide)) ?_
 obtain ⟨x1, x1h, h⟩ := of_bind h
 refine W1 (does_call1 hP (p_geo_Good F a0.xGeo x1 x1h) rfl rfl rfl) ?_
 refine WQ (does_not rfl) ?_
 apply W_nil
 refine E_keep [1, 9] [1] ?_
 (try dsimp)
 refine E_cond rfl (fun hc2 => ?_) (fun hc2 => ?_)
 ·replace h := of_ct h hc2
  apply E_seq
  apply E_ops
  apply WM
  apply W_nil
  refine E_keep [2] [] ?_
  (try dsimp)
  refine E_ghost (Le_nilS (i := 2) rfl).b ?_
  (try dsimp)
  apply E_ret
  cases h
  (try simp only [qt, qb, qn])
  refine fin_mk (xs := _) ⟨_, rfl, rfl⟩ ?_
  rfl
 ·replace h := of_cf h hc2
  apply E_skip
  refine E_keep [1] [1] ?_
  (try dsimp)
  apply E_seq
  apply E_ops
  refine WQ (does_add_ptr rfl rfl) ?_
  refine WQ (does_add_ptr rfl rfl) ?_
  refine WQ (does_load1_ptr rfl rfl rfl) ?_
  refine WQ (does_convI rfl) ?_
  refine WQ (does_add_ptr rfl rfl) ?_
  refine WQ (does_add_ptr rfl rfl) ?_
  refine WQ (does_load1_ptr rfl rfl rfl) ?_
  refine WQ (does_convI rfl) ?_
  refine WQ (does_add_ptr rfl rfl) ?_
  refine WQ (does_add_ptr rfl rfl) ?_
  refine WQ (does_load1_ptr rfl rfl rfl) ?_
  refine WQ (does_convI rfl) ?_
  refine WQ (does_add_ptr rfl rfl) ?_
  refine WQ (does_load1_ptr rfl rfl rfl) ?_
  refine W1 (does_bslice rfl rfl rfl rfl) ?_
  apply WM
  apply W_nil
  refine E_keep [3] [24] ?_
  (try dsimp)
  apply E_seq
  apply E_ops
  apply WM
  obtain ⟨x3, x3h, h⟩ := of_bind h
  refine W1 (does_callB hP (p_gauss_Spin F ([(8243106252149764145 : Int), (IntKind.u64.wrap a0.xGeo.xThreads), (IntKind.u64.wrap a0.xGeo.xSlots), (IntKind.u64.wrap a0.xGeo.xThings), a0.xBoot, (0 : Int), (0 : Int)] : List Int) x3 x3h) rfl rfl) ?_
  obtain ⟨x4, x4h, h⟩ := of_bind h
  refine W1 (does_call1 hP (p_gauss_Word F x3 x4 x4h) rfl rfl rfl) ?_
  apply WM
  refine WQ (does_ext rfl rfl) ?_
  refine WQ (does_ext rfl rfl) ?_
  apply WM
  apply WM
  apply W_nil
  refine E_keep [3, 4] [24] ?_
  (try dsimp)
  apply E_seq
  apply E_ops
  apply WM
  apply WM
  refine W1 (does_bslice rfl rfl rfl rfl) ?_
  obtain ⟨g5, h⟩ := of_gd h
  refine W1 (Does.ghost (Le_reg (r := 24) (g' := (⟨true, flat e_i_u64 ([(8243106252149764145 : Int), (IntKind.u64.wrap a0.xGeo.xThreads), (IntKind.u64.wrap a0.xGeo.xSlots), (IntKind.u64.wrap a0.xGeo.xThings), a0.xBoot, (0 : Int), (0 : Int)] : List Int)⟩ : Reg)) rfl rfl).b (does_appF (e := e_i_u64) rfl rfl (fun _ => rfl) (fun _ => rfl) rfl (Src.lit (e := e_i_u64) ([x4.1] : List Int) rfl (fun _ => rfl) rfl rfl) g5 rfl)) ?_
  apply WM
  apply W_nil
  refine E_keep [2] [24] ?_
  (try dsimp)
  refine E_ghost (Le_frz (r := 24) rfl rfl).b ?_
  (try dsimp)
  apply E_ret
  cases h
  (try simp only [qt, qb, qn])
  refine fin_mk (xs := _) ⟨_, rfl, rfl⟩ ?_
  rfl
/- reeve/geo.Slot -/
def c_geo_Slot : VCode := (.seq (.ops [(o (.box 23 (t 0)) 2), (o (.mv (ci 0)) 4)]) (.seq (.seq (.ops [(o (.load true 3 (t 2)) 5), (o (.call 38 [(t 5)]) 6), (o (.un .not (t 6)) 7), (w 8 7), (g_ (.mv (t 1)) 9 8 false), (g_ (.add 1 (t 2)) 10 8 false), (g_ (.load false 1 (t 10)) 11 8 false), (g_ (.bin .sub 3 (t 11) (ci 1)) 12 8 false), (g_ (.call 63 [(t 9), (ci 0), (t 12)]) 13 8 false), (g_ (.un .not (t 13)) 14 8 false), (o (.pick (t 8) (cb true) (t 14)) 15)]) (.cond (t 15) (.seq (.ops [(o (.mv (ci 0)) 4)]) .ret) .skip)) (.seq (.ops [(o (.load true 3 (t 2)) 16), (o (.call 96 [(t 16)]) 17), (w 18 1), (o (.bin .mul 3 (ci 2) (t 18)) 19), (o (.bin .add 3 (t 17) (t 19)) 20), (w 4 20)]) .ret)))
theorem f_geo_Slot : Fits Tryz.prog 59 2 c_geo_Slot [(.tmp 4)] := fits_mk Tryz.func59 (by kernel_rfl) (by kernel_rfl) (by kernel_rfl)
theorem p_geo_Slot (F : Nat) (a0 : S_geo_Geo) (a1 : Int) (r : Int) (h : m_geo_Slot F a0 a1 = some r) : PC Tryz.prog 59 [S.agg [.v (.int .i64 a0.xThreads), .v (.int .i64 a0.xSlots), .v (.int .i64 a0.xThings)], S.one (.v (.int .i64 a1))] (S.one (.v (.int .i64 r))) := by
 unfold m_geo_Slot at h
 refine PC_go f_geo_Slot rfl rfl ?_
 intro C hP
 unfold c_geo_Slot; dsimp
 apply E_seq
 apply E_ops
 refine W1 (does_box rfl rfl rfl rfl) ?_
 apply WM
 apply W_nil
 refine E_keep [1, 2] [2] ?_
 (try dsimp)
 apply E_seq
 apply E_seq
 apply E_ops
 refine WQ (does_loadA_ptr rfl rfl rfl rfl (by decide)) ?_
 obtain ⟨x1, x1h, h⟩ := of_bind h
 refine W1 (does_call1 hP (p_geo_Good F a0 x1 x1h) rfl rfl rfl) ?_
 refine WQ (does_not rfl) ?_
 apply WM
 apply W_lazy
 ·rfl
 ·intro hB; (try simp only [hB, bss, ctt]); exact does_mv rfl
 apply W_lazy
 ·rfl
 ·intro hB; (try simp only [hB, bss, ctt]); exact does_add_ptr rfl rfl
 apply W_lazy
 ·rfl
 ·intro hB; (try simp only [hB, bss, ctt]); exact does_load1_ptr rfl rfl rfl
 obtain ⟨g2, h⟩ := of_gd h
 apply W_lazy
 ·rfl
 ·intro hB; (try simp only [hB, bss, ctt]); exact does_sub rfl rfl (g2 hB).1 (g2 hB).2
 obtain ⟨x3, x3h, h⟩ := of_bind h
 apply W_lazyD
 ·rfl
 ·intro hB; (try simp only [hB, bss, ctt]); exact does_call1 hP (p_geo_in F a1 (0 : Int) (a0.xSlots - (1 : Int)) x3 (of_lz x3h (bt hB))) rfl rfl rfl
 apply W_lazy
 ·rfl
 ·intro hB; (try simp only [hB, bss, ctt]); exact does_not rfl
 refine WQ (does_or rfl rfl rfl) ?_
 apply W_nil
 refine E_keep [1, 2, 15] [2] ?_
 (try dsimp)
 refine E_cond rfl (fun hc4 => ?_) (fun hc4 => ?_)
 ·replace h := of_ct h hc4
  apply E_seq
  apply E_ops
  apply WM
  apply W_nil
  refine E_keep [4] [] ?_
  (try dsimp)
  apply E_ret
  cases h
  (try simp only [qt, qb, qn])
  refine fin_mk (xs := _) ⟨_, rfl, rfl⟩ ?_
  rfl
 ·replace h := of_cf h hc4
  apply E_skip
  refine E_keep [1, 2] [2] ?_
  (try dsimp)
  apply E_seq
  apply E_ops
  refine WQ (does_loadA_ptr rfl rfl rfl rfl (by decide)) ?_
  obtain ⟨x5, x5h, h⟩ := of_bind h
  refine W1 (does_call1 hP (p_geo_slotsAt F a0 x5 x5h) rfl rfl rfl) ?_
  apply WM
  obtain ⟨g6, h⟩ := of_gd h
  refine WQ (does_mul rfl rfl g6.1 g6.2) ?_
  obtain ⟨g7, h⟩ := of_gd h
  refine WQ (does_add rfl rfl g7.1 g7.2) ?_
  apply WM
  apply W_nil
  refine E_keep [4] [] ?_
  (try dsimp)
  apply E_ret
  cases h
  (try simp only [qt, qb, qn])
  refine fin_mk (xs := _) ⟨_, rfl, rfl⟩ ?_
  rfl
/- reeve/cap.fields -/
def c_cap_fields : VCode := (.seq (.ops [(o (.mv cn) 0)]) (.seq (.ops [(o (.build [zi, zi] [(0, (1, (ci 0))), (1, (1, (ci 8)))]) 1), (o (.build [zi, zi] [(0, (1, (ci 8))), (1, (1, (ci 8)))]) 2), (o (.build [zi, zi] [(0, (1, (ci 16))), (1, (1, (ci 16)))]) 3), (o (.build [zi, zi] [(0, (1, (ci 32))), (1, (1, (ci 16)))]) 4), (o (.bslice 2 221 4 [zi, zi, zi, zi, zi, zi, zi, zi] [(0, (2, (t 1))), (2, (2, (t 2))), (4, (2, (t 3))), (6, (2, (t 4)))]) 5), (w 0 5)]) .ret))
theorem f_cap_fields : Fits Tryz.prog 99 0 c_cap_fields [(.tmp 0)] := fits_mk Tryz.func99 (by kernel_rfl) (by kernel_rfl) (by kernel_rfl)
theorem p_cap_fields (F : Nat)  (r : (List S_tag_Field)) (h : m_cap_fields F  = some r) : PC Tryz.prog 99 [] (S.one (.sl (flat e_S_tag_Field r) r.length)) := by
 unfold m_cap_fields at h
 refine PC_go f_cap_fields rfl rfl ?_
 intro C hP
 unfold c_cap_fields; dsimp
 apply E_seq
 apply E_ops
 apply WM
 apply W_nil
 refine E_keep [] [] ?_
 (try dsimp)
 apply E_seq
 apply E_ops
 refine WQ (does_build rfl rfl) ?_
 refine WQ (does_build rfl rfl) ?_
 refine WQ (does_build rfl rfl) ?_
 refine WQ (does_build rfl rfl) ?_
 refine W1 (does_bslice rfl rfl rfl rfl) ?_
 apply WM
 apply W_nil
 refine E_keep [0] [5] ?_
 (try dsimp)
 refine E_ghost (Le_reg (r := 5) (g' := (⟨true, flat e_S_tag_Field ([(⟨(0 : Int), (8 : Int)⟩ : S_tag_Field), (⟨(8 : Int), (8 : Int)⟩ : S_tag_Field), (⟨(16 : Int), (16 : Int)⟩ : S_tag_Field), (⟨(32 : Int), (16 : Int)⟩ : S_tag_Field)] : List S_tag_Field)⟩ : Reg)) rfl rfl).b ?_
 (try dsimp)
 obtain ⟨g1, h⟩ := of_gd h
 refine E_ghost (Le_ownlen (i := 0) _ rfl g1).b ?_
 (try dsimp)
 refine E_ghost (Le_frz (r := 5) rfl rfl).b ?_
 (try dsimp)
 apply E_ret
 cases h
 (try simp only [qt, qb, qn])
 refine fin_mk (xs := _) ⟨_, rfl, rfl⟩ ?_
 rfl
/- (reeve/tag.Field).mask -/
def c_tag_Field_mask : VCode := (.seq (.ops [(o (.box 221 (t 0)) 1), (o (.mv (.const (.int .u64 0))) 2)]) (.seq (.draw [((o (.add 1 (t 1)) 3), []), ((o (.load false 1 (t 3)) 4), [0]), ((o (.bin .shl 42 (.const (.int .u64 1)) (t 4)) 5), [1]), ((o (.bin .sub 42 (t 5) (.const (.int .u64 1))) 6), [2]), ((o (.add 0 (t 1)) 7), []), ((o (.load false 1 (t 7)) 8), [4]), ((o (.bin .shl 42 (t 6) (t 8)) 9), [3, 5]), ((w 2 9), [6, 0, 1, 2, 3, 4, 5, 6])]) .ret))
theorem f_tag_Field_mask : Fits Tryz.prog 140 1 c_tag_Field_mask [(.tmp 2)] := fits_mk Tryz.func140 (by kernel_rfl) (by kernel_rfl) (by kernel_rfl)
theorem p_tag_Field_mask (F : Nat) (a0 : S_tag_Field) (r : Int) (h : m_tag_Field_mask F a0 = some r) : PC Tryz.prog 140 [S.agg [.v (.int .i64 a0.xFrom), .v (.int .i64 a0.xLen)]] (S.one (.v (.int .u64 r))) := by
 unfold m_tag_Field_mask at h
 refine PC_go f_tag_Field_mask rfl rfl ?_
 intro C hP
 unfold c_tag_Field_mask; dsimp
 apply E_seq
 apply E_ops
 refine W1 (does_box rfl rfl rfl rfl) ?_
 apply WM
 apply W_nil
 refine E_keep [1] [1] ?_
 (try dsimp)
 apply E_seq
 obtain ⟨g1, h⟩ := of_gd h
 obtain ⟨g2, h⟩ := of_gd h
 refine E_draw [0, 1, 2, 3, 4, 5, 6, 7] ?_
 refine XQ 0 rfl rfl rfl (does_add_ptr rfl rfl) ?_
 refine XQ 1 rfl rfl rfl (does_load1_ptr rfl rfl rfl) ?_
 refine XQ 2 rfl rfl rfl (does_shl rfl rfl g1) ?_
 refine XQ 3 rfl rfl rfl (does_int rfl rfl rfl) ?_
 refine XQ 4 rfl rfl rfl (does_add_ptr rfl rfl) ?_
 refine XQ 5 rfl rfl rfl (does_load1_ptr rfl rfl rfl) ?_
 refine XQ 6 rfl rfl rfl (does_shl rfl rfl g2) ?_
 refine XQ 7 rfl rfl rfl (does_mv rfl) ?_
 refine X_nil rfl ?_
 refine E_keep [2] [] ?_
 (try dsimp)
 apply E_ret
 cases h
 (try simp only [qt, qb, qn])
 refine fin_mk (xs := _) ⟨_, rfl, rfl⟩ ?_
 rfl
/- reeve/tag.all -/
def c_tag_all : VCode := (.seq (.ops [(o (.mv (.const (.int .u64 0))) 2), (o (.mv (cb false)) 3)]) (.seq (.ops [(o (.mv (.const (.int .u64 0))) 4)]) (.seq (.seq (.ops [(w 7 0), (o (.len false (t 7)) 8), (o (.mv (ci 0)) 9)]) (.block 0 (.loop (.seq (.ops [(o (.bin .lss 3 (t 9) (t 8)) 10)]) (.seq (.cond (t 10) .skip (.exit 0)) (.seq (.block 1 (.seq (.ops [(o (.idxS 2 (t 7) (t 9)) 11), (o (.load true 2 (t 11)) 12), (o (.newv [zi, zi]) 6), (n_ (.store 2 (t 6) (t 12)))]) (.seq (.seq (.ops [(o (.add 0 (t 6)) 13), (o (.load false 1 (t 13)) 14), (o (.bin .lss 3 (t 14) (ci 0)) 15), (w 16 15), (g_ (.add 0 (t 6)) 17 16 false), (g_ (.load false 1 (t 17)) 18 16 false), (g_ (.bin .geq 3 (t 18) (ci 64)) 19 16 false), (o (.pick (t 16) (cb true) (t 19)) 20), (w 21 20), (g_ (.add 1 (t 6)) 22 21 false), (g_ (.load false 1 (t 22)) 23 21 false), (g_ (.bin .lss 3 (t 23) (ci 1)) 24 21 false), (o (.pick (t 21) (cb true) (t 24)) 25), (w 26 25), (g_ (.add 1 (t 6)) 27 26 false), (g_ (.load false 1 (t 27)) 28 26 false), (g_ (.add 0 (t 6)) 29 26 false), (g_ (.load false 1 (t 29)) 30 26 false), (g_ (.bin .sub 3 (ci 64) (t 30)) 31 26 false), (g_ (.bin .gtr 3 (t 28) (t 31)) 32 26 false), (o (.pick (t 26) (cb true) (t 32)) 33), (w 34 33), (g_ (.mv (t 4)) 35 34 false), (g_ (.load true 2 (t 6)) 36 34 false), (g_ (.call 140 [(t 36)]) 37 34 false), (g_ (.bin .and 42 (t 35) (t 37)) 38 34 false), (g_ (.bin .neq 42 (t 38) (.const (.int .u64 0))) 39 34 false), (o (.pick (t 34) (cb true) (t 39)) 40)]) (.cond (t 40) (.seq (.ops [(o (.mv (.const (.int .u64 0))) 2), (o (.mv (cb false)) 3)]) .ret) .skip)) (.ops [(w 41 4), (o (.load true 2 (t 6)) 42), (o (.call 140 [(t 42)]) 43), (o (.bin .or 42 (t 41) (t 43)) 44), (w 4 44)])))) (.ops [(o (.bin .add 3 (t 9) (ci 1)) 45), (w 9 45)]))))))) (.seq (.ops [(w 46 4), (w 2 46), (o (.mv (cb true)) 3)]) .ret))))
theorem f_tag_all : Fits Tryz.prog 159 1 c_tag_all [(.tmp 2), (.tmp 3)] := fits_mk Tryz.func159 (by kernel_rfl) (by kernel_rfl) (by kernel_rfl)
theorem p_tag_all (F : Nat) (a0 : (List S_tag_Field)) (r : Int × Bool) (h : m_tag_all F a0 = some r) : PC Tryz.prog 159 [S.one (.sl (flat e_S_tag_Field a0) a0.length)] (S.tup [S.one (.v (.int .u64 r.1)), S.one (.v (.bool r.2))]) := by
 unfold m_tag_all at h
 refine PC_go f_tag_all rfl rfl ?_
 intro C hP
 unfold c_tag_all; dsimp
 apply E_seq
 apply E_ops
 apply WM
 apply WM
 apply W_nil
 refine E_keep [0] [] ?_
 (try dsimp)
 apply E_seq
 apply E_ops
 apply WM
 apply W_nil
 (try dsimp)
 obtain ⟨k2, k2d, h⟩ := of_jn h
 refine E_seqJ (α := Int) (fun (i : Int) => (⟨[(4, S.one (.v (.int .u64 i)))], []⟩ : St)) (fun i => k2 i = some r) (fun i h => ?_) ?_
 ·let iv := i; change k2 i = some r at h; generalize i = v1 at h ⊢
  rw [k2d] at h; dsimp only at h
  (try dsimp)
  apply E_seq
  apply E_ops
  apply WM
  apply WM
  apply WM
  apply W_nil
  refine E_keep [2, 3] [] ?_
  (try dsimp)
  apply E_ret
  cases h
  (try simp only [qt, qb, qn])
  refine fin_mk (xs := _) ⟨_, rfl, ⟨_, rfl, rfl⟩⟩ ?_
  rfl
 ·
  skip
  apply E_seq
  apply E_ops
  apply WM
  refine WQ (does_len_sl rfl) ?_
  apply WM
  apply W_nil
  refine E_keep [4, 7, 8, 9] [] ?_
  (try dsimp)
  apply E_block
  (try dsimp)
  refine E_loopB (α := Int × Int) (fun (i : Int × Int) => (⟨[(4, S.one (.v (.int .u64 i.1))), (7, S.one (.sl (flat e_S_tag_Field a0) a0.length)), (8, S.one (.v (.int .i64 ((a0.length : Nat) : Int)))), (9, S.one (.v (.int .i64 i.2)))], []⟩ : St)) (fun n i => m_tag_all_l0 F a0 k2 n i.1 i.2 = some r) F ((0 : Int), (0 : Int)) h ?_ (fun n i h => ?_)
  ·
   exact (Le.b (le_mk ⟨rfl, rfl, rfl, rfl, trivial⟩ trivial))
  obtain ⟨v19, v20⟩ := i; dsimp only at h
  cases n with
  | zero => cases h
  | succ n21 =>
   unfold m_tag_all_l0 at h
   (try dsimp)
   apply E_seq
   apply E_ops
   refine WQ (does_int rfl rfl rfl) ?_
   apply W_nil
   (try dsimp)
   apply E_seq
   refine E_cond rfl (fun hc22 => ?_) (fun hc22 => ?_)
   ·replace h := of_ct h hc22
    apply E_skip
    refine E_keep [4, 7, 8, 9] [] ?_
    (try dsimp)
    apply E_seq
    apply E_block
    apply E_seq
    apply E_ops
    obtain ⟨g23, h⟩ := of_gd h
    refine WQ (does_idx_sl rfl rfl g23.1 g23.2) ?_
    refine WQ (does_loadA_slF (k := 2) rfl (fun _ => rfl) g23 0 rfl rfl rfl) ?_
    refine W1 (does_newv rfl rfl) ?_
    refine W1 (does_store rfl rfl rfl rfl rfl (Nat.le_of_ble_eq_true rfl) rfl (by decide)) ?_
    apply W_nil
    refine E_keep [4, 6, 7, 8, 9] [6] ?_
    (try dsimp)
    apply E_seq
    apply E_seq
    apply E_ops
    refine WQ (does_add_ptr rfl rfl) ?_
    refine WQ (does_load1_ptr rfl rfl rfl) ?_
    refine WQ (does_int rfl rfl rfl) ?_
    apply WM
    apply W_lazy
    ·rfl
    ·intro hB; (try simp only [hB, bss, ctt]); exact does_add_ptr rfl rfl
    apply W_lazy
    ·rfl
    ·intro hB; (try simp only [hB, bss, ctt]); exact does_load1_ptr rfl rfl rfl
    apply W_lazy
    ·rfl
    ·intro hB; (try simp only [hB, bss, ctt]); exact does_int rfl rfl rfl
    refine WQ (does_or rfl rfl rfl) ?_
    apply WM
    apply W_lazy
    ·rfl
    ·intro hB; (try simp only [hB, bss, ctt]); exact does_add_ptr rfl rfl
    apply W_lazy
    ·rfl
    ·intro hB; (try simp only [hB, bss, ctt]); exact does_load1_ptr rfl rfl rfl
    apply W_lazy
    ·rfl
    ·intro hB; (try simp only [hB, bss, ctt]); exact does_int rfl rfl rfl
    refine WQ (does_or rfl rfl rfl) ?_
    apply WM
    apply W_lazy
    ·rfl
    ·intro hB; (try simp only [hB, bss, ctt]); exact does_add_ptr rfl rfl
    apply W_lazy
    ·rfl
    ·intro hB; (try simp only [hB, bss, ctt]); exact does_load1_ptr rfl rfl rfl
    apply W_lazy
    ·rfl
    ·intro hB; (try simp only [hB, bss, ctt]); exact does_add_ptr rfl rfl
    apply W_lazy
    ·rfl
    ·intro hB; (try simp only [hB, bss, ctt]); exact does_load1_ptr rfl rfl rfl
    obtain ⟨g24, h⟩ := of_gd h
    apply W_lazy
    ·rfl
    ·intro hB; (try simp only [hB, bss, ctt]); exact does_sub rfl rfl (g24 hB).1 (g24 hB).2
    apply W_lazy
    ·rfl
    ·intro hB; (try simp only [hB, bss, ctt]); exact does_int rfl rfl rfl
    refine WQ (does_or rfl rfl rfl) ?_
    apply WM
    apply W_lazy
    ·rfl
    ·intro hB; (try simp only [hB, bss, ctt]); exact does_mv rfl
    apply W_lazy
    ·rfl
    ·intro hB; (try simp only [hB, bss, ctt]); exact does_loadA_ptr rfl rfl rfl rfl (by decide)
    obtain ⟨x25, x25h, h⟩ := of_bind h
    apply W_lazyD
    ·rfl
    ·intro hB; (try simp only [hB, bss, ctt]); exact does_call1 hP (p_tag_Field_mask F (nth a0 v20) x25 (of_lz x25h (bt hB))) rfl rfl rfl
    apply W_lazy
    ·rfl
    ·intro hB; (try simp only [hB, bss, ctt]); exact does_int rfl rfl rfl
    apply W_lazy
    ·rfl
    ·intro hB; (try simp only [hB, bss, ctt]); exact does_int rfl rfl rfl
    refine WQ (does_or rfl rfl rfl) ?_
    apply W_nil
    refine E_keep [4, 6, 7, 8, 9, 40] [6] ?_
    (try dsimp)
    refine E_cond rfl (fun hc26 => ?_) (fun hc26 => ?_)
    ·replace h := of_ct h hc26
     apply E_seq
     apply E_ops
     apply WM
     apply WM
     apply W_nil
     refine E_keep [2, 3] [] ?_
     (try dsimp)
     apply E_ret
     cases h
     (try simp only [qt, qb, qn])
     refine fin_mk (xs := _) ⟨_, rfl, ⟨_, rfl, rfl⟩⟩ ?_
     rfl
    ·replace h := of_cf h hc26
     apply E_skip
     refine E_keep [4, 6, 7, 8, 9] [6] ?_
     (try dsimp)
     apply E_ops
     apply WM
     refine WQ (does_loadA_ptr rfl rfl rfl rfl (by decide)) ?_
     obtain ⟨x27, x27h, h⟩ := of_bind h
     refine W1 (does_call1 hP (p_tag_Field_mask F (nth a0 v20) x27 x27h) rfl rfl rfl) ?_
     refine WQ (does_int rfl rfl rfl) ?_
     apply WM
     apply W_nil
     refine E_keep [4, 7, 8, 9] [] ?_
     (try dsimp)
     apply E_ops
     obtain ⟨g28, h⟩ := of_gd h
     refine WQ (does_add rfl rfl g28.1 g28.2) ?_
     apply WM
     apply W_nil
     refine ⟨n21, ((ior .u64 v19 x27), (v20 + (1 : Int))), Nat.lt_succ_self _, h, ?_⟩
     exact (Le.b (le_mk ⟨rfl, rfl, rfl, rfl, trivial⟩ trivial))
   ·replace h := of_cf h hc22
    apply E_exit
    refine ⟨v19, h, ?_⟩
    exact (Le.b (le_mk ⟨rfl, trivial⟩ trivial))
/- reeve/tag.Good -/
def c_tag_Good : VCode := (.seq (.ops [(o (.mv (cb false)) 2)]) (.seq (.ops [(w 6 0), (o (.call 159 [(t 6)]) 7), (w 5 7), (o (.ext 0 (t 5)) 8), (o (.ext 1 (t 5)) 9), (w 3 8), (w 4 9)]) (.seq (.ops [(w 10 4), (w 2 10)]) .ret)))
theorem f_tag_Good : Fits Tryz.prog 139 1 c_tag_Good [(.tmp 2)] := fits_mk Tryz.func139 (by kernel_rfl) (by kernel_rfl) (by kernel_rfl)
theorem p_tag_Good (F : Nat) (a0 : (List S_tag_Field)) (r : Bool) (h : m_tag_Good F a0 = some r) : PC Tryz.prog 139 [S.one (.sl (flat e_S_tag_Field a0) a0.length)] (S.one (.v (.bool r))) := by
 unfold m_tag_Good at h
 refine PC_go f_tag_Good rfl rfl ?_
 intro C hP
 unfold c_tag_Good; dsimp
 apply E_seq
 apply E_ops
 apply WM
 apply W_nil
 refine E_keep [0] [] ?_
 (try dsimp)
 apply E_seq
 apply E_ops
 apply WM
 obtain ⟨x1, x1h, h⟩ := of_bind h
 refine W1 (does_call1 hP (p_tag_all F a0 x1 x1h) rfl rfl rfl) ?_
 apply WM
 refine WQ (does_ext rfl rfl) ?_
 refine WQ (does_ext rfl rfl) ?_
 apply WM
 apply WM
 apply W_nil
 refine E_keep [4] [] ?_
 (try dsimp)
 apply E_seq
 apply E_ops
 apply WM
 apply WM
 apply W_nil
 refine E_keep [2] [] ?_
 (try dsimp)
 apply E_ret
 cases h
 (try simp only [qt, qb, qn])
 refine fin_mk (xs := _) ⟨_, rfl, rfl⟩ ?_
 rfl
/- reeve/tag.Put -/
def c_tag_Put : VCode := (.seq (.ops [(o (.mv (.const (.int .u64 0))) 4), (o (.mv (cb false)) 5)]) (.seq (.seq (.ops [(w 9 0), (o (.call 139 [(t 9)]) 10), (o (.un .not (t 10)) 11), (w 12 11), (g_ (.mv (t 0)) 13 12 false), (g_ (.len false (t 13)) 14 12 false), (g_ (.mv (t 1)) 15 12 false), (g_ (.len false (t 15)) 16 12 false), (g_ (.bin .neq 3 (t 14) (t 16)) 17 12 false), (o (.pick (t 12) (cb true) (t 17)) 18)]) (.cond (t 18) (.seq (.ops [(o (.mv (.const (.int .u64 0))) 4), (o (.mv (cb false)) 5)]) .ret) .skip)) (.seq (.ops [(o (.mv (.const (.int .u64 0))) 6)]) (.seq (.seq (.ops [(w 19 0), (o (.len false (t 19)) 20), (o (.mv (ci 0)) 21)]) (.block 0 (.loop (.seq (.ops [(o (.bin .lss 3 (t 21) (t 20)) 22)]) (.seq (.cond (t 22) .skip (.exit 0)) (.seq (.block 1 (.seq (.ops [(w 23 21), (o (.idxS 2 (t 19) (t 21)) 24), (o (.load true 2 (t 24)) 25), (o (.newv [zi, zi]) 8), (w 7 23), (n_ (.store 2 (t 8) (t 25)))]) (.seq (.seq (.draw [((w 26 1), []), ((w 27 7), []), ((o (.idxS 1 (t 26) (t 27)) 28), [0, 1]), ((o (.load false 1 (t 28)) 29), [2]), ((o (.load true 2 (t 8)) 30), []), ((o (.call 140 [(t 30)]) 31), [4]), ((o (.add 0 (t 8)) 32), []), ((o (.load false 1 (t 32)) 33), [6]), ((o (.bin .shr 42 (t 31) (t 33)) 34), [5, 7]), ((o (.bin .gtr 42 (t 29) (t 34)) 35), [3, 8])]) (.cond (t 35) (.seq (.ops [(o (.mv (.const (.int .u64 0))) 4), (o (.mv (cb false)) 5)]) .ret) .skip)) (.draw [((w 36 6), []), ((w 37 1), []), ((w 38 7), []), ((o (.idxS 1 (t 37) (t 38)) 39), [1, 2]), ((o (.load false 1 (t 39)) 40), [3]), ((o (.add 0 (t 8)) 41), []), ((o (.load false 1 (t 41)) 42), [5]), ((o (.bin .shl 42 (t 40) (t 42)) 43), [4, 6]), ((o (.bin .or 42 (t 36) (t 43)) 44), [0, 7]), ((w 6 44), [8, 0, 1, 2, 3, 4, 5, 6, 7, 8])])))) (.ops [(o (.bin .add 3 (t 21) (ci 1)) 45), (w 21 45)]))))))) (.seq (.ops [(w 46 6), (w 4 46), (o (.mv (cb true)) 5)]) .ret)))))
theorem f_tag_Put : Fits Tryz.prog 98 2 c_tag_Put [(.tmp 4), (.tmp 5)] := fits_mk Tryz.func98 (by kernel_rfl) (by kernel_rfl) (by kernel_rfl)
theorem p_tag_Put (F : Nat) (a0 : (List S_tag_Field)) (a1 : (List Int)) (r : Int × Bool) (h : m_tag_Put F a0 a1 = some r) : PC Tryz.prog 98 [S.one (.sl (flat e_S_tag_Field a0) a0.length), S.one (.sl (flat e_i_u64 a1) a1.length)] (S.tup [S.one (.v (.int .u64 r.1)), S.one (.v (.bool r.2))]) := by
 unfold m_tag_Put at h
 refine PC_go f_tag_Put rfl rfl ?_
 intro C hP
 unfold c_tag_Put; dsimp
 apply E_seq
 apply E_ops
 apply WM
 apply WM
 apply W_nil
 refine E_keep [0, 1] [] ?_
 (try dsimp)
 apply E_seq
 apply E_seq
 apply E_ops
 apply WM
 obtain ⟨x1, x1h, h⟩ := of_bind h
 refine W1 (does_call1 hP (p_tag_Good F a0 x1 x1h) rfl rfl rfl) ?_
 refine WQ (does_not rfl) ?_
 apply WM
 apply W_lazy
 ·rfl
 ·intro hB; (try simp only [hB, bss, ctt]); exact does_mv rfl
 apply W_lazy
 ·rfl
 ·intro hB; (try simp only [hB, bss, ctt]); exact does_len_sl rfl
 apply W_lazy
 ·rfl
 ·intro hB; (try simp only [hB, bss, ctt]); exact does_mv rfl
 apply W_lazy
 ·rfl
 ·intro hB; (try simp only [hB, bss, ctt]); exact does_len_sl rfl
 apply W_lazy
 ·rfl
 ·intro hB; (try simp only [hB, bss, ctt]); exact does_int rfl rfl rfl
 refine WQ (does_or rfl rfl rfl) ?_
 apply W_nil
 refine E_keep [0, 1, 18] [] ?_
 (try dsimp)
 refine E_cond rfl (fun hc2 => ?_) (fun hc2 => ?_)
 ·replace h := of_ct h hc2
  apply E_seq
  apply E_ops
  apply WM
  apply WM
  apply W_nil
  refine E_keep [4, 5] [] ?_
  (try dsimp)
  apply E_ret
  cases h
  (try simp only [qt, qb, qn])
  refine fin_mk (xs := _) ⟨_, rfl, ⟨_, rfl, rfl⟩⟩ ?_
  rfl
 ·replace h := of_cf h hc2
  apply E_skip
  refine E_keep [0, 1] [] ?_
  (try dsimp)
  apply E_seq
  apply E_ops
  apply WM
  apply W_nil
  (try dsimp)
  obtain ⟨k4, k4d, h⟩ := of_jn h
  refine E_seqJ (α := Int) (fun (i : Int) => (⟨[(6, S.one (.v (.int .u64 i)))], []⟩ : St)) (fun i => k4 i = some r) (fun i h => ?_) ?_
  ·let iv := i; change k4 i = some r at h; generalize i = v3 at h ⊢
   rw [k4d] at h; dsimp only at h
   (try dsimp)
   apply E_seq
   apply E_ops
   apply WM
   apply WM
   apply WM
   apply W_nil
   refine E_keep [4, 5] [] ?_
   (try dsimp)
   apply E_ret
   cases h
   (try simp only [qt, qb, qn])
   refine fin_mk (xs := _) ⟨_, rfl, ⟨_, rfl, rfl⟩⟩ ?_
   rfl
  ·
   skip
   apply E_seq
   apply E_ops
   apply WM
   refine WQ (does_len_sl rfl) ?_
   apply WM
   apply W_nil
   refine E_keep [1, 6, 19, 20, 21] [] ?_
   (try dsimp)
   apply E_block
   (try dsimp)
   refine E_loopB (α := Int × Int) (fun (i : Int × Int) => (⟨[(1, S.one (.sl (flat e_i_u64 a1) a1.length)), (6, S.one (.v (.int .u64 i.1))), (19, S.one (.sl (flat e_S_tag_Field a0) a0.length)), (20, S.one (.v (.int .i64 ((a0.length : Nat) : Int)))), (21, S.one (.v (.int .i64 i.2)))], []⟩ : St)) (fun n i => m_tag_Put_l0 F a0 a1 k4 n i.1 i.2 = some r) F ((0 : Int), (0 : Int)) h ?_ (fun n i h => ?_)
   ·
    exact (Le.b (le_mk ⟨rfl, rfl, rfl, rfl, rfl, trivial⟩ trivial))
   obtain ⟨v25, v26⟩ := i; dsimp only at h
   cases n with
   | zero => cases h
   | succ n27 =>
    unfold m_tag_Put_l0 at h
    (try dsimp)
    apply E_seq
    apply E_ops
    refine WQ (does_int rfl rfl rfl) ?_
    apply W_nil
    (try dsimp)
    apply E_seq
    refine E_cond rfl (fun hc28 => ?_) (fun hc28 => ?_)
    ·replace h := of_ct h hc28
     apply E_skip
     refine E_keep [1, 6, 19, 20, 21] [] ?_
     (try dsimp)
     apply E_seq
     apply E_block
     apply E_seq
     apply E_ops
     apply WM
     obtain ⟨g29, h⟩ := of_gd h
     refine WQ (does_idx_sl rfl rfl g29.1 g29.2) ?_
     refine WQ (does_loadA_slF (k := 2) rfl (fun _ => rfl) g29 0 rfl rfl rfl) ?_
     refine W1 (does_newv rfl rfl) ?_
     apply WM
     refine W1 (does_store rfl rfl rfl rfl rfl (Nat.le_of_ble_eq_true rfl) rfl (by decide)) ?_
     apply W_nil
     refine E_keep [1, 6, 7, 8, 19, 20, 21] [8] ?_
     (try dsimp)
     apply E_seq
     apply E_seq
     obtain ⟨g30, h⟩ := of_gd h
     obtain ⟨x31, x31h, h⟩ := of_bind h
     obtain ⟨g32, h⟩ := of_gd h
     refine E_draw [0, 1, 2, 3, 4, 6, 7, 8, 9] ?_
     refine XQ 0 rfl rfl rfl (does_mv rfl) ?_
     refine XQ 1 rfl rfl rfl (does_mv rfl) ?_
     refine XQ 2 rfl rfl rfl (does_idx_sl rfl rfl g30.1 g30.2) ?_
     refine XQ 3 rfl rfl rfl (does_load1_slF (k := 1) rfl (fun _ => rfl) g30 0 rfl rfl) ?_
     refine XQ 4 rfl rfl rfl (does_loadA_ptr rfl rfl rfl rfl (by decide)) ?_
     refine XQ 6 rfl rfl rfl (does_add_ptr rfl rfl) ?_
     refine XQ 7 rfl rfl rfl (does_load1_ptr rfl rfl rfl) ?_
     (try dsimp)
     refine X1 rfl (XK rfl (does_call1 hP (p_tag_Field_mask F (nth a0 v26) x31 x31h) rfl rfl rfl) ?_)
     refine XQ 8 rfl rfl rfl (does_shr rfl rfl g32) ?_
     refine XQ 9 rfl rfl rfl (does_int rfl rfl rfl) ?_
     refine X_nil rfl ?_
     refine E_keep [1, 6, 7, 8, 19, 20, 21, 35] [8] ?_
     (try dsimp)
     refine E_cond rfl (fun hc33 => ?_) (fun hc33 => ?_)
     ·replace h := of_ct h hc33
      apply E_seq
      apply E_ops
      apply WM
      apply WM
      apply W_nil
      refine E_keep [4, 5] [] ?_
      (try dsimp)
      apply E_ret
      cases h
      (try simp only [qt, qb, qn])
      refine fin_mk (xs := _) ⟨_, rfl, ⟨_, rfl, rfl⟩⟩ ?_
      rfl
     ·replace h := of_cf h hc33
      apply E_skip
      refine E_keep [1, 6, 7, 8, 19, 20, 21] [8] ?_
      (try dsimp)
      obtain ⟨g34, h⟩ := of_gd h
      obtain ⟨g35, h⟩ := of_gd h
      refine E_draw [0, 1, 2, 3, 4, 5, 6, 7, 8, 9] ?_
      refine XQ 0 rfl rfl rfl (does_mv rfl) ?_
      refine XQ 1 rfl rfl rfl (does_mv rfl) ?_
      refine XQ 2 rfl rfl rfl (does_mv rfl) ?_
      refine XQ 3 rfl rfl rfl (does_idx_sl rfl rfl g34.1 g34.2) ?_
      refine XQ 4 rfl rfl rfl (does_load1_slF (k := 1) rfl (fun _ => rfl) g34 0 rfl rfl) ?_
      refine XQ 5 rfl rfl rfl (does_add_ptr rfl rfl) ?_
      refine XQ 6 rfl rfl rfl (does_load1_ptr rfl rfl rfl) ?_
      refine XQ 7 rfl rfl rfl (does_shl rfl rfl g35) ?_
      refine XQ 8 rfl rfl rfl (does_int rfl rfl rfl) ?_
      refine XQ 9 rfl rfl rfl (does_mv rfl) ?_
      refine X_nil rfl ?_
      refine E_keep [1, 6, 19, 20, 21] [] ?_
      (try dsimp)
      apply E_ops
      obtain ⟨g36, h⟩ := of_gd h
      refine WQ (does_add rfl rfl g36.1 g36.2) ?_
      apply WM
      apply W_nil
      refine ⟨n27, ((ior .u64 v25 (ishl .u64 (nth a1 v26) ((nth a0 v26).xFrom))), (v26 + (1 : Int))), Nat.lt_succ_self _, h, ?_⟩
      exact (Le.b (le_mk ⟨rfl, rfl, rfl, rfl, rfl, trivial⟩ trivial))
    ·replace h := of_cf h hc28
     apply E_exit
     refine ⟨v25, h, ?_⟩
     exact (Le.b (le_mk ⟨rfl, trivial⟩ trivial))
end Go.V.P
