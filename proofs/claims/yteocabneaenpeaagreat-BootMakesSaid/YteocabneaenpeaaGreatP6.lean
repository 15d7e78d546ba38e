/- Walks: each function does what its model says: (*reeve/gear.Gear).desc, (*reeve/gear.Gear).State, slices.Equal[[]reeve/state.Slot,reeve/state.Slot], slices.Equal[[]reeve/thing.Thing,reeve/thing.Thing], reeve/state.Same, reeve/boot.Sound, reeve/reevelaw26.awake, (*reeve/nvm.Mem).Out, reeve/boot.After, reeve/reevelaw26.BootMakes. Printed by mg.py. No premises. -/
import Derived.Test.YteocabneaenpeaaGreatP5
set_option linter.unusedVariables false
set_option linter.unusedSimpArgs false
set_option maxRecDepth 20000
set_option maxHeartbeats 4000000
namespace Go.V.P
open Go.V Go.Proofs
/- (*reeve/gear.Gear).desc -/
def c_gear_Gear_desc : VCode := (.seq (.ops [(o (.newv [zi, zu, zu, zu, zu, zu, zi, zu, zi, .nil]) 6), (o (.mv (cb false)) 7)]) (.seq (.ops [(w 11 0), (o (.nilchk (t 11)) 12), (o (.add 1 (t 12)) 13), (o (.load true 3 (t 13)) 14), (w 15 2), (o (.call 30 [(t 14), (t 15)]) 16), (w 10 16), (o (.ext 0 (t 10)) 17), (o (.ext 1 (t 10)) 18), (w 8 17), (w 9 18)]) (.seq (.draw [((w 19 0), []), ((o (.nilchk (t 19)) 20), [0]), ((o (.add 1 (t 20)) 21), [1]), ((o (.load true 3 (t 21)) 22), [2]), ((w 23 1), []), ((w 24 8), []), ((w 25 8), []), ((w 26 9), []), ((o (.bin .add 3 (t 25) (t 26)) 27), [6, 7]), ((o (.slc 1 (t 23) (.some (t 24)) (.some (t 27)) .none) 28), [4, 5, 8]), ((o (.call 68 [(t 22), (t 28)]) 29), [3, 9]), ((o (.ext 0 (t 29)) 30), [10]), ((o (.ext 1 (t 29)) 31), [10]), ((n_ (.store 10 (t 6) (t 30))), [11, 10, 0, 1, 2, 3, 4, 5, 6, 7, 8, 9, 10, 11, 12]), ((w 7 31), [12, 13, 0, 1, 2, 3, 4, 5, 6, 7, 8, 9, 10, 11, 12, 13])]) .ret)))
theorem f_gear_Gear_desc : Fits Tryz.prog 52 3 c_gear_Gear_desc [(.cell true 10 6), (.tmp 7)] := fits_mk Tryz.func52 (by kernel_rfl) (by kernel_rfl) (by kernel_rfl)
theorem p_gear_Gear_desc (F : Nat) (a0 : S_gear_Gear) (a1 : (List Int)) (a2 : Int) (r : S_opd_Desc × Bool) (h : m_gear_Gear_desc F a0 a1 a2 = some r) : AC Tryz.prog 52 [S.one (.ptr 100900 0), S.one (.sl (flat e_i_u64 a1) a1.length), S.one (.v (.int .i64 a2))] [(904, (⟨true, flat e_i_i64 a0.xorder⟩ : Reg)), (100900, (⟨false, [.ptr 100950 0, .v (.int .i64 a0.xgeo.xThreads), .v (.int .i64 a0.xgeo.xSlots), .v (.int .i64 a0.xgeo.xThings), .own 100903 0 a0.xw.length (some (12, 291)), .own 904 0 a0.xorder.length (some (1, 3)), .v (.bool a0.xdead)]⟩ : Reg)), (100903, (⟨true, flat e_S_gear_work a0.xw⟩ : Reg)), (100950, (⟨false, [.own 100951 0 a0.xm.xl.length (some (18, 86)), .v (.bool a0.xm.xoff), .v (.int .i64 a0.xm.xcount), .v (.int .i64 a0.xm.xfuse), .sl (flat e_i_i64 a0.xm.xkeep) a0.xm.xkeep.length]⟩ : Reg)), (100951, (⟨true, flat e_S_row_Row a0.xm.xl⟩ : Reg))] (fun x s' => x = S.tup [S.agg [.v (.int .i64 r.1.xStatus), .v (.int .u64 r.1.xSeq), .v (.int .u64 r.1.xL.c0), .v (.int .u64 r.1.xL.c1), .v (.int .u64 r.1.xL.c2), .v (.int .u64 r.1.xL.c3), .v (.int .i64 r.1.xReply.xErr), .v (.int .u64 r.1.xReply.xW), .v (.int .i64 r.1.xReply.xN), .sl (flat e_S_wset_Write r.1.xW) r.1.xW.length], S.one (.v (.bool r.2))] ∧ leSt s' [(904, (⟨true, flat e_i_i64 a0.xorder⟩ : Reg)), (100900, (⟨false, [.ptr 100950 0, .v (.int .i64 a0.xgeo.xThreads), .v (.int .i64 a0.xgeo.xSlots), .v (.int .i64 a0.xgeo.xThings), .own 100903 0 a0.xw.length (some (12, 291)), .own 904 0 a0.xorder.length (some (1, 3)), .v (.bool a0.xdead)]⟩ : Reg)), (100903, (⟨true, flat e_S_gear_work a0.xw⟩ : Reg)), (100950, (⟨false, [.own 100951 0 a0.xm.xl.length (some (18, 86)), .v (.bool a0.xm.xoff), .v (.int .i64 a0.xm.xcount), .v (.int .i64 a0.xm.xfuse), .sl (flat e_i_i64 a0.xm.xkeep) a0.xm.xkeep.length]⟩ : Reg)), (100951, (⟨true, flat e_S_row_Row a0.xm.xl⟩ : Reg))]) := by
 unfold m_gear_Gear_desc at h
 refine AC_go f_gear_Gear_desc rfl ?_
 intro C hP
 unfold c_gear_Gear_desc; dsimp
 apply E_seq
 apply E_ops
 refine W1 (does_newv rfl rfl) ?_
 apply WM
 apply W_nil
 refine E_keep [0, 1, 2, 6] [6, 904, 100900, 100903, 100950, 100951] ?_
 (try dsimp)
 apply E_seq
 apply E_ops
 apply WM
 refine WQ (does_nilchk_ptr rfl rfl) ?_
 refine WQ (does_add_ptr rfl rfl) ?_
 refine WQ (does_loadA_ptr rfl rfl rfl rfl (by decide)) ?_
 apply WM
 obtain ⟨x1, x1h, h⟩ := of_bind h
 refine W1 (does_call1 hP (p_geo_Desc F a0.xgeo a2 x1 x1h) rfl rfl rfl) ?_
 apply WM
 refine WQ (does_ext rfl rfl) ?_
 refine WQ (does_ext rfl rfl) ?_
 apply WM
 apply WM
 apply W_nil
 refine E_keep [0, 1, 6, 8, 9] [6, 904, 100900, 100903, 100950, 100951] ?_
 (try dsimp)
 apply E_seq
 obtain ⟨g2, h⟩ := of_gd h
 obtain ⟨g3, h⟩ := of_gd h
 obtain ⟨x4, x4h, h⟩ := of_bind h
 refine E_draw [0, 1, 2, 3, 4, 5, 6, 7, 8, 9, 11, 12] ?_
 refine XQ 0 rfl rfl rfl (does_mv rfl) ?_
 refine XQ 1 rfl rfl rfl (does_nilchk_ptr rfl rfl) ?_
 refine XQ 2 rfl rfl rfl (does_add_ptr rfl rfl) ?_
 refine XQ 3 rfl rfl rfl (does_loadA_ptr rfl rfl rfl rfl (by decide)) ?_
 refine XQ 4 rfl rfl rfl (does_mv rfl) ?_
 refine XQ 5 rfl rfl rfl (does_mv rfl) ?_
 refine XQ 6 rfl rfl rfl (does_mv rfl) ?_
 refine XQ 7 rfl rfl rfl (does_mv rfl) ?_
 refine XQ 8 rfl rfl rfl (does_add rfl rfl g2.1 g2.2) ?_
 refine XQ 9 rfl rfl rfl (does_slc_slF rfl (fun _ => rfl) rfl rfl g3.1 g3.2.1 g3.2.2) ?_
 (try dsimp)
 refine X1 rfl (XK rfl (does_call1 hP (p_opd_Get F a0.xgeo (cut a1 x1.1 (x1.1 + x1.2)) x4 x4h) rfl rfl rfl) ?_)
 refine XQ 11 rfl rfl rfl (does_ext rfl rfl) ?_
 refine XQ 12 rfl rfl rfl (does_ext rfl rfl) ?_
 refine X1 rfl (XT rfl rfl (does_store rfl rfl rfl rfl rfl (Nat.le_of_ble_eq_true rfl) rfl (by decide)) ?_)
 refine X1 rfl (XT rfl rfl ((does_mv rfl).does) ?_)
 refine X_nil rfl ?_
 refine E_keep [6, 7] [6, 904, 100900, 100903, 100950, 100951] ?_
 (try dsimp)
 apply E_ret
 cases h
 (try simp only [qt, qb, qn])
 refine fin_mk (xs := _) ⟨_, _, at_whole rfl (by simp), rfl, rfl, ⟨_, rfl, rfl⟩⟩ ?_
 show _ ∧ _
 exact ⟨rfl, ⟨(by first | rfl | simp [setn_length, cpy_length, sortI_length]), ⟨(by first | rfl | simp [setn_length, cpy_length, sortI_length]), ⟨(by first | rfl | simp [setn_length, cpy_length, sortI_length]), ⟨(by first | rfl | simp [setn_length, cpy_length, sortI_length]), ⟨(by first | rfl | simp [setn_length, cpy_length, sortI_length]), trivial⟩⟩⟩⟩⟩⟩
/- (*reeve/gear.Gear).State -/
def c_gear_Gear_State : VCode := (.seq (.ops [(o (.newv [zi, zi, zi, .nil, .nil]) 2), (o (.mv (ci 0)) 3)]) (.seq (.seq (.ops [(w 9 0), (o (.call 51 [(t 9), (ci 0)]) 10), (w 4 10)]) (.seq (.ops [(w 11 4), (o (.bin .neq 33 (t 11) (ci 0)) 12)]) (.cond (t 12) (.seq (.ops [(o (.build [zi, zi, zi, .nil, .nil] []) 13), (w 14 4), (n_ (.store 5 (t 2) (t 13))), (w 3 14)]) .ret) .skip))) (.seq (.ops [(w 15 0), (o (.nilchk (t 15)) 16), (o (.add 0 (t 16)) 17), (o (.load false 1 (t 17)) 18), (o (.call 11 [(t 18)]) 19), (w 5 19)]) (.seq (.seq (.ops [(w 20 0), (o (.nilchk (t 20)) 21), (o (.add 4 (t 21)) 22), (o (.load false 1 (t 22)) 23), (o (.len false (t 23)) 24), (o (.mv (ci 0)) 25)]) (.block 0 (.loop (.seq (.ops [(o (.bin .lss 3 (t 25) (t 24)) 26)]) (.seq (.cond (t 26) .skip (.exit 0)) (.seq (.block 1 (.seq (.ops [(w 27 25), (w 6 27)]) (.seq (.ops [(w 29 0), (w 30 5), (w 31 6), (o (.call 52 [(t 29), (t 30), (t 31)]) 32), (w 28 32), (o (.ext 0 (t 28)) 33), (o (.ext 1 (t 28)) 34), (o (.newv [zi, zu, zu, zu, zu, zu, zi, zu, zi, .nil]) 7), (n_ (.store 10 (t 7) (t 33))), (w 8 34)]) (.seq (.ops [(w 35 8), (w 36 35), (g_ (.add 0 (t 7)) 37 36 true), (g_ (.load false 1 (t 37)) 38 36 true), (g_ (.bin .eql 3 (t 38) (ci 2)) 39 36 true), (o (.pick (t 36) (t 39) (cb false)) 40)]) (.cond (t 40) (.ops [(w 41 5), (o (.add 9 (t 7)) 42), (o (.load false 1 (t 42)) 43), (o (.call 53 [(t 41), (t 43)]) 44), (w 5 44)]) .skip))))) (.ops [(o (.bin .add 3 (t 25) (ci 1)) 45), (w 25 45)]))))))) (.seq (.ops [(w 46 5), (o (.call 54 [(t 46)]) 47), (o (.ext 0 (t 47)) 48), (o (.ext 1 (t 47)) 49), (n_ (.store 5 (t 2) (t 48))), (w 3 49)]) .ret)))))
theorem f_gear_Gear_State : Fits Tryz.prog 25 1 c_gear_Gear_State [(.cell true 5 2), (.tmp 3)] := fits_mk Tryz.func25 (by kernel_rfl) (by kernel_rfl) (by kernel_rfl)
theorem p_gear_Gear_State (F : Nat) (a0 : S_gear_Gear) (r : S_state_State × Int) (h : m_gear_Gear_State F a0 = some r) : AC Tryz.prog 25 [S.one (.ptr 100900 0)] [(904, (⟨true, flat e_i_i64 a0.xorder⟩ : Reg)), (100900, (⟨false, [.ptr 100950 0, .v (.int .i64 a0.xgeo.xThreads), .v (.int .i64 a0.xgeo.xSlots), .v (.int .i64 a0.xgeo.xThings), .own 100903 0 a0.xw.length (some (12, 291)), .own 904 0 a0.xorder.length (some (1, 3)), .v (.bool a0.xdead)]⟩ : Reg)), (100903, (⟨true, flat e_S_gear_work a0.xw⟩ : Reg)), (100950, (⟨false, [.own 100951 0 a0.xm.xl.length (some (18, 86)), .v (.bool a0.xm.xoff), .v (.int .i64 a0.xm.xcount), .v (.int .i64 a0.xm.xfuse), .sl (flat e_i_i64 a0.xm.xkeep) a0.xm.xkeep.length]⟩ : Reg)), (100951, (⟨true, flat e_S_row_Row a0.xm.xl⟩ : Reg))] (fun x s' => x = S.tup [S.agg [.v (.int .i64 r.1.xGeo.xThreads), .v (.int .i64 r.1.xGeo.xSlots), .v (.int .i64 r.1.xGeo.xThings), .sl (flat e_S_state_Slot r.1.xSlots) r.1.xSlots.length, .sl (flat e_S_thing_Thing r.1.xThings) r.1.xThings.length], S.one (.v (.int .i64 r.2))] ∧ leSt s' [(904, (⟨true, flat e_i_i64 a0.xorder⟩ : Reg)), (100900, (⟨false, [.ptr 100950 0, .v (.int .i64 a0.xgeo.xThreads), .v (.int .i64 a0.xgeo.xSlots), .v (.int .i64 a0.xgeo.xThings), .own 100903 0 a0.xw.length (some (12, 291)), .own 904 0 a0.xorder.length (some (1, 3)), .v (.bool a0.xdead)]⟩ : Reg)), (100903, (⟨true, flat e_S_gear_work a0.xw⟩ : Reg)), (100950, (⟨false, [.own 100951 0 a0.xm.xl.length (some (18, 86)), .v (.bool a0.xm.xoff), .v (.int .i64 a0.xm.xcount), .v (.int .i64 a0.xm.xfuse), .sl (flat e_i_i64 a0.xm.xkeep) a0.xm.xkeep.length]⟩ : Reg)), (100951, (⟨true, flat e_S_row_Row a0.xm.xl⟩ : Reg))]) := by
 unfold m_gear_Gear_State at h
 refine AC_go f_gear_Gear_State rfl ?_
 intro C hP
 unfold c_gear_Gear_State; dsimp
 apply E_seq
 apply E_ops
 refine W1 (does_newv rfl rfl) ?_
 apply WM
 apply W_nil
 refine E_keep [0, 2] [2, 904, 100900, 100903, 100950, 100951] ?_
 (try dsimp)
 apply E_seq
 apply E_seq
 apply E_ops
 apply WM
 obtain ⟨x1, x1h, h⟩ := of_bind h
 refine W1 (does_callO [] false hP (p_gear_Gear_may F a0 (0 : Int) x1 x1h) rfl ⟨rfl, rfl, rfl, rfl, rfl, trivial⟩ rfl rfl rfl rfl rfl (fun h => by first | rfl | cases h) rfl) ?_
 (try dsimp)
 apply WM
 apply W_nil
 refine E_keep [0, 2, 4] [2, 904, 100900, 100903, 100950, 100951] ?_
 (try dsimp)
 apply E_seq
 apply E_ops
 apply WM
 refine WQ (does_int rfl rfl rfl) ?_
 apply W_nil
 refine E_keep [0, 2, 4, 12] [2, 904, 100900, 100903, 100950, 100951] ?_
 (try dsimp)
 refine E_cond rfl (fun hc2 => ?_) (fun hc2 => ?_)
 ·replace h := of_ct h hc2
  apply E_seq
  apply E_ops
  refine WQ (does_build rfl rfl) ?_
  apply WM
  refine W1 (does_store rfl rfl rfl rfl rfl (Nat.le_of_ble_eq_true rfl) rfl (by decide)) ?_
  apply WM
  apply W_nil
  refine E_keep [2, 3] [2, 904, 100900, 100903, 100950, 100951] ?_
  (try dsimp)
  refine E_ghost (Le_nilR (q := 2) rfl).b ?_
  (try dsimp)
  apply E_ret
  cases h
  (try simp only [qt, qb, qn])
  refine fin_mk (xs := _) ⟨_, _, at_whole rfl (by simp), rfl, rfl, ⟨_, rfl, rfl⟩⟩ ?_
  show _ ∧ _
  exact ⟨rfl, ⟨(by first | rfl | simp [setn_length, cpy_length, sortI_length]), ⟨(by first | rfl | simp [setn_length, cpy_length, sortI_length]), ⟨(by first | rfl | simp [setn_length, cpy_length, sortI_length]), ⟨(by first | rfl | simp [setn_length, cpy_length, sortI_length]), ⟨(by first | rfl | simp [setn_length, cpy_length, sortI_length]), trivial⟩⟩⟩⟩⟩⟩
 ·replace h := of_cf h hc2
  apply E_skip
  refine E_keep [0, 2] [2, 904, 100900, 100903, 100950, 100951] ?_
  (try dsimp)
  apply E_seq
  apply E_ops
  apply WM
  refine WQ (does_nilchk_ptr rfl rfl) ?_
  refine WQ (does_add_ptr rfl rfl) ?_
  refine WQ (does_load1_ptr rfl rfl rfl) ?_
  obtain ⟨x3, x3h, h⟩ := of_bind h
  refine W1 (does_callO [(100900, 100950), (100901, 100951)] false hP (p_nvm_Mem_Words F a0.xm x3 x3h) rfl ⟨rfl, rfl, trivial⟩ rfl rfl rfl rfl rfl (fun h => by first | rfl | cases h) rfl) ?_
  (try dsimp)
  apply WM
  apply W_nil
  refine E_keep [0, 2, 5] [2, 904, 100900, 100903, 100950, 100951] ?_
  (try dsimp)
  obtain ⟨k5, k5d, h⟩ := of_jn h
  refine E_seqJ (α := (List Int)) (fun (i : (List Int)) => (⟨[(2, S.one (.ptr 2 0)), (5, S.one (.sl (flat e_i_u64 i) i.length))], [(2, (⟨true, [.v (.int .i64 (0 : Int)), .v (.int .i64 (0 : Int)), .v (.int .i64 (0 : Int)), .nil, .nil]⟩ : Reg)), (904, (⟨true, flat e_i_i64 a0.xorder⟩ : Reg)), (100900, (⟨false, [.ptr 100950 0, .v (.int .i64 a0.xgeo.xThreads), .v (.int .i64 a0.xgeo.xSlots), .v (.int .i64 a0.xgeo.xThings), .own 100903 0 a0.xw.length (some (12, 291)), .own 904 0 a0.xorder.length (some (1, 3)), .v (.bool a0.xdead)]⟩ : Reg)), (100903, (⟨true, flat e_S_gear_work a0.xw⟩ : Reg)), (100950, (⟨false, [.own 100951 0 a0.xm.xl.length (some (18, 86)), .v (.bool a0.xm.xoff), .v (.int .i64 a0.xm.xcount), .v (.int .i64 a0.xm.xfuse), .sl (flat e_i_i64 a0.xm.xkeep) a0.xm.xkeep.length]⟩ : Reg)), (100951, (⟨true, flat e_S_row_Row a0.xm.xl⟩ : Reg))]⟩ : St)) (fun i => k5 i = some r) (fun i h => ?_) ?_
  ·let iv := i; change k5 i = some r at h; generalize i = v4 at h ⊢
   rw [k5d] at h; dsimp only at h
   (try dsimp)
   apply E_seq
   apply E_ops
   apply WM
   obtain ⟨x6, x6h, h⟩ := of_bind h
   refine W1 (does_call1 hP (p_image_Get F v4 x6 x6h) rfl rfl rfl) ?_
   refine WQ (does_ext rfl rfl) ?_
   refine WQ (does_ext rfl rfl) ?_
   refine W1 (does_store rfl rfl rfl rfl rfl (Nat.le_of_ble_eq_true rfl) rfl (by decide)) ?_
   apply WM
   apply W_nil
   refine E_keep [2, 3] [2, 904, 100900, 100903, 100950, 100951] ?_
   (try dsimp)
   apply E_ret
   cases h
   (try simp only [qt, qb, qn])
   refine fin_mk (xs := _) ⟨_, _, at_whole rfl (by simp), rfl, rfl, ⟨_, rfl, rfl⟩⟩ ?_
   show _ ∧ _
   exact ⟨rfl, ⟨(by first | rfl | simp [setn_length, cpy_length, sortI_length]), ⟨(by first | rfl | simp [setn_length, cpy_length, sortI_length]), ⟨(by first | rfl | simp [setn_length, cpy_length, sortI_length]), ⟨(by first | rfl | simp [setn_length, cpy_length, sortI_length]), ⟨(by first | rfl | simp [setn_length, cpy_length, sortI_length]), trivial⟩⟩⟩⟩⟩⟩
  ·
   skip
   apply E_seq
   apply E_ops
   apply WM
   refine WQ (does_nilchk_ptr rfl rfl) ?_
   refine WQ (does_add_ptr rfl rfl) ?_
   refine WQ (does_load1_ptr rfl rfl rfl) ?_
   refine WQ (does_len_own rfl rfl) ?_
   apply WM
   apply W_nil
   refine E_keep [0, 2, 5, 24, 25] [2, 904, 100900, 100903, 100950, 100951] ?_
   (try dsimp)
   apply E_block
   (try dsimp)
   refine E_loopB (α := (List Int) × Int) (fun (i : (List Int) × Int) => (⟨[(0, S.one (.ptr 100900 0)), (2, S.one (.ptr 2 0)), (5, S.one (.sl (flat e_i_u64 i.1) i.1.length)), (24, S.one (.v (.int .i64 ((a0.xw.length : Nat) : Int)))), (25, S.one (.v (.int .i64 i.2)))], [(2, (⟨true, [.v (.int .i64 (0 : Int)), .v (.int .i64 (0 : Int)), .v (.int .i64 (0 : Int)), .nil, .nil]⟩ : Reg)), (904, (⟨true, flat e_i_i64 a0.xorder⟩ : Reg)), (100900, (⟨false, [.ptr 100950 0, .v (.int .i64 a0.xgeo.xThreads), .v (.int .i64 a0.xgeo.xSlots), .v (.int .i64 a0.xgeo.xThings), .own 100903 0 a0.xw.length (some (12, 291)), .own 904 0 a0.xorder.length (some (1, 3)), .v (.bool a0.xdead)]⟩ : Reg)), (100903, (⟨true, flat e_S_gear_work a0.xw⟩ : Reg)), (100950, (⟨false, [.own 100951 0 a0.xm.xl.length (some (18, 86)), .v (.bool a0.xm.xoff), .v (.int .i64 a0.xm.xcount), .v (.int .i64 a0.xm.xfuse), .sl (flat e_i_i64 a0.xm.xkeep) a0.xm.xkeep.length]⟩ : Reg)), (100951, (⟨true, flat e_S_row_Row a0.xm.xl⟩ : Reg))]⟩ : St)) (fun n i => m_gear_Gear_State_l0 F a0 k5 n i.1 i.2 = some r) F (x3, (0 : Int)) h ?_ (fun n i h => ?_)
   ·
    exact (Le.b (le_mk ⟨rfl, rfl, rfl, rfl, rfl, trivial⟩ ⟨rfl, rfl, rfl, rfl, rfl, rfl, trivial⟩))
   obtain ⟨v23, v24⟩ := i; dsimp only at h
   cases n with
   | zero => cases h
   | succ n25 =>
    unfold m_gear_Gear_State_l0 at h
    (try dsimp)
    apply E_seq
    apply E_ops
    refine WQ (does_int rfl rfl rfl) ?_
    apply W_nil
    (try dsimp)
    apply E_seq
    refine E_cond rfl (fun hc26 => ?_) (fun hc26 => ?_)
    ·replace h := of_ct h hc26
     apply E_skip
     refine E_keep [0, 2, 5, 24, 25] [2, 904, 100900, 100903, 100950, 100951] ?_
     (try dsimp)
     obtain ⟨k28, k28d, h⟩ := of_jn h
     refine E_seqJ (α := (List Int)) (fun (i : (List Int)) => (⟨[(0, S.one (.ptr 100900 0)), (2, S.one (.ptr 2 0)), (5, S.one (.sl (flat e_i_u64 i) i.length)), (24, S.one (.v (.int .i64 ((a0.xw.length : Nat) : Int)))), (25, S.one (.v (.int .i64 v24)))], [(2, (⟨true, [.v (.int .i64 (0 : Int)), .v (.int .i64 (0 : Int)), .v (.int .i64 (0 : Int)), .nil, .nil]⟩ : Reg)), (904, (⟨true, flat e_i_i64 a0.xorder⟩ : Reg)), (100900, (⟨false, [.ptr 100950 0, .v (.int .i64 a0.xgeo.xThreads), .v (.int .i64 a0.xgeo.xSlots), .v (.int .i64 a0.xgeo.xThings), .own 100903 0 a0.xw.length (some (12, 291)), .own 904 0 a0.xorder.length (some (1, 3)), .v (.bool a0.xdead)]⟩ : Reg)), (100903, (⟨true, flat e_S_gear_work a0.xw⟩ : Reg)), (100950, (⟨false, [.own 100951 0 a0.xm.xl.length (some (18, 86)), .v (.bool a0.xm.xoff), .v (.int .i64 a0.xm.xcount), .v (.int .i64 a0.xm.xfuse), .sl (flat e_i_i64 a0.xm.xkeep) a0.xm.xkeep.length]⟩ : Reg)), (100951, (⟨true, flat e_S_row_Row a0.xm.xl⟩ : Reg))]⟩ : St)) (fun i => k28 i = some r) (fun i h => ?_) ?_
     ·let iv := i; change k28 i = some r at h; generalize i = v27 at h ⊢
      rw [k28d] at h; dsimp only at h
      (try dsimp)
      apply E_ops
      obtain ⟨g29, h⟩ := of_gd h
      refine WQ (does_add rfl rfl g29.1 g29.2) ?_
      apply WM
      apply W_nil
      refine ⟨n25, (v27, (v24 + (1 : Int))), Nat.lt_succ_self _, h, ?_⟩
      exact (Le.b (le_mk ⟨rfl, rfl, rfl, rfl, rfl, trivial⟩ ⟨rfl, rfl, rfl, rfl, rfl, rfl, trivial⟩))
     ·
      skip
      apply E_block
      apply E_seq
      apply E_ops
      apply WM
      apply WM
      apply W_nil
      refine E_keep [0, 2, 5, 6, 24, 25] [2, 904, 100900, 100903, 100950, 100951] ?_
      (try dsimp)
      apply E_seq
      apply E_ops
      apply WM
      apply WM
      apply WM
      obtain ⟨x30, x30h, h⟩ := of_bind h
      refine W1 (does_callO [] false hP (p_gear_Gear_desc F a0 v23 v24 x30 x30h) rfl ⟨rfl, rfl, rfl, rfl, rfl, trivial⟩ rfl rfl rfl rfl rfl (fun h => by first | rfl | cases h) rfl) ?_
      (try dsimp)
      apply WM
      refine WQ (does_ext rfl rfl) ?_
      refine WQ (does_ext rfl rfl) ?_
      refine W1 (does_newv rfl rfl) ?_
      refine W1 (does_store rfl rfl rfl rfl rfl (Nat.le_of_ble_eq_true rfl) rfl (by decide)) ?_
      apply WM
      apply W_nil
      refine E_keep [0, 2, 5, 7, 8, 24, 25] [2, 7, 904, 100900, 100903, 100950, 100951] ?_
      (try dsimp)
      apply E_seq
      apply E_ops
      apply WM
      apply WM
      apply W_lazy
      ·rfl
      ·intro hB; (try simp only [hB, bss, ctt]); exact does_add_ptr rfl rfl
      apply W_lazy
      ·rfl
      ·intro hB; (try simp only [hB, bss, ctt]); exact does_load1_ptr rfl rfl rfl
      apply W_lazy
      ·rfl
      ·intro hB; (try simp only [hB, bss, ctt]); exact does_int rfl rfl rfl
      refine WQ (does_and rfl rfl rfl) ?_
      apply W_nil
      refine E_keep [0, 2, 5, 7, 24, 25, 40] [2, 7, 904, 100900, 100903, 100950, 100951] ?_
      (try dsimp)
      refine E_cond rfl (fun hc31 => ?_) (fun hc31 => ?_)
      ·replace h := of_ct h hc31
       apply E_ops
       apply WM
       refine WQ (does_add_ptr rfl rfl) ?_
       refine WQ (does_load1_ptr rfl rfl rfl) ?_
       obtain ⟨x32, x32h, h⟩ := of_bind h
       refine W1 (does_call1 hP (p_wset_Do F v23 x30.1.xW x32 x32h) rfl rfl rfl) ?_
       apply WM
       apply W_nil
       refine ⟨x32, h, ?_⟩
       exact (Le.b (le_mk ⟨rfl, rfl, rfl, rfl, rfl, trivial⟩ ⟨rfl, rfl, rfl, rfl, rfl, rfl, trivial⟩))
      ·replace h := of_cf h hc31
       apply E_skip
       refine ⟨v23, h, ?_⟩
       exact (Le.b (le_mk ⟨rfl, rfl, rfl, rfl, rfl, trivial⟩ ⟨rfl, rfl, rfl, rfl, rfl, rfl, trivial⟩))
    ·replace h := of_cf h hc26
     apply E_exit
     refine ⟨v23, h, ?_⟩
     exact (Le.b (le_mk ⟨rfl, rfl, trivial⟩ ⟨rfl, rfl, rfl, rfl, rfl, rfl, trivial⟩))
/- slices.Equal[[]reeve/state.Slot,reeve/state.Slot] -/
def c_slices_Equal_state_Slot : VCode := (.seq (.ops [(o (.mv (cb false)) 4)]) (.seq (.seq (.ops [(w 6 0), (o (.len false (t 6)) 7), (w 8 1), (o (.len false (t 8)) 9), (o (.bin .neq 3 (t 7) (t 9)) 10)]) (.cond (t 10) (.seq (.ops [(o (.mv (cb false)) 4)]) .ret) .skip)) (.seq (.seq (.ops [(w 11 0), (o (.len false (t 11)) 12), (o (.mv (ci 0)) 13)]) (.block 0 (.loop (.seq (.ops [(o (.bin .lss 3 (t 13) (t 12)) 14)]) (.seq (.cond (t 14) .skip (.exit 0)) (.seq (.block 1 (.seq (.ops [(w 15 13), (w 5 15)]) (.seq (.draw [((w 16 0), []), ((w 17 5), []), ((o (.idxS 5 (t 16) (t 17)) 18), [0, 1]), ((o (.load true 5 (t 18)) 19), [2]), ((w 20 1), []), ((w 21 5), []), ((o (.idxS 5 (t 20) (t 21)) 22), [4, 5]), ((o (.load true 5 (t 22)) 23), [6]), ((o (.eqA true 111 (t 19) (t 23)) 24), [3, 7])]) (.cond (t 24) (.seq (.ops [(o (.mv (cb false)) 4)]) .ret) .skip)))) (.ops [(o (.bin .add 3 (t 13) (ci 1)) 25), (w 13 25)]))))))) (.seq (.ops [(o (.mv (cb true)) 4)]) .ret))))
theorem f_slices_Equal_state_Slot : Fits Tryz.prog 41 2 c_slices_Equal_state_Slot [(.tmp 4)] := fits_mk Tryz.func41 (by kernel_rfl) (by kernel_rfl) (by kernel_rfl)
theorem p_slices_Equal_state_Slot (F : Nat) (a0 : (List S_state_Slot)) (a1 : (List S_state_Slot)) (r : Bool) (h : m_slices_Equal_state_Slot F a0 a1 = some r) : PC Tryz.prog 41 [S.one (.sl (flat e_S_state_Slot a0) a0.length), S.one (.sl (flat e_S_state_Slot a1) a1.length)] (S.one (.v (.bool r))) := by
 unfold m_slices_Equal_state_Slot at h
 refine PC_go f_slices_Equal_state_Slot rfl rfl ?_
 intro C hP
 unfold c_slices_Equal_state_Slot; dsimp
 apply E_seq
 apply E_ops
 apply WM
 apply W_nil
 refine E_keep [0, 1] [] ?_
 (try dsimp)
 apply E_seq
 apply E_seq
 apply E_ops
 apply WM
 refine WQ (does_len_sl rfl) ?_
 apply WM
 refine WQ (does_len_sl rfl) ?_
 refine WQ (does_int rfl rfl rfl) ?_
 apply W_nil
 refine E_keep [0, 1, 10] [] ?_
 (try dsimp)
 refine E_cond rfl (fun hc1 => ?_) (fun hc1 => ?_)
 ·replace h := of_ct h hc1
  apply E_seq
  apply E_ops
  apply WM
  apply W_nil
  refine E_keep [4] [] ?_
  (try dsimp)
  apply E_ret
  cases h
  (try simp only [qt, qb, qn])
  refine fin_mk (xs := _) ⟨_, rfl, rfl⟩ ?_
  rfl
 ·replace h := of_cf h hc1
  apply E_skip
  refine E_keep [0, 1] [] ?_
  (try dsimp)
  obtain ⟨k2, k2d, h⟩ := of_jn h
  refine E_seqJ (α := Unit) (fun (i : Unit) => (⟨[], []⟩ : St)) (fun i => k2 () = some r) (fun i h => ?_) ?_
  ·skip
   rw [k2d] at h; dsimp only at h
   (try dsimp)
   apply E_seq
   apply E_ops
   apply WM
   apply W_nil
   (try dsimp)
   apply E_ret
   cases h
   (try simp only [qt, qb, qn])
   refine fin_mk (xs := _) ⟨_, rfl, rfl⟩ ?_
   rfl
  ·
   skip
   apply E_seq
   apply E_ops
   apply WM
   refine WQ (does_len_sl rfl) ?_
   apply WM
   apply W_nil
   refine E_keep [0, 1, 12, 13] [] ?_
   (try dsimp)
   apply E_block
   (try dsimp)
   refine E_loopB (α := Int) (fun (i : Int) => (⟨[(0, S.one (.sl (flat e_S_state_Slot a0) a0.length)), (1, S.one (.sl (flat e_S_state_Slot a1) a1.length)), (12, S.one (.v (.int .i64 ((a0.length : Nat) : Int)))), (13, S.one (.v (.int .i64 i)))], []⟩ : St)) (fun n i => m_slices_Equal_state_Slot_l0 F a0 a1 k2 n i = some r) F (0 : Int) h ?_ (fun n i h => ?_)
   ·
    exact (Le.b (le_mk ⟨rfl, rfl, rfl, rfl, trivial⟩ trivial))
   generalize i = v14 at h ⊢
   cases n with
   | zero => cases h
   | succ n15 =>
    unfold m_slices_Equal_state_Slot_l0 at h
    (try dsimp)
    apply E_seq
    apply E_ops
    refine WQ (does_int rfl rfl rfl) ?_
    apply W_nil
    (try dsimp)
    apply E_seq
    refine E_cond rfl (fun hc16 => ?_) (fun hc16 => ?_)
    ·replace h := of_ct h hc16
     apply E_skip
     refine E_keep [0, 1, 12, 13] [] ?_
     (try dsimp)
     apply E_seq
     apply E_block
     apply E_seq
     apply E_ops
     apply WM
     apply WM
     apply W_nil
     refine E_keep [0, 1, 5, 12, 13] [] ?_
     (try dsimp)
     apply E_seq
     obtain ⟨g17, h⟩ := of_gd h
     obtain ⟨g18, h⟩ := of_gd h
     refine E_draw [0, 1, 2, 3, 4, 5, 6, 7, 8] ?_
     refine XQ 0 rfl rfl rfl (does_mv rfl) ?_
     refine XQ 1 rfl rfl rfl (does_mv rfl) ?_
     refine XQ 2 rfl rfl rfl (does_idx_sl rfl rfl g17.1 g17.2) ?_
     refine XQ 3 rfl rfl rfl (does_loadA_slF (k := 5) rfl (fun _ => rfl) g17 0 rfl rfl rfl) ?_
     refine XQ 4 rfl rfl rfl (does_mv rfl) ?_
     refine XQ 5 rfl rfl rfl (does_mv rfl) ?_
     refine XQ 6 rfl rfl rfl (does_idx_sl rfl rfl g18.1 g18.2) ?_
     refine XQ 7 rfl rfl rfl (does_loadA_slF (k := 5) rfl (fun _ => rfl) g18 0 rfl rfl rfl) ?_
     refine XQ 8 rfl rfl rfl (does_eqA hP eqok111 rfl rfl rfl rfl ⟨rfl, ⟨rfl, ⟨rfl, ⟨rfl, ⟨rfl, trivial⟩⟩⟩⟩⟩) ?_
     refine X_nil rfl ?_
     refine E_keep [0, 1, 12, 13, 24] [] ?_
     (try dsimp)
     refine E_cond rfl (fun hc19 => ?_) (fun hc19 => ?_)
     ·replace h := of_ct h hc19
      apply E_seq
      apply E_ops
      apply WM
      apply W_nil
      refine E_keep [4] [] ?_
      (try dsimp)
      apply E_ret
      cases h
      (try simp only [qt, qb, qn])
      refine fin_mk (xs := _) ⟨_, rfl, rfl⟩ ?_
      rfl
     ·replace h := of_cf h hc19
      apply E_skip
      refine E_keep [0, 1, 12, 13] [] ?_
      (try dsimp)
      apply E_ops
      obtain ⟨g20, h⟩ := of_gd h
      refine WQ (does_add rfl rfl g20.1 g20.2) ?_
      apply WM
      apply W_nil
      refine ⟨n15, (v14 + (1 : Int)), Nat.lt_succ_self _, h, ?_⟩
      exact (Le.b (le_mk ⟨rfl, rfl, rfl, rfl, trivial⟩ trivial))
    ·replace h := of_cf h hc16
     apply E_exit
     refine ⟨(), h, ?_⟩
     exact (Le.b (le_mk trivial trivial))
/- slices.Equal[[]reeve/thing.Thing,reeve/thing.Thing] -/
def c_slices_Equal_thing_Thing : VCode := (.seq (.ops [(o (.mv (cb false)) 4)]) (.seq (.seq (.ops [(w 6 0), (o (.len false (t 6)) 7), (w 8 1), (o (.len false (t 8)) 9), (o (.bin .neq 3 (t 7) (t 9)) 10)]) (.cond (t 10) (.seq (.ops [(o (.mv (cb false)) 4)]) .ret) .skip)) (.seq (.seq (.ops [(w 11 0), (o (.len false (t 11)) 12), (o (.mv (ci 0)) 13)]) (.block 0 (.loop (.seq (.ops [(o (.bin .lss 3 (t 13) (t 12)) 14)]) (.seq (.cond (t 14) .skip (.exit 0)) (.seq (.block 1 (.seq (.ops [(w 15 13), (w 5 15)]) (.seq (.draw [((w 16 0), []), ((w 17 5), []), ((o (.idxS 13 (t 16) (t 17)) 18), [0, 1]), ((o (.load true 13 (t 18)) 19), [2]), ((w 20 1), []), ((w 21 5), []), ((o (.idxS 13 (t 20) (t 21)) 22), [4, 5]), ((o (.load true 13 (t 22)) 23), [6]), ((o (.eqA true 104 (t 19) (t 23)) 24), [3, 7])]) (.cond (t 24) (.seq (.ops [(o (.mv (cb false)) 4)]) .ret) .skip)))) (.ops [(o (.bin .add 3 (t 13) (ci 1)) 25), (w 13 25)]))))))) (.seq (.ops [(o (.mv (cb true)) 4)]) .ret))))
theorem f_slices_Equal_thing_Thing : Fits Tryz.prog 42 2 c_slices_Equal_thing_Thing [(.tmp 4)] := fits_mk Tryz.func42 (by kernel_rfl) (by kernel_rfl) (by kernel_rfl)
theorem p_slices_Equal_thing_Thing (F : Nat) (a0 : (List S_thing_Thing)) (a1 : (List S_thing_Thing)) (r : Bool) (h : m_slices_Equal_thing_Thing F a0 a1 = some r) : PC Tryz.prog 42 [S.one (.sl (flat e_S_thing_Thing a0) a0.length), S.one (.sl (flat e_S_thing_Thing a1) a1.length)] (S.one (.v (.bool r))) := by
 unfold m_slices_Equal_thing_Thing at h
 refine PC_go f_slices_Equal_thing_Thing rfl rfl ?_
 intro C hP
 unfold c_slices_Equal_thing_Thing; dsimp
 apply E_seq
 apply E_ops
 apply WM
 apply W_nil
 refine E_keep [0, 1] [] ?_
 (try dsimp)
 apply E_seq
 apply E_seq
 apply E_ops
 apply WM
 refine WQ (does_len_sl rfl) ?_
 apply WM
 refine WQ (does_len_sl rfl) ?_
 refine WQ (does_int rfl rfl rfl) ?_
 apply W_nil
 refine E_keep [0, 1, 10] [] ?_
 (try dsimp)
 refine E_cond rfl (fun hc1 => ?_) (fun hc1 => ?_)
 ·replace h := of_ct h hc1
  apply E_seq
  apply E_ops
  apply WM
  apply W_nil
  refine E_keep [4] [] ?_
  (try dsimp)
  apply E_ret
  cases h
  (try simp only [qt, qb, qn])
  refine fin_mk (xs := _) ⟨_, rfl, rfl⟩ ?_
  rfl
 ·replace h := of_cf h hc1
  apply E_skip
  refine E_keep [0, 1] [] ?_
  (try dsimp)
  obtain ⟨k2, k2d, h⟩ := of_jn h
  refine E_seqJ (α := Unit) (fun (i : Unit) => (⟨[], []⟩ : St)) (fun i => k2 () = some r) (fun i h => ?_) ?_
  ·skip
   rw [k2d] at h; dsimp only at h
   (try dsimp)
   apply E_seq
   apply E_ops
   apply WM
   apply W_nil
   (try dsimp)
   apply E_ret
   cases h
   (try simp only [qt, qb, qn])
   refine fin_mk (xs := _) ⟨_, rfl, rfl⟩ ?_
   rfl
  ·
   skip
   apply E_seq
   apply E_ops
   apply WM
   refine WQ (does_len_sl rfl) ?_
   apply WM
   apply W_nil
   refine E_keep [0, 1, 12, 13] [] ?_
   (try dsimp)
   apply E_block
   (try dsimp)
   refine E_loopB (α := Int) (fun (i : Int) => (⟨[(0, S.one (.sl (flat e_S_thing_Thing a0) a0.length)), (1, S.one (.sl (flat e_S_thing_Thing a1) a1.length)), (12, S.one (.v (.int .i64 ((a0.length : Nat) : Int)))), (13, S.one (.v (.int .i64 i)))], []⟩ : St)) (fun n i => m_slices_Equal_thing_Thing_l0 F a0 a1 k2 n i = some r) F (0 : Int) h ?_ (fun n i h => ?_)
   ·
    exact (Le.b (le_mk ⟨rfl, rfl, rfl, rfl, trivial⟩ trivial))
   generalize i = v14 at h ⊢
   cases n with
   | zero => cases h
   | succ n15 =>
    unfold m_slices_Equal_thing_Thing_l0 at h
    (try dsimp)
    apply E_seq
    apply E_ops
    refine WQ (does_int rfl rfl rfl) ?_
    apply W_nil
    (try dsimp)
    apply E_seq
    refine E_cond rfl (fun hc16 => ?_) (fun hc16 => ?_)
    ·replace h := of_ct h hc16
     apply E_skip
     refine E_keep [0, 1, 12, 13] [] ?_
     (try dsimp)
     apply E_seq
     apply E_block
     apply E_seq
     apply E_ops
     apply WM
     apply WM
     apply W_nil
     refine E_keep [0, 1, 5, 12, 13] [] ?_
     (try dsimp)
     apply E_seq
     obtain ⟨g17, h⟩ := of_gd h
     obtain ⟨g18, h⟩ := of_gd h
     refine E_draw [0, 1, 2, 3, 4, 5, 6, 7, 8] ?_
     refine XQ 0 rfl rfl rfl (does_mv rfl) ?_
     refine XQ 1 rfl rfl rfl (does_mv rfl) ?_
     refine XQ 2 rfl rfl rfl (does_idx_sl rfl rfl g17.1 g17.2) ?_
     refine XQ 3 rfl rfl rfl (does_loadA_slF (k := 13) rfl (fun _ => rfl) g17 0 rfl rfl rfl) ?_
     refine XQ 4 rfl rfl rfl (does_mv rfl) ?_
     refine XQ 5 rfl rfl rfl (does_mv rfl) ?_
     refine XQ 6 rfl rfl rfl (does_idx_sl rfl rfl g18.1 g18.2) ?_
     refine XQ 7 rfl rfl rfl (does_loadA_slF (k := 13) rfl (fun _ => rfl) g18 0 rfl rfl rfl) ?_
     refine XQ 8 rfl rfl rfl (does_eqA hP eqok104 rfl rfl rfl rfl ⟨rfl, ⟨rfl, ⟨rfl, ⟨rfl, ⟨rfl, ⟨rfl, ⟨rfl, ⟨trivial, ⟨rfl, ⟨rfl, ⟨rfl, ⟨rfl, ⟨rfl, trivial⟩⟩⟩⟩⟩⟩⟩⟩⟩⟩⟩⟩⟩) ?_
     refine X_nil rfl ?_
     refine E_keep [0, 1, 12, 13, 24] [] ?_
     (try dsimp)
     refine E_cond rfl (fun hc19 => ?_) (fun hc19 => ?_)
     ·replace h := of_ct h hc19
      apply E_seq
      apply E_ops
      apply WM
      apply W_nil
      refine E_keep [4] [] ?_
      (try dsimp)
      apply E_ret
      cases h
      (try simp only [qt, qb, qn])
      refine fin_mk (xs := _) ⟨_, rfl, rfl⟩ ?_
      rfl
     ·replace h := of_cf h hc19
      apply E_skip
      refine E_keep [0, 1, 12, 13] [] ?_
      (try dsimp)
      apply E_ops
      obtain ⟨g20, h⟩ := of_gd h
      refine WQ (does_add rfl rfl g20.1 g20.2) ?_
      apply WM
      apply W_nil
      refine ⟨n15, (v14 + (1 : Int)), Nat.lt_succ_self _, h, ?_⟩
      exact (Le.b (le_mk ⟨rfl, rfl, rfl, rfl, trivial⟩ trivial))
    ·replace h := of_cf h hc16
     apply E_exit
     refine ⟨(), h, ?_⟩
     exact (Le.b (le_mk trivial trivial))
/- reeve/state.Same -/
def c_state_Same : VCode := (.seq (.ops [(o (.box 27 (t 0)) 2), (o (.box 27 (t 1)) 3), (o (.mv (cb false)) 4)]) (.seq (.ops [(o (.add 0 (t 2)) 5), (o (.load true 3 (t 5)) 6), (o (.add 0 (t 3)) 7), (o (.load true 3 (t 7)) 8), (o (.eqA false 23 (t 6) (t 8)) 9), (w 10 9), (g_ (.add 3 (t 2)) 11 10 true), (g_ (.load false 1 (t 11)) 12 10 true), (g_ (.add 3 (t 3)) 13 10 true), (g_ (.load false 1 (t 13)) 14 10 true), (g_ (.call 41 [(t 12), (t 14)]) 15 10 true), (o (.pick (t 10) (t 15) (cb false)) 16), (w 17 16), (g_ (.add 4 (t 2)) 18 17 true), (g_ (.load false 1 (t 18)) 19 17 true), (g_ (.add 4 (t 3)) 20 17 true), (g_ (.load false 1 (t 20)) 21 17 true), (g_ (.call 42 [(t 19), (t 21)]) 22 17 true), (o (.pick (t 17) (t 22) (cb false)) 23), (w 4 23)]) .ret))
theorem f_state_Same : Fits Tryz.prog 16 2 c_state_Same [(.tmp 4)] := fits_mk Tryz.func16 (by kernel_rfl) (by kernel_rfl) (by kernel_rfl)
theorem p_state_Same (F : Nat) (a0 : S_state_State) (a1 : S_state_State) (r : Bool) (h : m_state_Same F a0 a1 = some r) : PC Tryz.prog 16 [S.agg [.v (.int .i64 a0.xGeo.xThreads), .v (.int .i64 a0.xGeo.xSlots), .v (.int .i64 a0.xGeo.xThings), .sl (flat e_S_state_Slot a0.xSlots) a0.xSlots.length, .sl (flat e_S_thing_Thing a0.xThings) a0.xThings.length], S.agg [.v (.int .i64 a1.xGeo.xThreads), .v (.int .i64 a1.xGeo.xSlots), .v (.int .i64 a1.xGeo.xThings), .sl (flat e_S_state_Slot a1.xSlots) a1.xSlots.length, .sl (flat e_S_thing_Thing a1.xThings) a1.xThings.length]] (S.one (.v (.bool r))) := by
 unfold m_state_Same at h
 refine PC_go f_state_Same rfl rfl ?_
 intro C hP
 unfold c_state_Same; dsimp
 apply E_seq
 apply E_ops
 refine W1 (does_box rfl rfl rfl rfl) ?_
 refine W1 (does_box rfl rfl rfl rfl) ?_
 apply WM
 apply W_nil
 refine E_keep [2, 3] [2, 3] ?_
 (try dsimp)
 apply E_seq
 apply E_ops
 refine WQ (does_add_ptr rfl rfl) ?_
 refine WQ (does_loadA_ptr rfl rfl rfl rfl (by decide)) ?_
 refine WQ (does_add_ptr rfl rfl) ?_
 refine WQ (does_loadA_ptr rfl rfl rfl rfl (by decide)) ?_
 refine WQ (does_eqA hP eqok23 rfl rfl rfl rfl ⟨rfl, ⟨rfl, ⟨rfl, trivial⟩⟩⟩) ?_
 apply WM
 apply W_lazy
 ·rfl
 ·intro hB; (try simp only [hB, bss, ctt]); exact does_add_ptr rfl rfl
 apply W_lazy
 ·rfl
 ·intro hB; (try simp only [hB, bss, ctt]); exact does_load1_ptr rfl rfl rfl
 apply W_lazy
 ·rfl
 ·intro hB; (try simp only [hB, bss, ctt]); exact does_add_ptr rfl rfl
 apply W_lazy
 ·rfl
 ·intro hB; (try simp only [hB, bss, ctt]); exact does_load1_ptr rfl rfl rfl
 obtain ⟨x1, x1h, h⟩ := of_bind h
 apply W_lazyD
 ·rfl
 ·intro hB; (try simp only [hB, bss, ctt]); exact does_call1 hP (p_slices_Equal_state_Slot F a0.xSlots a1.xSlots x1 (of_lz x1h (bt hB))) rfl rfl rfl
 refine WQ (does_and rfl rfl rfl) ?_
 apply WM
 apply W_lazy
 ·rfl
 ·intro hB; (try simp only [hB, bss, ctt]); exact does_add_ptr rfl rfl
 apply W_lazy
 ·rfl
 ·intro hB; (try simp only [hB, bss, ctt]); exact does_load1_ptr rfl rfl rfl
 apply W_lazy
 ·rfl
 ·intro hB; (try simp only [hB, bss, ctt]); exact does_add_ptr rfl rfl
 apply W_lazy
 ·rfl
 ·intro hB; (try simp only [hB, bss, ctt]); exact does_load1_ptr rfl rfl rfl
 obtain ⟨x2, x2h, h⟩ := of_bind h
 apply W_lazyD
 ·rfl
 ·intro hB; (try simp only [hB, bss, ctt]); exact does_call1 hP (p_slices_Equal_thing_Thing F a0.xThings a1.xThings x2 (of_lz x2h (bt hB))) rfl rfl rfl
 refine WQ (does_and rfl rfl rfl) ?_
 apply WM
 apply W_nil
 refine E_keep [4] [] ?_
 (try dsimp)
 apply E_ret
 cases h
 (try simp only [qt, qb, qn])
 refine fin_mk (xs := _) ⟨_, rfl, rfl⟩ ?_
 rfl
/- reeve/boot.Sound -/
def c_boot_Sound : VCode := (.seq (.ops [(o (.mv (cb false)) 2)]) (.seq (.ops [(w 6 0), (o (.call 33 [(t 6)]) 7), (w 5 7), (o (.ext 0 (t 5)) 8), (o (.ext 1 (t 5)) 9), (o (.newv [zi, zi, zi, .nil, .nil, .nil, zu, zb]) 3), (n_ (.store 8 (t 3) (t 8))), (w 4 9)]) (.seq (.ops [(w 10 4), (w 2 10)]) .ret)))
theorem f_boot_Sound : Fits Tryz.prog 18 1 c_boot_Sound [(.tmp 2)] := fits_mk Tryz.func18 (by kernel_rfl) (by kernel_rfl) (by kernel_rfl)
theorem p_boot_Sound (F : Nat) (a0 : (List Int)) (r : Bool) (h : m_boot_Sound F a0 = some r) : PC Tryz.prog 18 [S.one (.sl (flat e_i_u64 a0) a0.length)] (S.one (.v (.bool r))) := by
 unfold m_boot_Sound at h
 refine PC_go f_boot_Sound rfl rfl ?_
 intro C hP
 unfold c_boot_Sound; dsimp
 apply E_seq
 apply E_ops
 apply WM
 apply W_nil
 refine E_keep [0] [] ?_
 (try dsimp)
 apply E_seq
 apply E_ops
 apply WM
 obtain ⟨x1, x1h, h⟩ := of_bind h
 refine W1 (does_call1 hP (p_boot_read F a0 x1 x1h) rfl rfl rfl) ?_
 apply WM
 refine WQ (does_ext rfl rfl) ?_
 refine WQ (does_ext rfl rfl) ?_
 refine W1 (does_newv rfl rfl) ?_
 refine W1 (does_store rfl rfl rfl rfl rfl (Nat.le_of_ble_eq_true rfl) rfl (by decide)) ?_
 apply WM
 apply W_nil
 refine E_keep [4] [] ?_
 (try dsimp)
 apply E_seq
 apply E_ops
 apply WM
 apply WM
 apply W_nil
 refine E_keep [2] [] ?_
 (try dsimp)
 apply E_ret
 cases h
 (try simp only [qt, qb, qn])
 refine fin_mk (xs := _) ⟨_, rfl, rfl⟩ ?_
 rfl
/- reeve/reevelaw26.awake -/
def c_reevelaw26_awake : VCode := (.seq (.ops [(o (.mv (cb false)) 0)]) (.seq (.ops [(o (.call 27 []) 11), (o (.call 12 [(t 11), (ci 64)]) 12), (w 10 12), (o (.ext 0 (t 10)) 13), (o (.ext 1 (t 10)) 14), (w 1 13), (w 2 14)]) (.seq (.seq (.ops [(w 15 2), (o (.bin .neq 33 (t 15) (ci 0)) 16), (w 17 16), (g_ (.mv (t 1)) 18 17 false), (g_ (.eqP false (t 18) cp) 19 17 false), (o (.pick (t 17) (cb true) (t 19)) 20)]) (.cond (t 20) (.seq (.ops [(o (.mv (cb false)) 0)]) .ret) .skip)) (.seq (.ops [(w 22 1), (o (.call 10 [(t 22)]) 23), (w 21 23), (o (.ext 0 (t 21)) 24), (o (.ext 1 (t 21)) 25), (w 3 24), (w 4 25)]) (.seq (.seq (.ops [(w 26 4), (o (.bin .neq 33 (t 26) (ci 0)) 27), (w 28 27), (g_ (.mv (t 3)) 29 28 false), (g_ (.eqP false (t 29) cp) 30 28 false), (o (.pick (t 28) (cb true) (t 30)) 31)]) (.cond (t 31) (.seq (.ops [(o (.mv (cb false)) 0)]) .ret) .skip)) (.seq (.ops [(w 33 3), (o (.call 25 [(t 33)]) 34), (w 32 34), (o (.ext 0 (t 32)) 35), (o (.ext 1 (t 32)) 36), (o (.newv [zi, zi, zi, .nil, .nil]) 5), (n_ (.store 5 (t 5) (t 35))), (w 6 36)]) (.seq (.ops [(o (.call 27 []) 38), (o (.call 13 [(t 38), (ci 64)]) 39), (w 37 39), (o (.ext 0 (t 37)) 40), (o (.ext 1 (t 37)) 41), (o (.newv [zi, zi, zi, .nil, .nil]) 7), (n_ (.store 5 (t 7) (t 40))), (w 8 41)]) (.seq (.ops [(w 42 1), (o (.call 11 [(t 42)]) 43), (w 9 43)]) (.seq (.ops [(w 44 6), (o (.bin .eql 33 (t 44) (ci 0)) 45), (w 46 45), (g_ (.load true 5 (t 5)) 47 46 true), (g_ (.load true 5 (t 7)) 48 46 true), (g_ (.call 16 [(t 47), (t 48)]) 49 46 true), (o (.pick (t 46) (t 49) (cb false)) 50), (w 51 50), (g_ (.mv (t 9)) 52 51 true), (g_ (.len false (t 52)) 53 51 true), (g_ (.bin .gtr 3 (t 53) (ci 8)) 54 51 true), (o (.pick (t 51) (t 54) (cb false)) 55), (w 56 55), (g_ (.mv (t 9)) 57 56 true), (g_ (.idxS 1 (t 57) (ci 4)) 58 56 true), (g_ (.load false 1 (t 58)) 59 56 true), (g_ (.bin .eql 42 (t 59) (.const (.int .u64 1))) 60 56 true), (o (.pick (t 56) (t 60) (cb false)) 61), (w 62 61), (g_ (.mv (t 9)) 63 62 true), (g_ (.call 18 [(t 63)]) 64 62 true), (o (.pick (t 62) (t 64) (cb false)) 65), (w 0 65)]) .ret)))))))))
theorem f_reevelaw26_awake : Fits Tryz.prog 6 0 c_reevelaw26_awake [(.tmp 0)] := fits_mk Tryz.func6 (by kernel_rfl) (by kernel_rfl) (by kernel_rfl)
theorem p_reevelaw26_awake (F : Nat)  (r : Bool) (h : m_reevelaw26_awake F  = some r) : PC Tryz.prog 6 [] (S.one (.v (.bool r))) := by
 unfold m_reevelaw26_awake at h
 refine PC_go f_reevelaw26_awake rfl rfl ?_
 intro C hP
 unfold c_reevelaw26_awake; dsimp
 apply E_seq
 apply E_ops
 apply WM
 apply W_nil
 refine E_keep [] [] ?_
 (try dsimp)
 apply E_seq
 apply E_ops
 obtain ⟨x1, x1h, h⟩ := of_bind h
 refine W1 (does_call1 hP (p_geo_Plain F  x1 x1h) rfl rfl rfl) ?_
 obtain ⟨x2, x2h, h⟩ := of_bind h
 rcases of_optc h with ⟨o3e, h⟩ | ⟨o3, o3e, h⟩
 ·
  refine W1 (does_callO [] true hP (AC_none o3e (p_boot_Make F x1 (64 : Int) x2 x2h)) rfl trivial rfl rfl rfl rfl rfl (fun h => by first | rfl | cases h) rfl) ?_
  (try dsimp)
  apply WM
  refine WQ (does_ext rfl rfl) ?_
  refine WQ (does_ext rfl rfl) ?_
  apply WM
  apply WM
  apply W_nil
  refine E_keep [1, 2] [] ?_
  (try dsimp)
  apply E_seq
  apply E_seq
  apply E_ops
  apply WM
  refine WQ (does_int rfl rfl rfl) ?_
  apply WM
  apply W_lazy
  ·rfl
  ·intro hB; (try simp only [hB, bss, ctt]); exact does_mv rfl
  apply W_lazy
  ·rfl
  ·intro hB; (try simp only [hB, bss, ctt]); exact does_eqP_nil rfl rfl
  refine WQ (does_or rfl rfl rfl) ?_
  apply W_nil
  refine E_keep [1, 20] [] ?_
  (try dsimp)
  refine E_cond rfl (fun hc4 => ?_) (fun hc4 => ?_)
  ·replace h := of_ct h hc4
   apply E_seq
   apply E_ops
   apply WM
   apply W_nil
   refine E_keep [0] [] ?_
   (try dsimp)
   apply E_ret
   cases h
   (try simp only [qt, qb, qn])
   refine fin_mk (xs := _) ⟨_, rfl, rfl⟩ ?_
   rfl
  ·replace h := of_cf h hc4
   apply E_skip
   refine E_keep [1] [] ?_
   (try dsimp)
   apply E_seq
   apply E_ops
   apply WM
   cases h
 ·
  refine W1 (does_callO [(7190, 7120), (7191, 7121)] true hP (AC_some o3e (p_boot_Make F x1 (64 : Int) x2 x2h)) rfl trivial rfl rfl rfl rfl rfl (fun h => by first | rfl | cases h) rfl) ?_
  (try dsimp)
  apply WM
  refine WQ (does_ext rfl rfl) ?_
  refine WQ (does_ext rfl rfl) ?_
  apply WM
  apply WM
  apply W_nil
  refine E_keep [1, 2] [7120, 7121] ?_
  (try dsimp)
  apply E_seq
  apply E_seq
  apply E_ops
  apply WM
  refine WQ (does_int rfl rfl rfl) ?_
  apply WM
  apply W_lazy
  ·rfl
  ·intro hB; (try simp only [hB, bss, ctt]); exact does_mv rfl
  apply W_lazy
  ·rfl
  ·intro hB; (try simp only [hB, bss, ctt]); exact does_eqP_ptr rfl rfl rfl
  refine WQ (does_or rfl rfl rfl) ?_
  apply W_nil
  refine E_keep [1, 20] [7120, 7121] ?_
  (try dsimp)
  refine E_cond rfl (fun hc5 => ?_) (fun hc5 => ?_)
  ·replace h := of_ct h hc5
   apply E_seq
   apply E_ops
   apply WM
   apply W_nil
   refine E_keep [0] [] ?_
   (try dsimp)
   apply E_ret
   cases h
   (try simp only [qt, qb, qn])
   refine fin_mk (xs := _) ⟨_, rfl, rfl⟩ ?_
   rfl
  ·replace h := of_cf h hc5
   apply E_skip
   refine E_keep [1] [7120, 7121] ?_
   (try dsimp)
   apply E_seq
   apply E_ops
   apply WM
   obtain ⟨x6, x6h, h⟩ := of_bind h
   rcases of_optc h with ⟨o7e, h⟩ | ⟨o7, o7e, h⟩
   ·
    refine W1 (does_callO [(100900, 7121), (100901, 7120)] false hP (AC_none o7e (p_boot_Boot F o3 x6 x6h)) rfl ⟨rfl, rfl, trivial⟩ rfl rfl rfl rfl rfl (fun h => by first | rfl | cases h) rfl) ?_
    (try dsimp)
    apply WM
    refine WQ (does_ext rfl rfl) ?_
    refine WQ (does_ext rfl rfl) ?_
    apply WM
    apply WM
    apply W_nil
    refine E_keep [1, 3, 4] [7120, 7121] ?_
    (try dsimp)
    apply E_seq
    apply E_seq
    apply E_ops
    apply WM
    refine WQ (does_int rfl rfl rfl) ?_
    apply WM
    apply W_lazy
    ·rfl
    ·intro hB; (try simp only [hB, bss, ctt]); exact does_mv rfl
    apply W_lazy
    ·rfl
    ·intro hB; (try simp only [hB, bss, ctt]); exact does_eqP_nil rfl rfl
    refine WQ (does_or rfl rfl rfl) ?_
    apply W_nil
    refine E_keep [1, 3, 31] [7120, 7121] ?_
    (try dsimp)
    refine E_cond rfl (fun hc8 => ?_) (fun hc8 => ?_)
    ·replace h := of_ct h hc8
     apply E_seq
     apply E_ops
     apply WM
     apply W_nil
     refine E_keep [0] [] ?_
     (try dsimp)
     apply E_ret
     cases h
     (try simp only [qt, qb, qn])
     refine fin_mk (xs := _) ⟨_, rfl, rfl⟩ ?_
     rfl
    ·replace h := of_cf h hc8
     apply E_skip
     refine E_keep [1, 3] [7120, 7121] ?_
     (try dsimp)
     apply E_seq
     apply E_ops
     apply WM
     cases h
   ·
    refine W1 (does_callO [(100900, 7121), (100901, 7120), (7360, 7230), (7361, 7231), (7362, 7232)] false hP (AC_some o7e (p_boot_Boot F o3 x6 x6h)) rfl ⟨rfl, rfl, trivial⟩ rfl rfl rfl rfl rfl (fun h => by first | rfl | cases h) rfl) ?_
    (try dsimp)
    apply WM
    refine WQ (does_ext rfl rfl) ?_
    refine WQ (does_ext rfl rfl) ?_
    apply WM
    apply WM
    apply W_nil
    refine E_keep [1, 3, 4] [7120, 7121, 7230, 7231, 7232] ?_
    (try dsimp)
    apply E_seq
    apply E_seq
    apply E_ops
    apply WM
    refine WQ (does_int rfl rfl rfl) ?_
    apply WM
    apply W_lazy
    ·rfl
    ·intro hB; (try simp only [hB, bss, ctt]); exact does_mv rfl
    apply W_lazy
    ·rfl
    ·intro hB; (try simp only [hB, bss, ctt]); exact does_eqP_ptr rfl rfl rfl
    refine WQ (does_or rfl rfl rfl) ?_
    apply W_nil
    refine E_keep [1, 3, 31] [7120, 7121, 7230, 7231, 7232] ?_
    (try dsimp)
    refine E_cond rfl (fun hc9 => ?_) (fun hc9 => ?_)
    ·replace h := of_ct h hc9
     apply E_seq
     apply E_ops
     apply WM
     apply W_nil
     refine E_keep [0] [] ?_
     (try dsimp)
     apply E_ret
     cases h
     (try simp only [qt, qb, qn])
     refine fin_mk (xs := _) ⟨_, rfl, rfl⟩ ?_
     rfl
    ·replace h := of_cf h hc9
     apply E_skip
     refine E_keep [1, 3] [7120, 7121, 7230, 7231, 7232] ?_
     (try dsimp)
     apply E_seq
     apply E_ops
     apply WM
     obtain ⟨x10, x10h, h⟩ := of_bind h
     refine W1 (does_callO [(100900, 7231), (100950, 7121), (100951, 7120), (100903, 7230), (904, 7232)] false hP (p_gear_Gear_State F (⟨x6.1, o7.xgeo, o7.xw, o7.xorder, o7.xdead⟩ : S_gear_Gear) x10 x10h) rfl ⟨rfl, rfl, rfl, rfl, rfl, trivial⟩ rfl rfl rfl rfl rfl (fun h => by first | rfl | cases h) rfl) ?_
     (try dsimp)
     apply WM
     refine WQ (does_ext rfl rfl) ?_
     refine WQ (does_ext rfl rfl) ?_
     refine W1 (does_newv rfl rfl) ?_
     refine W1 (does_store rfl rfl rfl rfl rfl (Nat.le_of_ble_eq_true rfl) rfl (by decide)) ?_
     apply WM
     apply W_nil
     refine E_keep [1, 5, 6] [5, 7120, 7121] ?_
     (try dsimp)
     apply E_seq
     apply E_ops
     obtain ⟨x11, x11h, h⟩ := of_bind h
     refine W1 (does_call1 hP (p_geo_Plain F  x11 x11h) rfl rfl rfl) ?_
     obtain ⟨x12, x12h, h⟩ := of_bind h
     refine W1 (does_call1 hP (p_state_New F x11 (64 : Int) x12 x12h) rfl rfl rfl) ?_
     apply WM
     refine WQ (does_ext rfl rfl) ?_
     refine WQ (does_ext rfl rfl) ?_
     refine W1 (does_newv rfl rfl) ?_
     refine W1 (does_store rfl rfl rfl rfl rfl (Nat.le_of_ble_eq_true rfl) rfl (by decide)) ?_
     apply WM
     apply W_nil
     refine E_keep [1, 5, 6, 7] [5, 7, 7120, 7121] ?_
     (try dsimp)
     apply E_seq
     apply E_ops
     apply WM
     obtain ⟨x13, x13h, h⟩ := of_bind h
     refine W1 (Does.ghost (Le_reg (r := 7121) rfl (by simp [setn_length, cpy_length, sortI_length] : (⟨false, [.own 7120 0 (⟨x6.1, o7.xgeo, o7.xw, o7.xorder, o7.xdead⟩ : S_gear_Gear).xm.xl.length (some (18, 86)), .v (.bool (⟨x6.1, o7.xgeo, o7.xw, o7.xorder, o7.xdead⟩ : S_gear_Gear).xm.xoff), .v (.int .i64 (⟨x6.1, o7.xgeo, o7.xw, o7.xorder, o7.xdead⟩ : S_gear_Gear).xm.xcount), .v (.int .i64 (⟨x6.1, o7.xgeo, o7.xw, o7.xorder, o7.xdead⟩ : S_gear_Gear).xm.xfuse), .sl (flat e_i_i64 (⟨x6.1, o7.xgeo, o7.xw, o7.xorder, o7.xdead⟩ : S_gear_Gear).xm.xkeep) (⟨x6.1, o7.xgeo, o7.xw, o7.xorder, o7.xdead⟩ : S_gear_Gear).xm.xkeep.length]⟩ : Reg) = (⟨false, [.own 7120 0 ((⟨x6.1, o7.xgeo, o7.xw, o7.xorder, o7.xdead⟩ : S_gear_Gear).xm.xl).length (some (18, 86)), .v (.bool (⟨x6.1, o7.xgeo, o7.xw, o7.xorder, o7.xdead⟩ : S_gear_Gear).xm.xoff), .v (.int .i64 (⟨x6.1, o7.xgeo, o7.xw, o7.xorder, o7.xdead⟩ : S_gear_Gear).xm.xcount), .v (.int .i64 (⟨x6.1, o7.xgeo, o7.xw, o7.xorder, o7.xdead⟩ : S_gear_Gear).xm.xfuse), .sl (flat e_i_i64 (⟨x6.1, o7.xgeo, o7.xw, o7.xorder, o7.xdead⟩ : S_gear_Gear).xm.xkeep) (⟨x6.1, o7.xgeo, o7.xw, o7.xorder, o7.xdead⟩ : S_gear_Gear).xm.xkeep.length]⟩ : Reg))).b (does_callO [(100900, 7121), (100901, 7120)] false hP (p_nvm_Mem_Words F ((⟨x6.1, o7.xgeo, o7.xw, o7.xorder, o7.xdead⟩ : S_gear_Gear).xm) x13 x13h) rfl ⟨rfl, rfl, trivial⟩ rfl rfl rfl rfl rfl (fun h => by first | rfl | cases h) rfl)) ?_
     (try dsimp)
     apply WM
     apply W_nil
     refine E_keep [5, 6, 7, 9] [5, 7] ?_
     (try dsimp)
     apply E_seq
     apply E_ops
     apply WM
     refine WQ (does_int rfl rfl rfl) ?_
     apply WM
     apply W_lazy
     ·rfl
     ·intro hB; (try simp only [hB, bss, ctt]); exact does_loadA_ptr rfl rfl rfl rfl (by decide)
     apply W_lazy
     ·rfl
     ·intro hB; (try simp only [hB, bss, ctt]); exact does_loadA_ptr rfl rfl rfl rfl (by decide)
     obtain ⟨x14, x14h, h⟩ := of_bind h
     apply W_lazyD
     ·rfl
     ·intro hB; (try simp only [hB, bss, ctt]); exact does_call1 hP (p_state_Same F x10.1 x12.1 x14 (of_lz x14h (bt hB))) rfl rfl rfl
     refine WQ (does_and rfl rfl rfl) ?_
     apply WM
     apply W_lazy
     ·rfl
     ·intro hB; (try simp only [hB, bss, ctt]); exact does_mv rfl
     apply W_lazy
     ·rfl
     ·intro hB; (try simp only [hB, bss, ctt]); exact does_len_sl rfl
     apply W_lazy
     ·rfl
     ·intro hB; (try simp only [hB, bss, ctt]); exact does_int rfl rfl rfl
     refine WQ (does_and rfl rfl rfl) ?_
     apply WM
     apply W_lazy
     ·rfl
     ·intro hB; (try simp only [hB, bss, ctt]); exact does_mv rfl
     obtain ⟨g15, h⟩ := of_gd h
     apply W_lazy
     ·rfl
     ·intro hB; (try simp only [hB, bss, ctt]); exact does_idx_sl rfl rfl (g15 hB).1 (g15 hB).2
     apply W_lazy
     ·rfl
     ·intro hB; (try simp only [hB, bss, ctt]); exact does_load1_slF (k := 1) rfl (fun _ => rfl) (g15 hB) 0 rfl rfl
     apply W_lazy
     ·rfl
     ·intro hB; (try simp only [hB, bss, ctt]); exact does_int rfl rfl rfl
     refine WQ (does_and rfl rfl rfl) ?_
     apply WM
     apply W_lazy
     ·rfl
     ·intro hB; (try simp only [hB, bss, ctt]); exact does_mv rfl
     obtain ⟨x16, x16h, h⟩ := of_bind h
     apply W_lazyD
     ·rfl
     ·intro hB; (try simp only [hB, bss, ctt]); exact does_call1 hP (p_boot_Sound F x13 x16 (of_lz x16h (bt hB))) rfl rfl rfl
     refine WQ (does_and rfl rfl rfl) ?_
     apply WM
     apply W_nil
     refine E_keep [0] [] ?_
     (try dsimp)
     apply E_ret
     cases h
     (try simp only [qt, qb, qn])
     refine fin_mk (xs := _) ⟨_, rfl, rfl⟩ ?_
     rfl
/- (*reeve/nvm.Mem).Out -/
def c_nvm_Mem_Out : VCode := (.seq (.ops [(o (.mv cn) 2)]) (.seq (.ops [(o (.mv cn) 3)]) (.seq (.seq (.ops [(w 6 0), (o (.nilchk (t 6)) 7), (o (.add 0 (t 7)) 8), (o (.load false 1 (t 8)) 9), (o (.len false (t 9)) 10), (o (.mv (ci 0)) 11)]) (.block 0 (.loop (.seq (.ops [(o (.bin .lss 3 (t 11) (t 10)) 12)]) (.seq (.cond (t 12) .skip (.exit 0)) (.seq (.block 1 (.seq (.ops [(w 13 11), (o (.idxS 18 (t 9) (t 11)) 14), (o (.load true 18 (t 14)) 15), (o (.newv [zu, zu, zu, zu, zu, zu, zu, zu, zu, zu, zu, zu, zu, zu, zu, zu, zb, zb]) 5), (w 4 13), (n_ (.store 18 (t 5) (t 15)))]) (.seq (.ops [(o (.add 16 (t 5)) 16), (o (.load false 1 (t 16)) 17)]) (.cond (t 17) (.ops [(w 18 3), (w 19 4), (o (.bslice 1 3 1 [zi] [(0, (1, (t 19)))]) 20), (o (.app 47 3 1 8 (t 18) (t 20)) 21), (w 3 21)]) .skip)))) (.ops [(o (.bin .add 3 (t 11) (ci 1)) 22), (w 11 22)]))))))) (.seq (.ops [(w 23 3), (w 2 23)]) .ret))))
theorem f_nvm_Mem_Out : Fits Tryz.prog 14 1 c_nvm_Mem_Out [(.tmp 2)] := fits_mk Tryz.func14 (by kernel_rfl) (by kernel_rfl) (by kernel_rfl)
theorem p_nvm_Mem_Out (F : Nat) (a0 : S_nvm_Mem) (r : (List Int)) (h : m_nvm_Mem_Out F a0 = some r) : AC Tryz.prog 14 [S.one (.ptr 100900 0)] [(100900, (⟨false, [.own 100901 0 a0.xl.length (some (18, 86)), .v (.bool a0.xoff), .v (.int .i64 a0.xcount), .v (.int .i64 a0.xfuse), .sl (flat e_i_i64 a0.xkeep) a0.xkeep.length]⟩ : Reg)), (100901, (⟨true, flat e_S_row_Row a0.xl⟩ : Reg))] (fun x s' => x = S.one (.sl (flat e_i_i64 r) r.length) ∧ leSt s' [(100900, (⟨false, [.own 100901 0 a0.xl.length (some (18, 86)), .v (.bool a0.xoff), .v (.int .i64 a0.xcount), .v (.int .i64 a0.xfuse), .sl (flat e_i_i64 a0.xkeep) a0.xkeep.length]⟩ : Reg)), (100901, (⟨true, flat e_S_row_Row a0.xl⟩ : Reg))]) := by
 unfold m_nvm_Mem_Out at h
 refine AC_go f_nvm_Mem_Out rfl ?_
 intro C hP
 unfold c_nvm_Mem_Out; dsimp
 apply E_seq
 apply E_ops
 apply WM
 apply W_nil
 refine E_keep [0] [100900, 100901] ?_
 (try dsimp)
 apply E_seq
 apply E_ops
 apply WM
 apply W_nil
 (try dsimp)
 obtain ⟨k2, k2d, h⟩ := of_jn h
 refine E_seqJ (α := (List Int)) (fun (i : (List Int)) => (⟨[(3, S.one (.own 1021 0 i.length (some (1, 3))))], [(1021, (⟨true, flat e_i_i64 i⟩ : Reg)), (100900, (⟨false, [.own 100901 0 a0.xl.length (some (18, 86)), .v (.bool a0.xoff), .v (.int .i64 a0.xcount), .v (.int .i64 a0.xfuse), .sl (flat e_i_i64 a0.xkeep) a0.xkeep.length]⟩ : Reg)), (100901, (⟨true, flat e_S_row_Row a0.xl⟩ : Reg))]⟩ : St)) (fun i => k2 i = some r) (fun i h => ?_) ?_
 ·let iv := i; change k2 i = some r at h; generalize i = v1 at h ⊢
  rw [k2d] at h; dsimp only at h
  (try dsimp)
  apply E_seq
  apply E_ops
  apply WM
  apply WM
  apply W_nil
  refine E_keep [2] [1021, 100900, 100901] ?_
  (try dsimp)
  refine E_ghost (Le_frz (r := 1021) rfl rfl).b ?_
  (try dsimp)
  apply E_ret
  cases h
  (try simp only [qt, qb, qn])
  refine fin_mk (xs := _) ⟨_, rfl, rfl⟩ ?_
  show _ ∧ _
  exact ⟨rfl, ⟨(by first | rfl | simp [setn_length, cpy_length, sortI_length]), ⟨(by first | rfl | simp [setn_length, cpy_length, sortI_length]), trivial⟩⟩⟩
 ·
  skip
  apply E_seq
  apply E_ops
  apply WM
  refine WQ (does_nilchk_ptr rfl rfl) ?_
  refine WQ (does_add_ptr rfl rfl) ?_
  refine WQ (does_load1_ptr rfl rfl rfl) ?_
  refine WQ (does_len_own rfl rfl) ?_
  apply WM
  apply W_nil
  refine E_keep [3, 9, 10, 11] [100900, 100901] ?_
  (try dsimp)
  apply E_block
  (try dsimp)
  refine E_loopB (α := Int × (List Int)) (fun (i : Int × (List Int)) => (⟨[(3, S.one (.own 1021 0 i.2.length (some (1, 3)))), (9, S.one (.own 100901 0 a0.xl.length (some (18, 86)))), (10, S.one (.v (.int .i64 ((a0.xl.length : Nat) : Int)))), (11, S.one (.v (.int .i64 i.1)))], [(1021, (⟨true, flat e_i_i64 i.2⟩ : Reg)), (100900, (⟨false, [.own 100901 0 a0.xl.length (some (18, 86)), .v (.bool a0.xoff), .v (.int .i64 a0.xcount), .v (.int .i64 a0.xfuse), .sl (flat e_i_i64 a0.xkeep) a0.xkeep.length]⟩ : Reg)), (100901, (⟨true, flat e_S_row_Row a0.xl⟩ : Reg))]⟩ : St)) (fun n i => m_nvm_Mem_Out_l0 F a0 k2 n i.1 i.2 = some r) F ((0 : Int), ([] : List Int)) h ?_ (fun n i h => ?_)
  ·
   refine LeB_trans (LeB_nilown (i := 3) (r := 1021) 1 3 rfl rfl) ?_
   exact (Le.b (le_mk ⟨rfl, rfl, rfl, rfl, trivial⟩ ⟨rfl, rfl, rfl, trivial⟩))
  obtain ⟨v19, v20⟩ := i; dsimp only at h
  cases n with
  | zero => cases h
  | succ n21 =>
   unfold m_nvm_Mem_Out_l0 at h
   (try dsimp)
   apply E_seq
   apply E_ops
   refine WQ (does_int rfl rfl rfl) ?_
   apply W_nil
   (try dsimp)
   apply E_seq
   refine E_cond rfl (fun hc22 => ?_) (fun hc22 => ?_)
   ·replace h := of_ct h hc22
    apply E_skip
    refine E_keep [3, 9, 10, 11] [1021, 100900, 100901] ?_
    (try dsimp)
    obtain ⟨k24, k24d, h⟩ := of_jn h
    refine E_seqJ (α := (List Int)) (fun (i : (List Int)) => (⟨[(3, S.one (.own 1021 0 i.length (some (1, 3)))), (9, S.one (.own 100901 0 a0.xl.length (some (18, 86)))), (10, S.one (.v (.int .i64 ((a0.xl.length : Nat) : Int)))), (11, S.one (.v (.int .i64 v19)))], [(1021, (⟨true, flat e_i_i64 i⟩ : Reg)), (100900, (⟨false, [.own 100901 0 a0.xl.length (some (18, 86)), .v (.bool a0.xoff), .v (.int .i64 a0.xcount), .v (.int .i64 a0.xfuse), .sl (flat e_i_i64 a0.xkeep) a0.xkeep.length]⟩ : Reg)), (100901, (⟨true, flat e_S_row_Row a0.xl⟩ : Reg))]⟩ : St)) (fun i => k24 i = some r) (fun i h => ?_) ?_
    ·let iv := i; change k24 i = some r at h; generalize i = v23 at h ⊢
     rw [k24d] at h; dsimp only at h
     (try dsimp)
     apply E_ops
     obtain ⟨g25, h⟩ := of_gd h
     refine WQ (does_add rfl rfl g25.1 g25.2) ?_
     apply WM
     apply W_nil
     refine ⟨n21, ((v19 + (1 : Int)), v23), Nat.lt_succ_self _, h, ?_⟩
     exact (Le.b (le_mk ⟨rfl, rfl, rfl, rfl, trivial⟩ ⟨rfl, rfl, rfl, trivial⟩))
    ·
     skip
     apply E_block
     apply E_seq
     apply E_ops
     apply WM
     obtain ⟨g26, h⟩ := of_gd h
     refine WQ (does_idx_own rfl rfl rfl g26.1 g26.2) ?_
     refine WQ (does_loadA_rgF (k := 18) rfl rfl (fun _ => rfl) g26 0 (by omega) rfl rfl (by decide)) ?_
     refine W1 (does_newv rfl rfl) ?_
     apply WM
     refine W1 (does_store rfl rfl rfl rfl rfl (Nat.le_of_ble_eq_true rfl) rfl (by decide)) ?_
     apply W_nil
     refine E_keep [3, 4, 5, 9, 10, 11] [5, 1021, 100900, 100901] ?_
     (try dsimp)
     apply E_seq
     apply E_ops
     refine WQ (does_add_ptr rfl rfl) ?_
     refine WQ (does_load1_ptr rfl rfl rfl) ?_
     apply W_nil
     refine E_keep [3, 4, 9, 10, 11, 17] [1021, 100900, 100901] ?_
     (try dsimp)
     refine E_cond rfl (fun hc27 => ?_) (fun hc27 => ?_)
     ·replace h := of_ct h hc27
      apply E_ops
      apply WM
      apply WM
      refine W1 (does_bslice rfl rfl rfl rfl) ?_
      obtain ⟨g28, h⟩ := of_gd h
      refine W1 (does_appF (e := e_i_i64) rfl rfl (fun _ => rfl) (fun _ => rfl) rfl (Src.lit (e := e_i_i64) ([v19] : List Int) rfl (fun _ => rfl) rfl rfl) g28 rfl) ?_
      apply WM
      apply W_nil
      refine ⟨(v20 ++ ([v19] : List Int)), h, ?_⟩
      exact (Le.b (le_mk ⟨rfl, rfl, rfl, rfl, trivial⟩ ⟨rfl, rfl, rfl, trivial⟩))
     ·replace h := of_cf h hc27
      apply E_skip
      refine ⟨v20, h, ?_⟩
      exact (Le.b (le_mk ⟨rfl, rfl, rfl, rfl, trivial⟩ ⟨rfl, rfl, rfl, trivial⟩))
   ·replace h := of_cf h hc22
    apply E_exit
    refine ⟨v20, h, ?_⟩
    exact (Le.b (le_mk ⟨rfl, trivial⟩ ⟨rfl, rfl, rfl, trivial⟩))
/- reeve/boot.After -/
def c_boot_After : VCode := (.seq (.ops [(o (.newv [zi, zi, zi, .nil, .nil]) 2), (o (.mv cn) 3), (o (.mv (.const (.int .u64 0))) 4), (o (.mv (cb false)) 5)]) (.seq (.ops [(w 12 0), (o (.call 33 [(t 12)]) 13), (w 11 13), (o (.ext 0 (t 11)) 14), (o (.ext 1 (t 11)) 15), (o (.newv [zi, zi, zi, .nil, .nil, .nil, zu, zb]) 6), (n_ (.store 8 (t 6) (t 14))), (w 7 15)]) (.seq (.seq (.ops [(w 16 7), (o (.un .not (t 16)) 17)]) (.cond (t 17) (.seq (.ops [(o (.build [zi, zi, zi, .nil, .nil] []) 18), (n_ (.store 5 (t 2) (t 18))), (o (.mv cn) 3), (o (.mv (.const (.int .u64 0))) 4), (o (.mv (cb false)) 5)]) .ret) .skip)) (.seq (.ops [(o (.mv cn) 8)]) (.seq (.seq (.ops [(o (.add 5 (t 6)) 19), (o (.load false 1 (t 19)) 20), (o (.len false (t 20)) 21), (o (.mv (ci 0)) 22)]) (.block 0 (.loop (.seq (.ops [(o (.bin .lss 3 (t 22) (t 21)) 23)]) (.seq (.cond (t 23) .skip (.exit 0)) (.seq (.block 1 (.seq (.ops [(o (.idxS 10 (t 20) (t 22)) 24), (o (.load true 10 (t 24)) 25), (o (.newv [zi, zu, zu, zu, zu, zu, zi, zu, zi, .nil]) 10), (n_ (.store 10 (t 10) (t 25)))]) (.ops [(w 26 8), (o (.load true 10 (t 10)) 27), (o (.call 40 [(t 27)]) 28), (o (.bslice 10 57 1 [zi, zu, zu, zu, zu, zu, zi, zu, zi, .nil] [(0, (10, (t 28)))]) 29), (o (.app 28 57 10 96 (t 26) (t 29)) 30), (w 8 30)]))) (.ops [(o (.bin .add 3 (t 22) (ci 1)) 31), (w 22 31)]))))))) (.seq (.draw [((o (.add 0 (t 6)) 32), []), ((o (.load true 5 (t 32)) 33), [0]), ((w 34 8), []), ((o (.add 6 (t 6)) 35), []), ((o (.load false 1 (t 35)) 36), [3]), ((n_ (.store 5 (t 2) (t 33))), [1, 0, 1]), ((w 3 34), [2, 5, 0, 1, 2, 5]), ((w 4 36), [4, 6, 0, 1, 2, 3, 4, 5, 6]), ((o (.mv (cb true)) 5), [7, 0, 1, 2, 3, 4, 5, 6, 7])]) .ret))))))
theorem f_boot_After : Fits Tryz.prog 15 1 c_boot_After [(.cell true 5 2), (.tmp 3), (.tmp 4), (.tmp 5)] := fits_mk Tryz.func15 (by kernel_rfl) (by kernel_rfl) (by kernel_rfl)
theorem p_boot_After (F : Nat) (a0 : (List Int)) (r : S_state_State × (List S_opd_Desc) × Int × Bool) (h : m_boot_After F a0 = some r) : PC Tryz.prog 15 [S.one (.sl (flat e_i_u64 a0) a0.length)] (S.tup [S.agg [.v (.int .i64 r.1.xGeo.xThreads), .v (.int .i64 r.1.xGeo.xSlots), .v (.int .i64 r.1.xGeo.xThings), .sl (flat e_S_state_Slot r.1.xSlots) r.1.xSlots.length, .sl (flat e_S_thing_Thing r.1.xThings) r.1.xThings.length], S.one (.sl (flat e_S_opd_Desc r.2.1) r.2.1.length), S.one (.v (.int .u64 r.2.2.1)), S.one (.v (.bool r.2.2.2))]) := by
 unfold m_boot_After at h
 refine PC_go f_boot_After rfl rfl ?_
 intro C hP
 unfold c_boot_After; dsimp
 apply E_seq
 apply E_ops
 refine W1 (does_newv rfl rfl) ?_
 apply WM
 apply WM
 apply WM
 apply W_nil
 refine E_keep [0, 2] [2] ?_
 (try dsimp)
 apply E_seq
 apply E_ops
 apply WM
 obtain ⟨x1, x1h, h⟩ := of_bind h
 refine W1 (does_call1 hP (p_boot_read F a0 x1 x1h) rfl rfl rfl) ?_
 apply WM
 refine WQ (does_ext rfl rfl) ?_
 refine WQ (does_ext rfl rfl) ?_
 refine W1 (does_newv rfl rfl) ?_
 refine W1 (does_store rfl rfl rfl rfl rfl (Nat.le_of_ble_eq_true rfl) rfl (by decide)) ?_
 apply WM
 apply W_nil
 refine E_keep [2, 6, 7] [2, 6] ?_
 (try dsimp)
 apply E_seq
 apply E_seq
 apply E_ops
 apply WM
 refine WQ (does_not rfl) ?_
 apply W_nil
 refine E_keep [2, 6, 17] [2, 6] ?_
 (try dsimp)
 refine E_cond rfl (fun hc2 => ?_) (fun hc2 => ?_)
 ·replace h := of_ct h hc2
  apply E_seq
  apply E_ops
  refine WQ (does_build rfl rfl) ?_
  refine W1 (does_store rfl rfl rfl rfl rfl (Nat.le_of_ble_eq_true rfl) rfl (by decide)) ?_
  apply WM
  apply WM
  apply WM
  apply W_nil
  refine E_keep [2, 3, 4, 5] [2] ?_
  (try dsimp)
  refine E_ghost (Le_nilR (q := 2) rfl).b ?_
  (try dsimp)
  refine E_ghost (Le_nilS (i := 3) rfl).b ?_
  (try dsimp)
  apply E_ret
  cases h
  (try simp only [qt, qb, qn])
  refine fin_mk (xs := _) ⟨_, _, at_whole rfl (by simp), rfl, rfl, ⟨_, rfl, ⟨_, rfl, ⟨_, rfl, rfl⟩⟩⟩⟩ ?_
  rfl
 ·replace h := of_cf h hc2
  apply E_skip
  refine E_keep [2, 6] [2, 6] ?_
  (try dsimp)
  apply E_seq
  apply E_ops
  apply WM
  apply W_nil
  (try dsimp)
  obtain ⟨k4, k4d, h⟩ := of_jn h
  refine E_seqJ (α := (List S_opd_Desc)) (fun (i : (List S_opd_Desc)) => (⟨[(2, S.one (.ptr 2 0)), (6, S.one (.ptr 6 0)), (8, S.one (.own 1030 0 i.length (some (10, 57))))], [(2, (⟨true, [.v (.int .i64 (0 : Int)), .v (.int .i64 (0 : Int)), .v (.int .i64 (0 : Int)), .nil, .nil]⟩ : Reg)), (6, (⟨true, [.v (.int .i64 x1.1.xs.xGeo.xThreads), .v (.int .i64 x1.1.xs.xGeo.xSlots), .v (.int .i64 x1.1.xs.xGeo.xThings), .sl (flat e_S_state_Slot x1.1.xs.xSlots) x1.1.xs.xSlots.length, .sl (flat e_S_thing_Thing x1.1.xs.xThings) x1.1.xs.xThings.length, .sl (flat e_S_opd_Desc x1.1.xwas) x1.1.xwas.length, .v (.int .u64 x1.1.xboot), .v (.bool x1.1.xfirst)]⟩ : Reg)), (1030, (⟨true, flat e_S_opd_Desc i⟩ : Reg))]⟩ : St)) (fun i => k4 i = some r) (fun i h => ?_) ?_
  ·let iv := i; change k4 i = some r at h; generalize i = v3 at h ⊢
   rw [k4d] at h; dsimp only at h
   (try dsimp)
   obtain ⟨k5, k5d, h⟩ := of_jn h
   refine E_seqJ (α := Unit) (fun (i : Unit) => (⟨[(2, S.one (.ptr 2 0)), (3, S.one (.own 1030 0 v3.length (some (10, 57)))), (4, S.one (.v (.int .u64 x1.1.xboot))), (5, S.one (.v (.bool true)))], [(2, (⟨true, [.v (.int .i64 x1.1.xs.xGeo.xThreads), .v (.int .i64 x1.1.xs.xGeo.xSlots), .v (.int .i64 x1.1.xs.xGeo.xThings), .sl (flat e_S_state_Slot x1.1.xs.xSlots) x1.1.xs.xSlots.length, .sl (flat e_S_thing_Thing x1.1.xs.xThings) x1.1.xs.xThings.length]⟩ : Reg)), (1030, (⟨true, flat e_S_opd_Desc v3⟩ : Reg))]⟩ : St)) (fun i => k5 () = some r) (fun i h => ?_) ?_
   ·skip
    rw [k5d] at h; dsimp only at h
    (try dsimp)
    refine E_ghost (Le_frz (r := 1030) rfl rfl).b ?_
    (try dsimp)
    apply E_ret
    cases h
    (try simp only [qt, qb, qn])
    refine fin_mk (xs := _) ⟨_, _, at_whole rfl (by simp), rfl, rfl, ⟨_, rfl, ⟨_, rfl, ⟨_, rfl, rfl⟩⟩⟩⟩ ?_
    rfl
   ·
    skip
    refine E_draw [0, 1] ?_
    refine XQ 0 rfl rfl rfl (does_add_ptr rfl rfl) ?_
    refine XQ 1 rfl rfl rfl (does_loadA_ptr rfl rfl rfl rfl (by decide)) ?_
    refine X3 rfl ?_ ?_ ?_
    ·
     refine XK rfl ((does_mv rfl).does) ?_
     refine X2 rfl ?_ ?_
     ·
      refine XK rfl ((does_add_ptr rfl rfl).does) ?_
      refine X2 rfl ?_ ?_
      ·
       refine XK rfl ((does_load1_ptr rfl rfl rfl).does) ?_
       refine X1 rfl (XT rfl rfl (does_store rfl rfl rfl rfl rfl (Nat.le_of_ble_eq_true rfl) rfl (by decide)) ?_)
       refine X1 rfl (XT rfl rfl ((does_mv rfl).does) ?_)
       refine X1 rfl (XT rfl rfl ((does_mv rfl).does) ?_)
       refine X1 rfl (XT rfl rfl ((does_mv rfl).does) ?_)
       refine X_nil rfl ?_
       refine ⟨(), h, ?_⟩
       exact (Le.b (le_mk ⟨rfl, rfl, rfl, rfl, trivial⟩ ⟨rfl, rfl, trivial⟩))
      ·
       refine XT rfl rfl (does_store rfl rfl rfl rfl rfl (Nat.le_of_ble_eq_true rfl) rfl (by decide)) ?_
       refine X2 rfl ?_ ?_
       ·
        refine XT rfl rfl ((does_load1_ptr rfl rfl rfl).does) ?_
        refine X1 rfl (XT rfl rfl ((does_mv rfl).does) ?_)
        refine X1 rfl (XT rfl rfl ((does_mv rfl).does) ?_)
        refine X1 rfl (XT rfl rfl ((does_mv rfl).does) ?_)
        refine X_nil rfl ?_
        refine ⟨(), h, ?_⟩
        exact (Le.b (le_mk ⟨rfl, rfl, rfl, rfl, trivial⟩ ⟨rfl, rfl, trivial⟩))
       ·
        refine XT rfl rfl ((does_mv rfl).does) ?_
        refine X1 rfl (XT rfl rfl ((does_load1_ptr rfl rfl rfl).does) ?_)
        refine X1 rfl (XT rfl rfl ((does_mv rfl).does) ?_)
        refine X1 rfl (XT rfl rfl ((does_mv rfl).does) ?_)
        refine X_nil rfl ?_
        refine ⟨(), h, ?_⟩
        exact (Le.b (le_mk ⟨rfl, rfl, rfl, rfl, trivial⟩ ⟨rfl, rfl, trivial⟩))
     ·
      refine XT rfl rfl (does_store rfl rfl rfl rfl rfl (Nat.le_of_ble_eq_true rfl) rfl (by decide)) ?_
      refine X2 rfl ?_ ?_
      ·
       refine XT rfl rfl ((does_add_ptr rfl rfl).does) ?_
       refine X2 rfl ?_ ?_
       ·
        refine XT rfl rfl ((does_load1_ptr rfl rfl rfl).does) ?_
        refine X1 rfl (XT rfl rfl ((does_mv rfl).does) ?_)
        refine X1 rfl (XT rfl rfl ((does_mv rfl).does) ?_)
        refine X1 rfl (XT rfl rfl ((does_mv rfl).does) ?_)
        refine X_nil rfl ?_
        refine ⟨(), h, ?_⟩
        exact (Le.b (le_mk ⟨rfl, rfl, rfl, rfl, trivial⟩ ⟨rfl, rfl, trivial⟩))
       ·
        refine XT rfl rfl ((does_mv rfl).does) ?_
        refine X1 rfl (XT rfl rfl ((does_load1_ptr rfl rfl rfl).does) ?_)
        refine X1 rfl (XT rfl rfl ((does_mv rfl).does) ?_)
        refine X1 rfl (XT rfl rfl ((does_mv rfl).does) ?_)
        refine X_nil rfl ?_
        refine ⟨(), h, ?_⟩
        exact (Le.b (le_mk ⟨rfl, rfl, rfl, rfl, trivial⟩ ⟨rfl, rfl, trivial⟩))
      ·
       refine XT rfl rfl ((does_mv rfl).does) ?_
       refine X1 rfl (XT rfl rfl ((does_add_ptr rfl rfl).does) ?_)
       refine X1 rfl (XT rfl rfl ((does_load1_ptr rfl rfl rfl).does) ?_)
       refine X1 rfl (XT rfl rfl ((does_mv rfl).does) ?_)
       refine X1 rfl (XT rfl rfl ((does_mv rfl).does) ?_)
       refine X_nil rfl ?_
       refine ⟨(), h, ?_⟩
       exact (Le.b (le_mk ⟨rfl, rfl, rfl, rfl, trivial⟩ ⟨rfl, rfl, trivial⟩))
    ·
     refine XK rfl ((does_add_ptr rfl rfl).does) ?_
     refine X3 rfl ?_ ?_ ?_
     ·
      refine XK rfl ((does_mv rfl).does) ?_
      refine X2 rfl ?_ ?_
      ·
       refine XK rfl ((does_load1_ptr rfl rfl rfl).does) ?_
       refine X1 rfl (XT rfl rfl (does_store rfl rfl rfl rfl rfl (Nat.le_of_ble_eq_true rfl) rfl (by decide)) ?_)
       refine X1 rfl (XT rfl rfl ((does_mv rfl).does) ?_)
       refine X1 rfl (XT rfl rfl ((does_mv rfl).does) ?_)
       refine X1 rfl (XT rfl rfl ((does_mv rfl).does) ?_)
       refine X_nil rfl ?_
       refine ⟨(), h, ?_⟩
       exact (Le.b (le_mk ⟨rfl, rfl, rfl, rfl, trivial⟩ ⟨rfl, rfl, trivial⟩))
      ·
       refine XT rfl rfl (does_store rfl rfl rfl rfl rfl (Nat.le_of_ble_eq_true rfl) rfl (by decide)) ?_
       refine X2 rfl ?_ ?_
       ·
        refine XT rfl rfl ((does_load1_ptr rfl rfl rfl).does) ?_
        refine X1 rfl (XT rfl rfl ((does_mv rfl).does) ?_)
        refine X1 rfl (XT rfl rfl ((does_mv rfl).does) ?_)
        refine X1 rfl (XT rfl rfl ((does_mv rfl).does) ?_)
        refine X_nil rfl ?_
        refine ⟨(), h, ?_⟩
        exact (Le.b (le_mk ⟨rfl, rfl, rfl, rfl, trivial⟩ ⟨rfl, rfl, trivial⟩))
       ·
        refine XT rfl rfl ((does_mv rfl).does) ?_
        refine X1 rfl (XT rfl rfl ((does_load1_ptr rfl rfl rfl).does) ?_)
        refine X1 rfl (XT rfl rfl ((does_mv rfl).does) ?_)
        refine X1 rfl (XT rfl rfl ((does_mv rfl).does) ?_)
        refine X_nil rfl ?_
        refine ⟨(), h, ?_⟩
        exact (Le.b (le_mk ⟨rfl, rfl, rfl, rfl, trivial⟩ ⟨rfl, rfl, trivial⟩))
     ·
      refine XK rfl ((does_load1_ptr rfl rfl rfl).does) ?_
      refine X2 rfl ?_ ?_
      ·
       refine XK rfl ((does_mv rfl).does) ?_
       refine X1 rfl (XT rfl rfl (does_store rfl rfl rfl rfl rfl (Nat.le_of_ble_eq_true rfl) rfl (by decide)) ?_)
       refine X1 rfl (XT rfl rfl ((does_mv rfl).does) ?_)
       refine X1 rfl (XT rfl rfl ((does_mv rfl).does) ?_)
       refine X1 rfl (XT rfl rfl ((does_mv rfl).does) ?_)
       refine X_nil rfl ?_
       refine ⟨(), h, ?_⟩
       exact (Le.b (le_mk ⟨rfl, rfl, rfl, rfl, trivial⟩ ⟨rfl, rfl, trivial⟩))
      ·
       refine XT rfl rfl (does_store rfl rfl rfl rfl rfl (Nat.le_of_ble_eq_true rfl) rfl (by decide)) ?_
       refine X1 rfl (XT rfl rfl ((does_mv rfl).does) ?_)
       refine X1 rfl (XT rfl rfl ((does_mv rfl).does) ?_)
       refine X1 rfl (XT rfl rfl ((does_mv rfl).does) ?_)
       refine X1 rfl (XT rfl rfl ((does_mv rfl).does) ?_)
       refine X_nil rfl ?_
       refine ⟨(), h, ?_⟩
       exact (Le.b (le_mk ⟨rfl, rfl, rfl, rfl, trivial⟩ ⟨rfl, rfl, trivial⟩))
     ·
      refine XT rfl rfl (does_store rfl rfl rfl rfl rfl (Nat.le_of_ble_eq_true rfl) rfl (by decide)) ?_
      refine X2 rfl ?_ ?_
      ·
       refine XT rfl rfl ((does_mv rfl).does) ?_
       refine X2 rfl ?_ ?_
       ·
        refine XT rfl rfl ((does_load1_ptr rfl rfl rfl).does) ?_
        refine X1 rfl (XT rfl rfl ((does_mv rfl).does) ?_)
        refine X1 rfl (XT rfl rfl ((does_mv rfl).does) ?_)
        refine X1 rfl (XT rfl rfl ((does_mv rfl).does) ?_)
        refine X_nil rfl ?_
        refine ⟨(), h, ?_⟩
        exact (Le.b (le_mk ⟨rfl, rfl, rfl, rfl, trivial⟩ ⟨rfl, rfl, trivial⟩))
       ·
        refine XT rfl rfl ((does_mv rfl).does) ?_
        refine X1 rfl (XT rfl rfl ((does_load1_ptr rfl rfl rfl).does) ?_)
        refine X1 rfl (XT rfl rfl ((does_mv rfl).does) ?_)
        refine X1 rfl (XT rfl rfl ((does_mv rfl).does) ?_)
        refine X_nil rfl ?_
        refine ⟨(), h, ?_⟩
        exact (Le.b (le_mk ⟨rfl, rfl, rfl, rfl, trivial⟩ ⟨rfl, rfl, trivial⟩))
      ·
       refine XT rfl rfl ((does_load1_ptr rfl rfl rfl).does) ?_
       refine X1 rfl (XT rfl rfl ((does_mv rfl).does) ?_)
       refine X1 rfl (XT rfl rfl ((does_mv rfl).does) ?_)
       refine X1 rfl (XT rfl rfl ((does_mv rfl).does) ?_)
       refine X1 rfl (XT rfl rfl ((does_mv rfl).does) ?_)
       refine X_nil rfl ?_
       refine ⟨(), h, ?_⟩
       exact (Le.b (le_mk ⟨rfl, rfl, rfl, rfl, trivial⟩ ⟨rfl, rfl, trivial⟩))
    ·
     refine XT rfl rfl (does_store rfl rfl rfl rfl rfl (Nat.le_of_ble_eq_true rfl) rfl (by decide)) ?_
     refine X2 rfl ?_ ?_
     ·
      refine XT rfl rfl ((does_mv rfl).does) ?_
      refine X2 rfl ?_ ?_
      ·
       refine XT rfl rfl ((does_add_ptr rfl rfl).does) ?_
       refine X2 rfl ?_ ?_
       ·
        refine XT rfl rfl ((does_load1_ptr rfl rfl rfl).does) ?_
        refine X1 rfl (XT rfl rfl ((does_mv rfl).does) ?_)
        refine X1 rfl (XT rfl rfl ((does_mv rfl).does) ?_)
        refine X1 rfl (XT rfl rfl ((does_mv rfl).does) ?_)
        refine X_nil rfl ?_
        refine ⟨(), h, ?_⟩
        exact (Le.b (le_mk ⟨rfl, rfl, rfl, rfl, trivial⟩ ⟨rfl, rfl, trivial⟩))
       ·
        refine XT rfl rfl ((does_mv rfl).does) ?_
        refine X1 rfl (XT rfl rfl ((does_load1_ptr rfl rfl rfl).does) ?_)
        refine X1 rfl (XT rfl rfl ((does_mv rfl).does) ?_)
        refine X1 rfl (XT rfl rfl ((does_mv rfl).does) ?_)
        refine X_nil rfl ?_
        refine ⟨(), h, ?_⟩
        exact (Le.b (le_mk ⟨rfl, rfl, rfl, rfl, trivial⟩ ⟨rfl, rfl, trivial⟩))
      ·
       refine XT rfl rfl ((does_mv rfl).does) ?_
       refine X1 rfl (XT rfl rfl ((does_add_ptr rfl rfl).does) ?_)
       refine X1 rfl (XT rfl rfl ((does_load1_ptr rfl rfl rfl).does) ?_)
       refine X1 rfl (XT rfl rfl ((does_mv rfl).does) ?_)
       refine X1 rfl (XT rfl rfl ((does_mv rfl).does) ?_)
       refine X_nil rfl ?_
       refine ⟨(), h, ?_⟩
       exact (Le.b (le_mk ⟨rfl, rfl, rfl, rfl, trivial⟩ ⟨rfl, rfl, trivial⟩))
     ·
      refine XT rfl rfl ((does_add_ptr rfl rfl).does) ?_
      refine X2 rfl ?_ ?_
      ·
       refine XT rfl rfl ((does_mv rfl).does) ?_
       refine X2 rfl ?_ ?_
       ·
        refine XT rfl rfl ((does_load1_ptr rfl rfl rfl).does) ?_
        refine X1 rfl (XT rfl rfl ((does_mv rfl).does) ?_)
        refine X1 rfl (XT rfl rfl ((does_mv rfl).does) ?_)
        refine X1 rfl (XT rfl rfl ((does_mv rfl).does) ?_)
        refine X_nil rfl ?_
        refine ⟨(), h, ?_⟩
        exact (Le.b (le_mk ⟨rfl, rfl, rfl, rfl, trivial⟩ ⟨rfl, rfl, trivial⟩))
       ·
        refine XT rfl rfl ((does_mv rfl).does) ?_
        refine X1 rfl (XT rfl rfl ((does_load1_ptr rfl rfl rfl).does) ?_)
        refine X1 rfl (XT rfl rfl ((does_mv rfl).does) ?_)
        refine X1 rfl (XT rfl rfl ((does_mv rfl).does) ?_)
        refine X_nil rfl ?_
        refine ⟨(), h, ?_⟩
        exact (Le.b (le_mk ⟨rfl, rfl, rfl, rfl, trivial⟩ ⟨rfl, rfl, trivial⟩))
      ·
       refine XT rfl rfl ((does_load1_ptr rfl rfl rfl).does) ?_
       refine X1 rfl (XT rfl rfl ((does_mv rfl).does) ?_)
       refine X1 rfl (XT rfl rfl ((does_mv rfl).does) ?_)
       refine X1 rfl (XT rfl rfl ((does_mv rfl).does) ?_)
       refine X1 rfl (XT rfl rfl ((does_mv rfl).does) ?_)
       refine X_nil rfl ?_
       refine ⟨(), h, ?_⟩
       exact (Le.b (le_mk ⟨rfl, rfl, rfl, rfl, trivial⟩ ⟨rfl, rfl, trivial⟩))
  ·
   skip
   apply E_seq
   apply E_ops
   refine WQ (does_add_ptr rfl rfl) ?_
   refine WQ (does_load1_ptr rfl rfl rfl) ?_
   refine WQ (does_len_sl rfl) ?_
   apply WM
   apply W_nil
   refine E_keep [2, 6, 8, 20, 21, 22] [2, 6] ?_
   (try dsimp)
   apply E_block
   (try dsimp)
   refine E_loopB (α := Int × (List S_opd_Desc)) (fun (i : Int × (List S_opd_Desc)) => (⟨[(2, S.one (.ptr 2 0)), (6, S.one (.ptr 6 0)), (8, S.one (.own 1030 0 i.2.length (some (10, 57)))), (20, S.one (.sl (flat e_S_opd_Desc x1.1.xwas) x1.1.xwas.length)), (21, S.one (.v (.int .i64 ((x1.1.xwas.length : Nat) : Int)))), (22, S.one (.v (.int .i64 i.1)))], [(2, (⟨true, [.v (.int .i64 (0 : Int)), .v (.int .i64 (0 : Int)), .v (.int .i64 (0 : Int)), .nil, .nil]⟩ : Reg)), (6, (⟨true, [.v (.int .i64 x1.1.xs.xGeo.xThreads), .v (.int .i64 x1.1.xs.xGeo.xSlots), .v (.int .i64 x1.1.xs.xGeo.xThings), .sl (flat e_S_state_Slot x1.1.xs.xSlots) x1.1.xs.xSlots.length, .sl (flat e_S_thing_Thing x1.1.xs.xThings) x1.1.xs.xThings.length, .sl (flat e_S_opd_Desc x1.1.xwas) x1.1.xwas.length, .v (.int .u64 x1.1.xboot), .v (.bool x1.1.xfirst)]⟩ : Reg)), (1030, (⟨true, flat e_S_opd_Desc i.2⟩ : Reg))]⟩ : St)) (fun n i => m_boot_After_l0 F x1 k4 n i.1 i.2 = some r) F ((0 : Int), ([] : List S_opd_Desc)) h ?_ (fun n i h => ?_)
   ·
    refine LeB_trans (LeB_nilown (i := 8) (r := 1030) 10 57 rfl rfl) ?_
    exact (Le.b (le_mk ⟨rfl, rfl, rfl, rfl, rfl, rfl, trivial⟩ ⟨rfl, rfl, rfl, trivial⟩))
   obtain ⟨v18, v19⟩ := i; dsimp only at h
   cases n with
   | zero => cases h
   | succ n20 =>
    unfold m_boot_After_l0 at h
    (try dsimp)
    apply E_seq
    apply E_ops
    refine WQ (does_int rfl rfl rfl) ?_
    apply W_nil
    (try dsimp)
    apply E_seq
    refine E_cond rfl (fun hc21 => ?_) (fun hc21 => ?_)
    ·replace h := of_ct h hc21
     apply E_skip
     refine E_keep [2, 6, 8, 20, 21, 22] [2, 6, 1030] ?_
     (try dsimp)
     apply E_seq
     apply E_block
     apply E_seq
     apply E_ops
     obtain ⟨g22, h⟩ := of_gd h
     refine WQ (does_idx_sl rfl rfl g22.1 g22.2) ?_
     refine WQ (does_loadA_slF (k := 10) rfl (fun _ => rfl) g22 0 rfl rfl rfl) ?_
     refine W1 (does_newv rfl rfl) ?_
     refine W1 (does_store rfl rfl rfl rfl rfl (Nat.le_of_ble_eq_true rfl) rfl (by decide)) ?_
     apply W_nil
     refine E_keep [2, 6, 8, 10, 20, 21, 22] [2, 6, 10, 1030] ?_
     (try dsimp)
     apply E_ops
     apply WM
     refine WQ (does_loadA_ptr rfl rfl rfl rfl (by decide)) ?_
     obtain ⟨x23, x23h, h⟩ := of_bind h
     refine W1 (does_call1 hP (p_boot_then F (nth x1.1.xwas v18) x23 x23h) rfl rfl rfl) ?_
     refine W1 (does_bslice rfl rfl rfl rfl) ?_
     obtain ⟨g24, h⟩ := of_gd h
     refine W1 (does_appF (e := e_S_opd_Desc) rfl rfl (fun _ => rfl) (fun _ => rfl) rfl (Src.lit (e := e_S_opd_Desc) ([x23] : List S_opd_Desc) rfl (fun _ => rfl) rfl rfl) g24 rfl) ?_
     apply WM
     apply W_nil
     refine E_keep [2, 6, 8, 20, 21, 22] [2, 6, 1030] ?_
     (try dsimp)
     apply E_ops
     obtain ⟨g25, h⟩ := of_gd h
     refine WQ (does_add rfl rfl g25.1 g25.2) ?_
     apply WM
     apply W_nil
     refine ⟨n20, ((v18 + (1 : Int)), (v19 ++ ([x23] : List S_opd_Desc))), Nat.lt_succ_self _, h, ?_⟩
     exact (Le.b (le_mk ⟨rfl, rfl, rfl, rfl, rfl, rfl, trivial⟩ ⟨rfl, rfl, rfl, trivial⟩))
    ·replace h := of_cf h hc21
     apply E_exit
     refine ⟨v19, h, ?_⟩
     exact (Le.b (le_mk ⟨rfl, rfl, rfl, trivial⟩ ⟨rfl, rfl, rfl, trivial⟩))
/- reeve/reevelaw26.BootMakes -/
def c_reevelaw26_BootMakes : VCode := (.seq (.ops [(o (.box 23 (t 0)) 2), (o (.mv (cb false)) 4)]) (.seq (.seq (.ops [(o (.call 6 []) 14), (o (.un .not (t 14)) 15)]) (.cond (t 15) (.seq (.ops [(o (.mv (cb false)) 4)]) .ret) .skip)) (.seq (.ops [(o (.load true 3 (t 2)) 17), (w 18 1), (o (.call 12 [(t 17), (t 18)]) 19), (w 16 19), (o (.ext 0 (t 16)) 20), (o (.ext 1 (t 16)) 21), (w 5 20), (w 6 21)]) (.seq (.ops [(o (.load true 3 (t 2)) 23), (w 24 1), (o (.call 13 [(t 23), (t 24)]) 25), (w 22 25), (o (.ext 0 (t 22)) 26), (o (.ext 1 (t 22)) 27), (o (.newv [zi, zi, zi, .nil, .nil]) 7), (n_ (.store 5 (t 7) (t 26))), (w 8 27)]) (.seq (.seq (.ops [(w 28 6), (o (.bin .neq 33 (t 28) (ci 0)) 29), (w 30 29), (g_ (.mv (t 8)) 31 30 false), (g_ (.bin .neq 33 (t 31) (ci 0)) 32 30 false), (o (.pick (t 30) (cb true) (t 32)) 33)]) (.cond (t 33) (.seq (.ops [(w 34 6), (w 35 8), (o (.bin .eql 33 (t 34) (t 35)) 36), (w 37 36), (g_ (.mv (t 5)) 38 37 true), (g_ (.eqP false (t 38) cp) 39 37 true), (o (.pick (t 37) (t 39) (cb false)) 40), (w 4 40)]) .ret) .skip)) (.seq (.seq (.ops [(w 41 5), (o (.eqP false (t 41) cp) 42), (w 43 42), (g_ (.mv (t 5)) 44 43 false), (g_ (.call 14 [(t 44)]) 45 43 false), (g_ (.len false (t 45)) 46 43 false), (g_ (.bin .neq 3 (t 46) (ci 0)) 47 43 false), (o (.pick (t 43) (cb true) (t 47)) 48)]) (.cond (t 48) (.seq (.ops [(o (.mv (cb false)) 4)]) .ret) .skip)) (.seq (.ops [(w 50 5), (o (.call 11 [(t 50)]) 51), (o (.call 15 [(t 51)]) 52), (w 49 52), (o (.ext 0 (t 49)) 53), (o (.ext 1 (t 49)) 54), (o (.ext 2 (t 49)) 55), (o (.ext 3 (t 49)) 56), (o (.newv [zi, zi, zi, .nil, .nil]) 9), (n_ (.store 5 (t 9) (t 53))), (w 10 54), (w 11 55), (w 12 56)]) (.seq (.seq (.ops [(w 57 12), (o (.un .not (t 57)) 58), (w 59 58), (g_ (.mv (t 11)) 60 59 false), (g_ (.bin .neq 42 (t 60) (.const (.int .u64 1))) 61 59 false), (o (.pick (t 59) (cb true) (t 61)) 62), (w 63 62), (g_ (.mv (t 10)) 64 63 false), (g_ (.len false (t 64)) 65 63 false), (g_ (.add 0 (t 2)) 66 63 false), (g_ (.load false 1 (t 66)) 67 63 false), (g_ (.bin .neq 3 (t 65) (t 67)) 68 63 false), (o (.pick (t 63) (cb true) (t 68)) 69), (w 70 69), (g_ (.load true 5 (t 9)) 71 70 false), (g_ (.load true 5 (t 7)) 72 70 false), (g_ (.call 16 [(t 71), (t 72)]) 73 70 false), (g_ (.un .not (t 73)) 74 70 false), (o (.pick (t 70) (cb true) (t 74)) 75)]) (.cond (t 75) (.seq (.ops [(o (.mv (cb false)) 4)]) .ret) .skip)) (.seq (.seq (.ops [(o (.mv (ci 0)) 13)]) (.block 0 (.loop (.seq (.seq (.ops [(w 76 13), (w 77 10), (o (.len false (t 77)) 78), (o (.bin .lss 3 (t 76) (t 78)) 79)]) (.cond (t 79) .skip (.exit 0))) (.seq (.block 1 (.seq (.ops [(w 82 10), (w 83 13), (o (.idxS 10 (t 82) (t 83)) 84), (o (.add 0 (t 84)) 85), (o (.load false 1 (t 85)) 86), (o (.bin .neq 3 (t 86) (ci 0)) 87), (w 88 87), (g_ (.mv (t 10)) 89 88 false), (g_ (.mv (t 13)) 90 88 false), (g_ (.idxS 10 (t 89) (t 90)) 91 88 false), (g_ (.add 1 (t 91)) 92 88 false), (g_ (.load false 1 (t 92)) 93 88 false), (g_ (.bin .neq 42 (t 93) (.const (.int .u64 0))) 94 88 false), (o (.pick (t 88) (cb true) (t 94)) 95)]) (.cond (t 95) (.seq (.ops [(o (.mv (cb false)) 4)]) .ret) .skip))) (.ops [(w 80 13), (o (.bin .add 3 (t 80) (ci 1)) 81), (w 13 81)])))))) (.seq (.ops [(o (.mv (cb true)) 4)]) .ret))))))))))
theorem f_reevelaw26_BootMakes : Fits Tryz.prog 4 2 c_reevelaw26_BootMakes [(.tmp 4)] := fits_mk Tryz.func4 (by kernel_rfl) (by kernel_rfl) (by kernel_rfl)
theorem p_reevelaw26_BootMakes (F : Nat) (a0 : S_geo_Geo) (a1 : Int) (r : Bool) (h : m_reevelaw26_BootMakes F a0 a1 = some r) : PC Tryz.prog 4 [S.agg [.v (.int .i64 a0.xThreads), .v (.int .i64 a0.xSlots), .v (.int .i64 a0.xThings)], S.one (.v (.int .i64 a1))] (S.one (.v (.bool r))) := by
 unfold m_reevelaw26_BootMakes at h
 refine PC_go f_reevelaw26_BootMakes rfl rfl ?_
 intro C hP
 unfold c_reevelaw26_BootMakes; dsimp
 apply E_seq
 apply E_ops
 refine W1 (does_box rfl rfl rfl rfl) ?_
 apply WM
 apply W_nil
 refine E_keep [1, 2] [2] ?_
 (try dsimp)
 apply E_seq
 apply E_seq
 apply E_ops
 obtain ⟨x1, x1h, h⟩ := of_bind h
 refine W1 (does_call1 hP (p_reevelaw26_awake F  x1 x1h) rfl rfl rfl) ?_
 refine WQ (does_not rfl) ?_
 apply W_nil
 refine E_keep [1, 2, 15] [2] ?_
 (try dsimp)
 refine E_cond rfl (fun hc2 => ?_) (fun hc2 => ?_)
 ·replace h := of_ct h hc2
  apply E_seq
  apply E_ops
  apply WM
  apply W_nil
  refine E_keep [4] [] ?_
  (try dsimp)
  apply E_ret
  cases h
  (try simp only [qt, qb, qn])
  refine fin_mk (xs := _) ⟨_, rfl, rfl⟩ ?_
  rfl
 ·replace h := of_cf h hc2
  apply E_skip
  refine E_keep [1, 2] [2] ?_
  (try dsimp)
  apply E_seq
  apply E_ops
  refine WQ (does_loadA_ptr rfl rfl rfl rfl (by decide)) ?_
  apply WM
  obtain ⟨x3, x3h, h⟩ := of_bind h
  rcases of_optc h with ⟨o4e, h⟩ | ⟨o4, o4e, h⟩
  ·
   refine W1 (does_callO [] true hP (AC_none o4e (p_boot_Make F a0 a1 x3 x3h)) rfl trivial rfl rfl rfl rfl rfl (fun h => by first | rfl | cases h) rfl) ?_
   (try dsimp)
   apply WM
   refine WQ (does_ext rfl rfl) ?_
   refine WQ (does_ext rfl rfl) ?_
   apply WM
   apply WM
   apply W_nil
   refine E_keep [1, 2, 5, 6] [2] ?_
   (try dsimp)
   apply E_seq
   apply E_ops
   refine WQ (does_loadA_ptr rfl rfl rfl rfl (by decide)) ?_
   apply WM
   obtain ⟨x5, x5h, h⟩ := of_bind h
   refine W1 (does_call1 hP (p_state_New F a0 a1 x5 x5h) rfl rfl rfl) ?_
   apply WM
   refine WQ (does_ext rfl rfl) ?_
   refine WQ (does_ext rfl rfl) ?_
   refine W1 (does_newv rfl rfl) ?_
   refine W1 (does_store rfl rfl rfl rfl rfl (Nat.le_of_ble_eq_true rfl) rfl (by decide)) ?_
   apply WM
   apply W_nil
   refine E_keep [2, 5, 6, 7, 8] [2, 7] ?_
   (try dsimp)
   apply E_seq
   apply E_seq
   apply E_ops
   apply WM
   refine WQ (does_int rfl rfl rfl) ?_
   apply WM
   apply W_lazy
   ·rfl
   ·intro hB; (try simp only [hB, bss, ctt]); exact does_mv rfl
   apply W_lazy
   ·rfl
   ·intro hB; (try simp only [hB, bss, ctt]); exact does_int rfl rfl rfl
   refine WQ (does_or rfl rfl rfl) ?_
   apply W_nil
   refine E_keep [2, 5, 6, 7, 8, 33] [2, 7] ?_
   (try dsimp)
   refine E_cond rfl (fun hc6 => ?_) (fun hc6 => ?_)
   ·replace h := of_ct h hc6
    apply E_seq
    apply E_ops
    apply WM
    apply WM
    refine WQ (does_int rfl rfl rfl) ?_
    apply WM
    apply W_lazy
    ·rfl
    ·intro hB; (try simp only [hB, bss, ctt]); exact does_mv rfl
    apply W_lazy
    ·rfl
    ·intro hB; (try simp only [hB, bss, ctt]); exact does_eqP_nil rfl rfl
    refine WQ (does_and rfl rfl rfl) ?_
    apply WM
    apply W_nil
    refine E_keep [4] [] ?_
    (try dsimp)
    apply E_ret
    cases h
    (try simp only [qt, qb, qn])
    refine fin_mk (xs := _) ⟨_, rfl, rfl⟩ ?_
    rfl
   ·replace h := of_cf h hc6
    apply E_skip
    refine E_keep [2, 5, 7] [2, 7] ?_
    (try dsimp)
    apply E_seq
    apply E_seq
    apply E_ops
    apply WM
    refine WQ (does_eqP_nil rfl rfl) ?_
    apply WM
    refine W_gF rfl rfl ?_
    refine W_gF rfl rfl ?_
    refine W_gF rfl rfl ?_
    refine W_gF rfl rfl ?_
    refine WQ (does_pickT rfl rfl rfl) ?_
    apply W_nil
    refine E_keep [2, 5, 7, 48] [2, 7] ?_
    (try dsimp)
    refine E_cond rfl (fun hc7 => ?_) (fun hc7 => ?_)
    ·
     apply E_seq
     apply E_ops
     apply WM
     apply W_nil
     refine E_keep [4] [] ?_
     (try dsimp)
     apply E_ret
     cases h
     (try simp only [qt, qb, qn])
     refine fin_mk (xs := _) ⟨_, rfl, rfl⟩ ?_
     rfl
    ·cases hc7
  ·
   refine W1 (does_callO [(7190, 7190), (7191, 7191)] true hP (AC_some o4e (p_boot_Make F a0 a1 x3 x3h)) rfl trivial rfl rfl rfl rfl rfl (fun h => by first | rfl | cases h) rfl) ?_
   (try dsimp)
   apply WM
   refine WQ (does_ext rfl rfl) ?_
   refine WQ (does_ext rfl rfl) ?_
   apply WM
   apply WM
   apply W_nil
   refine E_keep [1, 2, 5, 6] [2, 7190, 7191] ?_
   (try dsimp)
   apply E_seq
   apply E_ops
   refine WQ (does_loadA_ptr rfl rfl rfl rfl (by decide)) ?_
   apply WM
   obtain ⟨x8, x8h, h⟩ := of_bind h
   refine W1 (does_call1 hP (p_state_New F a0 a1 x8 x8h) rfl rfl rfl) ?_
   apply WM
   refine WQ (does_ext rfl rfl) ?_
   refine WQ (does_ext rfl rfl) ?_
   refine W1 (does_newv rfl rfl) ?_
   refine W1 (does_store rfl rfl rfl rfl rfl (Nat.le_of_ble_eq_true rfl) rfl (by decide)) ?_
   apply WM
   apply W_nil
   refine E_keep [2, 5, 6, 7, 8] [2, 7, 7190, 7191] ?_
   (try dsimp)
   apply E_seq
   apply E_seq
   apply E_ops
   apply WM
   refine WQ (does_int rfl rfl rfl) ?_
   apply WM
   apply W_lazy
   ·rfl
   ·intro hB; (try simp only [hB, bss, ctt]); exact does_mv rfl
   apply W_lazy
   ·rfl
   ·intro hB; (try simp only [hB, bss, ctt]); exact does_int rfl rfl rfl
   refine WQ (does_or rfl rfl rfl) ?_
   apply W_nil
   refine E_keep [2, 5, 6, 7, 8, 33] [2, 7, 7190, 7191] ?_
   (try dsimp)
   refine E_cond rfl (fun hc9 => ?_) (fun hc9 => ?_)
   ·replace h := of_ct h hc9
    apply E_seq
    apply E_ops
    apply WM
    apply WM
    refine WQ (does_int rfl rfl rfl) ?_
    apply WM
    apply W_lazy
    ·rfl
    ·intro hB; (try simp only [hB, bss, ctt]); exact does_mv rfl
    apply W_lazy
    ·rfl
    ·intro hB; (try simp only [hB, bss, ctt]); exact does_eqP_ptr rfl rfl rfl
    refine WQ (does_and rfl rfl rfl) ?_
    apply WM
    apply W_nil
    refine E_keep [4] [] ?_
    (try dsimp)
    apply E_ret
    cases h
    (try simp only [qt, qb, qn])
    refine fin_mk (xs := _) ⟨_, rfl, rfl⟩ ?_
    rfl
   ·replace h := of_cf h hc9
    apply E_skip
    refine E_keep [2, 5, 7] [2, 7, 7190, 7191] ?_
    (try dsimp)
    apply E_seq
    apply E_seq
    apply E_ops
    apply WM
    refine WQ (does_eqP_ptr rfl rfl rfl) ?_
    apply WM
    refine W_gD rfl rfl ((does_mv rfl).does) ?_
    obtain ⟨x10, x10h, h⟩ := of_bind h
    refine W_gD rfl rfl (does_callO [(100900, 7191), (100901, 7190)] false hP (p_nvm_Mem_Out F o4 x10 x10h) rfl ⟨rfl, rfl, trivial⟩ rfl rfl rfl rfl rfl (fun h => by first | rfl | cases h) rfl) ?_
    (try dsimp)
    refine W_gD rfl rfl ((does_len_sl rfl).does) ?_
    refine W_gD rfl rfl ((does_int rfl rfl rfl).does) ?_
    refine WQ (does_pickF rfl rfl rfl) ?_
    apply W_nil
    refine E_keep [2, 5, 7, 48] [2, 7, 7190, 7191] ?_
    (try dsimp)
    refine E_cond rfl (fun hc11 => ?_) (fun hc11 => ?_)
    ·replace h := of_ct h hc11
     apply E_seq
     apply E_ops
     apply WM
     apply W_nil
     refine E_keep [4] [] ?_
     (try dsimp)
     apply E_ret
     cases h
     (try simp only [qt, qb, qn])
     refine fin_mk (xs := _) ⟨_, rfl, rfl⟩ ?_
     rfl
    ·replace h := of_cf h hc11
     apply E_skip
     refine E_keep [2, 5, 7] [2, 7, 7190, 7191] ?_
     (try dsimp)
     apply E_seq
     apply E_ops
     apply WM
     obtain ⟨x12, x12h, h⟩ := of_bind h
     refine W1 (does_callO [(100900, 7191), (100901, 7190)] false hP (p_nvm_Mem_Words F o4 x12 x12h) rfl ⟨rfl, rfl, trivial⟩ rfl rfl rfl rfl rfl (fun h => by first | rfl | cases h) rfl) ?_
     (try dsimp)
     obtain ⟨x13, x13h, h⟩ := of_bind h
     refine W1 (does_call1 hP (p_boot_After F x12 x13 x13h) rfl rfl rfl) ?_
     apply WM
     refine WQ (does_ext rfl rfl) ?_
     refine WQ (does_ext rfl rfl) ?_
     refine WQ (does_ext rfl rfl) ?_
     refine WQ (does_ext rfl rfl) ?_
     refine W1 (does_newv rfl rfl) ?_
     refine W1 (does_store rfl rfl rfl rfl rfl (Nat.le_of_ble_eq_true rfl) rfl (by decide)) ?_
     apply WM
     apply WM
     apply WM
     apply W_nil
     refine E_keep [2, 7, 9, 10, 11, 12] [2, 7, 9] ?_
     (try dsimp)
     apply E_seq
     apply E_seq
     apply E_ops
     apply WM
     refine WQ (does_not rfl) ?_
     apply WM
     apply W_lazy
     ·rfl
     ·intro hB; (try simp only [hB, bss, ctt]); exact does_mv rfl
     apply W_lazy
     ·rfl
     ·intro hB; (try simp only [hB, bss, ctt]); exact does_int rfl rfl rfl
     refine WQ (does_or rfl rfl rfl) ?_
     apply WM
     apply W_lazy
     ·rfl
     ·intro hB; (try simp only [hB, bss, ctt]); exact does_mv rfl
     apply W_lazy
     ·rfl
     ·intro hB; (try simp only [hB, bss, ctt]); exact does_len_sl rfl
     apply W_lazy
     ·rfl
     ·intro hB; (try simp only [hB, bss, ctt]); exact does_add_ptr rfl rfl
     apply W_lazy
     ·rfl
     ·intro hB; (try simp only [hB, bss, ctt]); exact does_load1_ptr rfl rfl rfl
     apply W_lazy
     ·rfl
     ·intro hB; (try simp only [hB, bss, ctt]); exact does_int rfl rfl rfl
     refine WQ (does_or rfl rfl rfl) ?_
     apply WM
     apply W_lazy
     ·rfl
     ·intro hB; (try simp only [hB, bss, ctt]); exact does_loadA_ptr rfl rfl rfl rfl (by decide)
     apply W_lazy
     ·rfl
     ·intro hB; (try simp only [hB, bss, ctt]); exact does_loadA_ptr rfl rfl rfl rfl (by decide)
     obtain ⟨x14, x14h, h⟩ := of_bind h
     apply W_lazyD
     ·rfl
     ·intro hB; (try simp only [hB, bss, ctt]); exact does_call1 hP (p_state_Same F x13.1 x8.1 x14 (of_lz x14h (bt hB))) rfl rfl rfl
     apply W_lazy
     ·rfl
     ·intro hB; (try simp only [hB, bss, ctt]); exact does_not rfl
     refine WQ (does_or rfl rfl rfl) ?_
     apply W_nil
     refine E_keep [10, 75] [] ?_
     (try dsimp)
     refine E_cond rfl (fun hc15 => ?_) (fun hc15 => ?_)
     ·replace h := of_ct h hc15
      apply E_seq
      apply E_ops
      apply WM
      apply W_nil
      refine E_keep [4] [] ?_
      (try dsimp)
      apply E_ret
      cases h
      (try simp only [qt, qb, qn])
      refine fin_mk (xs := _) ⟨_, rfl, rfl⟩ ?_
      rfl
     ·replace h := of_cf h hc15
      apply E_skip
      refine E_keep [10] [] ?_
      (try dsimp)
      obtain ⟨k16, k16d, h⟩ := of_jn h
      refine E_seqJ (α := Unit) (fun (i : Unit) => (⟨[], []⟩ : St)) (fun i => k16 () = some r) (fun i h => ?_) ?_
      ·skip
       rw [k16d] at h; dsimp only at h
       (try dsimp)
       apply E_seq
       apply E_ops
       apply WM
       apply W_nil
       (try dsimp)
       apply E_ret
       cases h
       (try simp only [qt, qb, qn])
       refine fin_mk (xs := _) ⟨_, rfl, rfl⟩ ?_
       rfl
      ·
       skip
       apply E_seq
       apply E_ops
       apply WM
       apply W_nil
       (try dsimp)
       apply E_block
       (try dsimp)
       refine E_loopB (α := Int) (fun (i : Int) => (⟨[(10, S.one (.sl (flat e_S_opd_Desc x13.2.1) x13.2.1.length)), (13, S.one (.v (.int .i64 i)))], []⟩ : St)) (fun n i => m_reevelaw26_BootMakes_l0 F x13 k16 n i = some r) F (0 : Int) h ?_ (fun n i h => ?_)
       ·
        exact (Le.b (le_mk ⟨rfl, rfl, trivial⟩ trivial))
       generalize i = v28 at h ⊢
       cases n with
       | zero => cases h
       | succ n29 =>
        unfold m_reevelaw26_BootMakes_l0 at h
        (try dsimp)
        apply E_seq
        apply E_seq
        apply E_ops
        apply WM
        apply WM
        refine WQ (does_len_sl rfl) ?_
        refine WQ (does_int rfl rfl rfl) ?_
        apply W_nil
        refine E_keep [10, 13, 79] [] ?_
        (try dsimp)
        refine E_cond rfl (fun hc30 => ?_) (fun hc30 => ?_)
        ·replace h := of_ct h hc30
         apply E_skip
         refine E_keep [10, 13] [] ?_
         (try dsimp)
         apply E_seq
         apply E_block
         apply E_seq
         apply E_ops
         apply WM
         apply WM
         obtain ⟨g31, h⟩ := of_gd h
         refine WQ (does_idx_sl rfl rfl g31.1 g31.2) ?_
         refine WQ (does_add_psl rfl) ?_
         refine WQ (does_load1_slF (k := 10) rfl (fun _ => rfl) g31 0 rfl rfl) ?_
         refine WQ (does_int rfl rfl rfl) ?_
         apply WM
         apply W_lazy
         ·rfl
         ·intro hB; (try simp only [hB, bss, ctt]); exact does_mv rfl
         apply W_lazy
         ·rfl
         ·intro hB; (try simp only [hB, bss, ctt]); exact does_mv rfl
         obtain ⟨g32, h⟩ := of_gd h
         apply W_lazy
         ·rfl
         ·intro hB; (try simp only [hB, bss, ctt]); exact does_idx_sl rfl rfl (g32 hB).1 (g32 hB).2
         apply W_lazy
         ·rfl
         ·intro hB; (try simp only [hB, bss, ctt]); exact does_add_psl rfl
         apply W_lazy
         ·rfl
         ·intro hB; (try simp only [hB, bss, ctt]); exact does_load1_slF (k := 10) rfl (fun _ => rfl) (g32 hB) 1 rfl rfl
         apply W_lazy
         ·rfl
         ·intro hB; (try simp only [hB, bss, ctt]); exact does_int rfl rfl rfl
         refine WQ (does_or rfl rfl rfl) ?_
         apply W_nil
         refine E_keep [10, 13, 95] [] ?_
         (try dsimp)
         refine E_cond rfl (fun hc33 => ?_) (fun hc33 => ?_)
         ·replace h := of_ct h hc33
          apply E_seq
          apply E_ops
          apply WM
          apply W_nil
          refine E_keep [4] [] ?_
          (try dsimp)
          apply E_ret
          cases h
          (try simp only [qt, qb, qn])
          refine fin_mk (xs := _) ⟨_, rfl, rfl⟩ ?_
          rfl
         ·replace h := of_cf h hc33
          apply E_skip
          refine E_keep [10, 13] [] ?_
          (try dsimp)
          apply E_ops
          apply WM
          obtain ⟨g34, h⟩ := of_gd h
          refine WQ (does_add rfl rfl g34.1 g34.2) ?_
          apply WM
          apply W_nil
          refine ⟨n29, (v28 + (1 : Int)), Nat.lt_succ_self _, h, ?_⟩
          exact (Le.b (le_mk ⟨rfl, rfl, trivial⟩ trivial))
        ·replace h := of_cf h hc30
         apply E_exit
         refine ⟨(), h, ?_⟩
         exact (Le.b (le_mk trivial trivial))
end Go.V.P
