/- Walks: each function does what its model says: reeve/boot.steps, (*reeve/nvm.Mem).may, slices.Index[[]int,int], slices.Contains[[]int,int], (*reeve/row.Row).Evict, (*reeve/row.Row).Fall, (*reeve/nvm.Mem).Crash, (*reeve/nvm.Mem).burn, reeve/row.in, (*reeve/row.Row).Store, (*reeve/nvm.Mem).Store, slices.Sort[[]int,int], slices.Compact[[]int,int], reeve/wset.Rows, (*reeve/row.Row).Flush, (*reeve/nvm.Mem).Flush, (*reeve/row.Row).Fence, (*reeve/nvm.Mem).Fence, reeve/boot.last, reeve/gear.New, reeve/boot.Boot, (*reeve/gear.Gear).may. Printed by mg.py. No premises. -/
import Derived.Test.YteocabneaenpeaaGreatP4
set_option linter.unusedVariables false
set_option linter.unusedSimpArgs false
set_option maxRecDepth 20000
set_option maxHeartbeats 4000000
namespace Go.V.P
open Go.V Go.Proofs
/- reeve/boot.steps -/
def c_boot_steps : VCode := (.seq (.ops [(o (.box 97 (t 0)) 1), (o (.mv cn) 2)]) (.seq (.ops [(o (.add 0 (t 1)) 10), (o (.add 0 (t 10)) 11), (o (.load true 3 (t 11)) 12), (o (.newv [zi, zi, zi]) 3), (n_ (.store 3 (t 3) (t 12)))]) (.seq (.ops [(o (.mv cn) 4)]) (.seq (.ops [(o (.mv cn) 5)]) (.seq (.seq (.ops [(o (.add 5 (t 1)) 13), (o (.load false 1 (t 13)) 14), (o (.len false (t 14)) 15), (o (.mv (ci 0)) 16)]) (.block 0 (.loop (.seq (.ops [(o (.bin .lss 3 (t 16) (t 15)) 17)]) (.seq (.cond (t 17) .skip (.exit 0)) (.seq (.block 1 (.seq (.ops [(w 18 16), (o (.idxS 10 (t 14) (t 16)) 19), (o (.load true 10 (t 19)) 20), (o (.newv [zi, zu, zu, zu, zu, zu, zi, zu, zi, .nil]) 7), (w 6 18), (n_ (.store 10 (t 7) (t 20)))]) (.seq (.ops [(o (.load true 3 (t 3)) 22), (w 23 6), (o (.call 30 [(t 22), (t 23)]) 24), (w 21 24), (o (.ext 0 (t 21)) 25), (o (.ext 1 (t 21)) 26), (w 8 25), (w 9 26)]) (.seq (.seq (.ops [(o (.add 0 (t 7)) 27), (o (.load false 1 (t 27)) 28), (o (.bin .eql 3 (t 28) (ci 2)) 29)]) (.cond (t 29) (.ops [(w 30 4), (o (.add 9 (t 7)) 31), (o (.load false 1 (t 31)) 32), (o (.bslice 1 55 1 [.nil] [(0, (1, (t 32)))]) 33), (o (.app 100 55 1 24 (t 30) (t 33)) 34), (w 4 34)]) .skip)) (.seq (.seq (.ops [(o (.add 0 (t 7)) 35), (o (.load false 1 (t 35)) 36), (o (.bin .eql 3 (t 36) (ci 1)) 37)]) (.cond (t 37) (.ops [(w 38 5), (w 39 8), (o (.bin .add 3 (t 39) (ci 5)) 40), (o (.build [zi, zu] [(0, (1, (t 40)))]) 41), (w 42 8), (o (.bin .add 3 (t 42) (ci 6)) 43), (o (.build [zi, zu] [(0, (1, (t 43)))]) 44), (o (.bslice 2 154 2 [zi, zu, zi, zu] [(0, (2, (t 41))), (2, (2, (t 44)))]) 45), (o (.app 55 154 2 16 (t 38) (t 45)) 46), (w 5 46)]) .skip)) (.ops [(w 47 5), (w 48 8), (o (.load true 10 (t 7)) 49), (o (.call 40 [(t 49)]) 50), (o (.call 65 [(t 50)]) 51), (o (.build [zi, zu] [(0, (1, (t 48))), (1, (1, (t 51)))]) 52), (o (.bslice 2 154 1 [zi, zu] [(0, (2, (t 52)))]) 53), (o (.app 55 154 2 16 (t 47) (t 53)) 54), (w 5 54)])))))) (.ops [(o (.bin .add 3 (t 16) (ci 1)) 55), (w 16 55)]))))))) (.seq (.ops [(w 56 4), (w 57 5), (o (.load true 3 (t 3)) 58), (o (.call 69 [(t 58)]) 59), (o (.build [zi, zu] [(0, (1, (t 59)))]) 60), (o (.bslice 2 154 1 [zi, zu] [(0, (2, (t 60)))]) 61), (o (.bslice 1 55 2 [.nil, .nil] [(0, (1, (t 57))), (1, (1, (t 61)))]) 62), (o (.app 100 55 1 24 (t 56) (t 62)) 63), (w 4 63)]) (.seq (.seq (.ops [(o (.add 7 (t 1)) 64), (o (.load false 1 (t 64)) 65)]) (.cond (t 65) (.seq (.draw [((w 66 4), []), ((o (.load true 8 (t 1)) 67), []), ((o (.load true 3 (t 3)) 68), []), ((o (.call 58 [(t 68)]) 69), [2]), ((o (.call 70 [(t 67), (t 69)]) 70), [1, 3, 3]), ((o (.load true 8 (t 1)) 71), []), ((o (.call 70 [(t 71), (ci 0)]) 72), [5, 4]), ((o (.bslice 1 55 2 [.nil, .nil] [(0, (1, (t 70))), (1, (1, (t 72)))]) 73), [4, 6]), ((o (.app 100 55 1 24 (t 66) (t 73)) 74), [0, 7, 6]), ((w 2 74), [8, 8, 0, 1, 2, 3, 4, 5, 6, 7, 8])]) .ret) .skip)) (.seq (.draw [((w 75 4), []), ((o (.load true 8 (t 1)) 76), []), ((o (.call 70 [(t 76), (ci 0)]) 77), [1]), ((o (.load true 8 (t 1)) 78), []), ((o (.load true 3 (t 3)) 79), []), ((o (.call 58 [(t 79)]) 80), [4, 2]), ((o (.call 70 [(t 78), (t 80)]) 81), [3, 5, 5]), ((o (.bslice 1 55 2 [.nil, .nil] [(0, (1, (t 77))), (1, (1, (t 81)))]) 82), [2, 6]), ((o (.app 100 55 1 24 (t 75) (t 82)) 83), [0, 7, 6]), ((w 2 83), [8, 8, 0, 1, 2, 3, 4, 5, 6, 7, 8])]) .ret))))))))
theorem f_boot_steps : Fits Tryz.prog 34 1 c_boot_steps [(.tmp 2)] := fits_mk Tryz.func34 (by kernel_rfl) (by kernel_rfl) (by kernel_rfl)
theorem p_boot_steps (F : Nat) (a0 : S_boot_plan) (r : (List (List S_wset_Write))) (h : m_boot_steps F a0 = some r) : PC Tryz.prog 34 [S.agg [.v (.int .i64 a0.xs.xGeo.xThreads), .v (.int .i64 a0.xs.xGeo.xSlots), .v (.int .i64 a0.xs.xGeo.xThings), .sl (flat e_S_state_Slot a0.xs.xSlots) a0.xs.xSlots.length, .sl (flat e_S_thing_Thing a0.xs.xThings) a0.xs.xThings.length, .sl (flat e_S_opd_Desc a0.xwas) a0.xwas.length, .v (.int .u64 a0.xboot), .v (.bool a0.xfirst)]] (S.one (.sl (flat e_L_S_wset_Write r) r.length)) := by
 unfold m_boot_steps at h
 refine PC_go f_boot_steps rfl rfl ?_
 intro C hP
 unfold c_boot_steps; dsimp
 apply E_seq
 apply E_ops
 refine W1 (does_box rfl rfl rfl rfl) ?_
 apply WM
 apply W_nil
 refine E_keep [1] [1] ?_
 (try dsimp)
 apply E_seq
 apply E_ops
 refine WQ (does_add_ptr rfl rfl) ?_
 refine WQ (does_add_ptr rfl rfl) ?_
 refine WQ (does_loadA_ptr rfl rfl rfl rfl (by decide)) ?_
 refine W1 (does_newv rfl rfl) ?_
 refine W1 (does_store rfl rfl rfl rfl rfl (Nat.le_of_ble_eq_true rfl) rfl (by decide)) ?_
 apply W_nil
 refine E_keep [1, 3] [1, 3] ?_
 (try dsimp)
 apply E_seq
 apply E_ops
 apply WM
 apply W_nil
 (try dsimp)
 apply E_seq
 apply E_ops
 apply WM
 apply W_nil
 (try dsimp)
 obtain ⟨k3, k3d, h⟩ := of_jn h
 refine E_seqJ (α := (List S_wset_Write) × (List (List S_wset_Write))) (fun (i : (List S_wset_Write) × (List (List S_wset_Write))) => (⟨[(1, S.one (.ptr 1 0)), (3, S.one (.ptr 3 0)), (4, S.one (.own 1034 0 i.2.length (some (1, 55)))), (5, S.one (.own 1046 0 i.1.length (some (2, 154))))], [(1, (⟨true, [.v (.int .i64 a0.xs.xGeo.xThreads), .v (.int .i64 a0.xs.xGeo.xSlots), .v (.int .i64 a0.xs.xGeo.xThings), .sl (flat e_S_state_Slot a0.xs.xSlots) a0.xs.xSlots.length, .sl (flat e_S_thing_Thing a0.xs.xThings) a0.xs.xThings.length, .sl (flat e_S_opd_Desc a0.xwas) a0.xwas.length, .v (.int .u64 a0.xboot), .v (.bool a0.xfirst)]⟩ : Reg)), (3, (⟨true, [.v (.int .i64 a0.xs.xGeo.xThreads), .v (.int .i64 a0.xs.xGeo.xSlots), .v (.int .i64 a0.xs.xGeo.xThings)]⟩ : Reg)), (1034, (⟨true, flat e_L_S_wset_Write i.2⟩ : Reg)), (1046, (⟨true, flat e_S_wset_Write i.1⟩ : Reg))]⟩ : St)) (fun i => k3 i.1 i.2 = some r) (fun i h => ?_) ?_
 ·obtain ⟨v1, v2⟩ := i
  rw [k3d] at h; dsimp only at h
  (try dsimp)
  apply E_seq
  apply E_ops
  apply WM
  apply WM
  refine WQ (does_loadA_ptr rfl rfl rfl rfl (by decide)) ?_
  obtain ⟨x4, x4h, h⟩ := of_bind h
  refine W1 (does_call1 hP (p_geo_Lock F a0.xs.xGeo x4 x4h) rfl rfl rfl) ?_
  refine WQ (does_build rfl rfl) ?_
  refine W1 (does_bslice rfl rfl rfl rfl) ?_
  refine W1 (does_bslice rfl rfl rfl rfl) ?_
  obtain ⟨g5, h⟩ := of_gd h
  obtain ⟨g6, h⟩ := of_gd h
  obtain ⟨g7, h⟩ := of_gd h
  refine W1 (Does.ghost (Le_frz (r := 1046) rfl rfl).b (Does.ghost (Le_reg (r := 61) (g' := (⟨true, flat e_S_wset_Write ([(⟨x4, (0 : Int)⟩ : S_wset_Write)] : List S_wset_Write)⟩ : Reg)) rfl rfl).b (Does.ghost (Le_ownlen (i := 61) _ rfl g5).b (Does.ghost (Le_reg (r := 62) rfl (congrArg (fun n_ => (⟨false, [.sl (flat e_S_wset_Write v1) v1.length, .own 61 0 n_ (some (2, 154))]⟩ : Reg)) g6)).b (Does.ghost (Le_frz (r := 61) rfl rfl).b (does_appF (e := e_L_S_wset_Write) rfl rfl (fun _ => rfl) (fun _ => rfl) rfl (Src.lit (e := e_L_S_wset_Write) ([v1, ([(⟨x4, (0 : Int)⟩ : S_wset_Write)] : List S_wset_Write)] : List (List S_wset_Write)) rfl (fun _ => rfl) rfl rfl) g7 rfl)))))) ?_
  apply WM
  apply W_nil
  refine E_keep [1, 3, 4] [1, 3, 1034] ?_
  (try dsimp)
  apply E_seq
  apply E_seq
  apply E_ops
  refine WQ (does_add_ptr rfl rfl) ?_
  refine WQ (does_load1_ptr rfl rfl rfl) ?_
  apply W_nil
  refine E_keep [1, 3, 4, 65] [1, 3, 1034] ?_
  (try dsimp)
  refine E_cond rfl (fun hc8 => ?_) (fun hc8 => ?_)
  ·replace h := of_ct h hc8
   apply E_seq
   obtain ⟨x9, x9h, h⟩ := of_bind h
   obtain ⟨x10, x10h, h⟩ := of_bind h
   obtain ⟨x11, x11h, h⟩ := of_bind h
   obtain ⟨g12, h⟩ := of_gd h
   refine E_draw [0, 1, 2, 5] ?_
   refine XQ 0 rfl rfl rfl (does_mv rfl) ?_
   refine XQ 1 rfl rfl rfl (does_loadA_ptr rfl rfl rfl rfl (by decide)) ?_
   refine XQ 2 rfl rfl rfl (does_loadA_ptr rfl rfl rfl rfl (by decide)) ?_
   refine XQ 5 rfl rfl rfl (does_loadA_ptr rfl rfl rfl rfl (by decide)) ?_
   refine X1 rfl (XK rfl (does_call1 hP (p_geo_Copy F a0.xs.xGeo x9 x9h) rfl rfl rfl) ?_)
   refine X1 rfl (XK rfl (does_call1 hP (p_boot_block F a0 x9 x10 x10h) rfl rfl rfl) ?_)
   refine X1 rfl (XK rfl (does_call1 hP (p_boot_block F a0 (0 : Int) x11 x11h) rfl rfl rfl) ?_)
   refine X1 rfl (XK rfl (does_bslice rfl rfl rfl rfl) ?_)
   refine X1 rfl (XT rfl rfl (does_appF (e := e_L_S_wset_Write) rfl rfl (fun _ => rfl) (fun _ => rfl) rfl (Src.lit (e := e_L_S_wset_Write) ([x10, x11] : List (List S_wset_Write)) rfl (fun _ => rfl) rfl rfl) g12 rfl) ?_)
   refine X1 rfl (XT rfl rfl ((does_mv rfl).does) ?_)
   refine X_nil rfl ?_
   refine E_keep [2] [1034] ?_
   (try dsimp)
   refine E_ghost (Le_frz (r := 1034) rfl rfl).b ?_
   (try dsimp)
   apply E_ret
   cases h
   (try simp only [qt, qb, qn])
   refine fin_mk (xs := _) ⟨_, rfl, rfl⟩ ?_
   rfl
  ·replace h := of_cf h hc8
   apply E_skip
   refine E_keep [1, 3, 4] [1, 3, 1034] ?_
   (try dsimp)
   apply E_seq
   obtain ⟨x13, x13h, h⟩ := of_bind h
   obtain ⟨x14, x14h, h⟩ := of_bind h
   obtain ⟨x15, x15h, h⟩ := of_bind h
   obtain ⟨g16, h⟩ := of_gd h
   refine E_draw [0, 1, 3, 4] ?_
   refine XQ 0 rfl rfl rfl (does_mv rfl) ?_
   refine XQ 1 rfl rfl rfl (does_loadA_ptr rfl rfl rfl rfl (by decide)) ?_
   refine XQ 3 rfl rfl rfl (does_loadA_ptr rfl rfl rfl rfl (by decide)) ?_
   refine XQ 4 rfl rfl rfl (does_loadA_ptr rfl rfl rfl rfl (by decide)) ?_
   refine X1 rfl (XK rfl (does_call1 hP (p_boot_block F a0 (0 : Int) x13 x13h) rfl rfl rfl) ?_)
   refine X1 rfl (XK rfl (does_call1 hP (p_geo_Copy F a0.xs.xGeo x14 x14h) rfl rfl rfl) ?_)
   refine X1 rfl (XK rfl (does_call1 hP (p_boot_block F a0 x14 x15 x15h) rfl rfl rfl) ?_)
   refine X1 rfl (XK rfl (does_bslice rfl rfl rfl rfl) ?_)
   refine X1 rfl (XT rfl rfl (does_appF (e := e_L_S_wset_Write) rfl rfl (fun _ => rfl) (fun _ => rfl) rfl (Src.lit (e := e_L_S_wset_Write) ([x13, x15] : List (List S_wset_Write)) rfl (fun _ => rfl) rfl rfl) g16 rfl) ?_)
   refine X1 rfl (XT rfl rfl ((does_mv rfl).does) ?_)
   refine X_nil rfl ?_
   refine E_keep [2] [1034] ?_
   (try dsimp)
   refine E_ghost (Le_frz (r := 1034) rfl rfl).b ?_
   (try dsimp)
   apply E_ret
   cases h
   (try simp only [qt, qb, qn])
   refine fin_mk (xs := _) ⟨_, rfl, rfl⟩ ?_
   rfl
 ·
  skip
  apply E_seq
  apply E_ops
  refine WQ (does_add_ptr rfl rfl) ?_
  refine WQ (does_load1_ptr rfl rfl rfl) ?_
  refine WQ (does_len_sl rfl) ?_
  apply WM
  apply W_nil
  refine E_keep [1, 3, 4, 5, 14, 15, 16] [1, 3] ?_
  (try dsimp)
  apply E_block
  (try dsimp)
  refine E_loopB (α := Int × (List S_wset_Write) × (List (List S_wset_Write))) (fun (i : Int × (List S_wset_Write) × (List (List S_wset_Write))) => (⟨[(1, S.one (.ptr 1 0)), (3, S.one (.ptr 3 0)), (4, S.one (.own 1034 0 i.2.2.length (some (1, 55)))), (5, S.one (.own 1046 0 i.2.1.length (some (2, 154)))), (14, S.one (.sl (flat e_S_opd_Desc a0.xwas) a0.xwas.length)), (15, S.one (.v (.int .i64 ((a0.xwas.length : Nat) : Int)))), (16, S.one (.v (.int .i64 i.1)))], [(1, (⟨true, [.v (.int .i64 a0.xs.xGeo.xThreads), .v (.int .i64 a0.xs.xGeo.xSlots), .v (.int .i64 a0.xs.xGeo.xThings), .sl (flat e_S_state_Slot a0.xs.xSlots) a0.xs.xSlots.length, .sl (flat e_S_thing_Thing a0.xs.xThings) a0.xs.xThings.length, .sl (flat e_S_opd_Desc a0.xwas) a0.xwas.length, .v (.int .u64 a0.xboot), .v (.bool a0.xfirst)]⟩ : Reg)), (3, (⟨true, [.v (.int .i64 a0.xs.xGeo.xThreads), .v (.int .i64 a0.xs.xGeo.xSlots), .v (.int .i64 a0.xs.xGeo.xThings)]⟩ : Reg)), (1034, (⟨true, flat e_L_S_wset_Write i.2.2⟩ : Reg)), (1046, (⟨true, flat e_S_wset_Write i.2.1⟩ : Reg))]⟩ : St)) (fun n i => m_boot_steps_l0 F a0 k3 n i.1 i.2.1 i.2.2 = some r) F ((0 : Int), ([] : List S_wset_Write), ([] : List (List S_wset_Write))) h ?_ (fun n i h => ?_)
  ·
   refine LeB_trans (LeB_nilown (i := 4) (r := 1034) 1 55 rfl rfl) ?_
   refine LeB_trans (LeB_nilown (i := 5) (r := 1046) 2 154 rfl rfl) ?_
   exact (Le.b (le_mk ⟨rfl, rfl, rfl, rfl, rfl, rfl, rfl, trivial⟩ ⟨rfl, rfl, rfl, rfl, trivial⟩))
  obtain ⟨v54, v55, v56⟩ := i; dsimp only at h
  cases n with
  | zero => cases h
  | succ n57 =>
   unfold m_boot_steps_l0 at h
   (try dsimp)
   apply E_seq
   apply E_ops
   refine WQ (does_int rfl rfl rfl) ?_
   apply W_nil
   (try dsimp)
   apply E_seq
   refine E_cond rfl (fun hc58 => ?_) (fun hc58 => ?_)
   ·replace h := of_ct h hc58
    apply E_skip
    refine E_keep [1, 3, 4, 5, 14, 15, 16] [1, 3, 1034, 1046] ?_
    (try dsimp)
    apply E_seq
    apply E_block
    apply E_seq
    apply E_ops
    apply WM
    obtain ⟨g59, h⟩ := of_gd h
    refine WQ (does_idx_sl rfl rfl g59.1 g59.2) ?_
    refine WQ (does_loadA_slF (k := 10) rfl (fun _ => rfl) g59 0 rfl rfl rfl) ?_
    refine W1 (does_newv rfl rfl) ?_
    apply WM
    refine W1 (does_store rfl rfl rfl rfl rfl (Nat.le_of_ble_eq_true rfl) rfl (by decide)) ?_
    apply W_nil
    refine E_keep [1, 3, 4, 5, 6, 7, 14, 15, 16] [1, 3, 7, 1034, 1046] ?_
    (try dsimp)
    apply E_seq
    apply E_ops
    refine WQ (does_loadA_ptr rfl rfl rfl rfl (by decide)) ?_
    apply WM
    obtain ⟨x60, x60h, h⟩ := of_bind h
    refine W1 (does_call1 hP (p_geo_Desc F a0.xs.xGeo v54 x60 x60h) rfl rfl rfl) ?_
    apply WM
    refine WQ (does_ext rfl rfl) ?_
    refine WQ (does_ext rfl rfl) ?_
    apply WM
    apply WM
    apply W_nil
    refine E_keep [1, 3, 4, 5, 7, 8, 14, 15, 16] [1, 3, 7, 1034, 1046] ?_
    (try dsimp)
    obtain ⟨k62, k62d, h⟩ := of_jn h
    refine E_seqJ (α := (List (List S_wset_Write))) (fun (i : (List (List S_wset_Write))) => (⟨[(1, S.one (.ptr 1 0)), (3, S.one (.ptr 3 0)), (4, S.one (.own 1034 0 i.length (some (1, 55)))), (5, S.one (.own 1046 0 v55.length (some (2, 154)))), (7, S.one (.ptr 7 0)), (8, S.one (.v (.int .i64 x60.1))), (14, S.one (.sl (flat e_S_opd_Desc a0.xwas) a0.xwas.length)), (15, S.one (.v (.int .i64 ((a0.xwas.length : Nat) : Int)))), (16, S.one (.v (.int .i64 v54)))], [(1, (⟨true, [.v (.int .i64 a0.xs.xGeo.xThreads), .v (.int .i64 a0.xs.xGeo.xSlots), .v (.int .i64 a0.xs.xGeo.xThings), .sl (flat e_S_state_Slot a0.xs.xSlots) a0.xs.xSlots.length, .sl (flat e_S_thing_Thing a0.xs.xThings) a0.xs.xThings.length, .sl (flat e_S_opd_Desc a0.xwas) a0.xwas.length, .v (.int .u64 a0.xboot), .v (.bool a0.xfirst)]⟩ : Reg)), (3, (⟨true, [.v (.int .i64 a0.xs.xGeo.xThreads), .v (.int .i64 a0.xs.xGeo.xSlots), .v (.int .i64 a0.xs.xGeo.xThings)]⟩ : Reg)), (7, (⟨true, [.v (.int .i64 (nth a0.xwas v54).xStatus), .v (.int .u64 (nth a0.xwas v54).xSeq), .v (.int .u64 (nth a0.xwas v54).xL.c0), .v (.int .u64 (nth a0.xwas v54).xL.c1), .v (.int .u64 (nth a0.xwas v54).xL.c2), .v (.int .u64 (nth a0.xwas v54).xL.c3), .v (.int .i64 (nth a0.xwas v54).xReply.xErr), .v (.int .u64 (nth a0.xwas v54).xReply.xW), .v (.int .i64 (nth a0.xwas v54).xReply.xN), .sl (flat e_S_wset_Write (nth a0.xwas v54).xW) (nth a0.xwas v54).xW.length]⟩ : Reg)), (1034, (⟨true, flat e_L_S_wset_Write i⟩ : Reg)), (1046, (⟨true, flat e_S_wset_Write v55⟩ : Reg))]⟩ : St)) (fun i => k62 i = some r) (fun i h => ?_) ?_
    ·let iv := i; change k62 i = some r at h; generalize i = v61 at h ⊢
     rw [k62d] at h; dsimp only at h
     (try dsimp)
     obtain ⟨k64, k64d, h⟩ := of_jn h
     refine E_seqJ (α := (List S_wset_Write)) (fun (i : (List S_wset_Write)) => (⟨[(1, S.one (.ptr 1 0)), (3, S.one (.ptr 3 0)), (4, S.one (.own 1034 0 v61.length (some (1, 55)))), (5, S.one (.own 1046 0 i.length (some (2, 154)))), (7, S.one (.ptr 7 0)), (8, S.one (.v (.int .i64 x60.1))), (14, S.one (.sl (flat e_S_opd_Desc a0.xwas) a0.xwas.length)), (15, S.one (.v (.int .i64 ((a0.xwas.length : Nat) : Int)))), (16, S.one (.v (.int .i64 v54)))], [(1, (⟨true, [.v (.int .i64 a0.xs.xGeo.xThreads), .v (.int .i64 a0.xs.xGeo.xSlots), .v (.int .i64 a0.xs.xGeo.xThings), .sl (flat e_S_state_Slot a0.xs.xSlots) a0.xs.xSlots.length, .sl (flat e_S_thing_Thing a0.xs.xThings) a0.xs.xThings.length, .sl (flat e_S_opd_Desc a0.xwas) a0.xwas.length, .v (.int .u64 a0.xboot), .v (.bool a0.xfirst)]⟩ : Reg)), (3, (⟨true, [.v (.int .i64 a0.xs.xGeo.xThreads), .v (.int .i64 a0.xs.xGeo.xSlots), .v (.int .i64 a0.xs.xGeo.xThings)]⟩ : Reg)), (7, (⟨true, [.v (.int .i64 (nth a0.xwas v54).xStatus), .v (.int .u64 (nth a0.xwas v54).xSeq), .v (.int .u64 (nth a0.xwas v54).xL.c0), .v (.int .u64 (nth a0.xwas v54).xL.c1), .v (.int .u64 (nth a0.xwas v54).xL.c2), .v (.int .u64 (nth a0.xwas v54).xL.c3), .v (.int .i64 (nth a0.xwas v54).xReply.xErr), .v (.int .u64 (nth a0.xwas v54).xReply.xW), .v (.int .i64 (nth a0.xwas v54).xReply.xN), .sl (flat e_S_wset_Write (nth a0.xwas v54).xW) (nth a0.xwas v54).xW.length]⟩ : Reg)), (1034, (⟨true, flat e_L_S_wset_Write v61⟩ : Reg)), (1046, (⟨true, flat e_S_wset_Write i⟩ : Reg))]⟩ : St)) (fun i => k64 i = some r) (fun i h => ?_) ?_
     ·let iv := i; change k64 i = some r at h; generalize i = v63 at h ⊢
      rw [k64d] at h; dsimp only at h
      (try dsimp)
      apply E_ops
      apply WM
      apply WM
      refine WQ (does_loadA_ptr rfl rfl rfl rfl (by decide)) ?_
      obtain ⟨x65, x65h, h⟩ := of_bind h
      refine W1 (does_call1 hP (p_boot_then F (nth a0.xwas v54) x65 x65h) rfl rfl rfl) ?_
      obtain ⟨x66, x66h, h⟩ := of_bind h
      refine W1 (does_call1 hP (p_opd_First F x65 x66 x66h) rfl rfl rfl) ?_
      refine WQ (does_build rfl rfl) ?_
      refine W1 (does_bslice rfl rfl rfl rfl) ?_
      obtain ⟨g67, h⟩ := of_gd h
      refine W1 (does_appF (e := e_S_wset_Write) rfl rfl (fun _ => rfl) (fun _ => rfl) rfl (Src.lit (e := e_S_wset_Write) ([(⟨x60.1, x66⟩ : S_wset_Write)] : List S_wset_Write) rfl (fun _ => rfl) rfl rfl) g67 rfl) ?_
      apply WM
      apply W_nil
      refine E_keep [1, 3, 4, 5, 14, 15, 16] [1, 3, 1034, 1046] ?_
      (try dsimp)
      apply E_ops
      obtain ⟨g68, h⟩ := of_gd h
      refine WQ (does_add rfl rfl g68.1 g68.2) ?_
      apply WM
      apply W_nil
      refine ⟨n57, ((v54 + (1 : Int)), (v63 ++ ([(⟨x60.1, x66⟩ : S_wset_Write)] : List S_wset_Write)), v61), Nat.lt_succ_self _, h, ?_⟩
      exact (Le.b (le_mk ⟨rfl, rfl, rfl, rfl, rfl, rfl, rfl, trivial⟩ ⟨rfl, rfl, rfl, rfl, trivial⟩))
     ·
      skip
      apply E_seq
      apply E_ops
      refine WQ (does_add_ptr rfl rfl) ?_
      refine WQ (does_load1_ptr rfl rfl rfl) ?_
      refine WQ (does_int rfl rfl rfl) ?_
      apply W_nil
      refine E_keep [1, 3, 4, 5, 7, 8, 14, 15, 16, 37] [1, 3, 7, 1034, 1046] ?_
      (try dsimp)
      refine E_cond rfl (fun hc69 => ?_) (fun hc69 => ?_)
      ·replace h := of_ct h hc69
       apply E_ops
       apply WM
       apply WM
       obtain ⟨g70, h⟩ := of_gd h
       refine WQ (does_add rfl rfl g70.1 g70.2) ?_
       refine WQ (does_build rfl rfl) ?_
       apply WM
       obtain ⟨g71, h⟩ := of_gd h
       refine WQ (does_add rfl rfl g71.1 g71.2) ?_
       refine WQ (does_build rfl rfl) ?_
       refine W1 (does_bslice rfl rfl rfl rfl) ?_
       obtain ⟨g72, h⟩ := of_gd h
       refine W1 (does_appF (e := e_S_wset_Write) rfl rfl (fun _ => rfl) (fun _ => rfl) rfl (Src.lit (e := e_S_wset_Write) ([(⟨(x60.1 + (5 : Int)), (0 : Int)⟩ : S_wset_Write), (⟨(x60.1 + (6 : Int)), (0 : Int)⟩ : S_wset_Write)] : List S_wset_Write) rfl (fun _ => rfl) rfl rfl) g72 rfl) ?_
       apply WM
       apply W_nil
       refine ⟨(v55 ++ ([(⟨(x60.1 + (5 : Int)), (0 : Int)⟩ : S_wset_Write), (⟨(x60.1 + (6 : Int)), (0 : Int)⟩ : S_wset_Write)] : List S_wset_Write)), h, ?_⟩
       exact (Le.b (le_mk ⟨rfl, rfl, rfl, rfl, rfl, rfl, rfl, rfl, rfl, trivial⟩ ⟨rfl, rfl, rfl, rfl, rfl, trivial⟩))
      ·replace h := of_cf h hc69
       apply E_skip
       refine ⟨v55, h, ?_⟩
       exact (Le.b (le_mk ⟨rfl, rfl, rfl, rfl, rfl, rfl, rfl, rfl, rfl, trivial⟩ ⟨rfl, rfl, rfl, rfl, rfl, trivial⟩))
    ·
     skip
     apply E_seq
     apply E_ops
     refine WQ (does_add_ptr rfl rfl) ?_
     refine WQ (does_load1_ptr rfl rfl rfl) ?_
     refine WQ (does_int rfl rfl rfl) ?_
     apply W_nil
     refine E_keep [1, 3, 4, 5, 7, 8, 14, 15, 16, 29] [1, 3, 7, 1034, 1046] ?_
     (try dsimp)
     refine E_cond rfl (fun hc73 => ?_) (fun hc73 => ?_)
     ·replace h := of_ct h hc73
      apply E_ops
      apply WM
      refine WQ (does_add_ptr rfl rfl) ?_
      refine WQ (does_load1_ptr rfl rfl rfl) ?_
      refine W1 (does_bslice rfl rfl rfl rfl) ?_
      obtain ⟨g74, h⟩ := of_gd h
      refine W1 (does_appF (e := e_L_S_wset_Write) rfl rfl (fun _ => rfl) (fun _ => rfl) rfl (Src.lit (e := e_L_S_wset_Write) ([(nth a0.xwas v54).xW] : List (List S_wset_Write)) rfl (fun _ => rfl) rfl rfl) g74 rfl) ?_
      apply WM
      apply W_nil
      refine ⟨(v56 ++ ([(nth a0.xwas v54).xW] : List (List S_wset_Write))), h, ?_⟩
      exact (Le.b (le_mk ⟨rfl, rfl, rfl, rfl, rfl, rfl, rfl, rfl, rfl, trivial⟩ ⟨rfl, rfl, rfl, rfl, rfl, trivial⟩))
     ·replace h := of_cf h hc73
      apply E_skip
      refine ⟨v56, h, ?_⟩
      exact (Le.b (le_mk ⟨rfl, rfl, rfl, rfl, rfl, rfl, rfl, rfl, rfl, trivial⟩ ⟨rfl, rfl, rfl, rfl, rfl, trivial⟩))
   ·replace h := of_cf h hc58
    apply E_exit
    refine ⟨(v55, v56), h, ?_⟩
    exact (Le.b (le_mk ⟨rfl, rfl, rfl, rfl, trivial⟩ ⟨rfl, rfl, rfl, rfl, trivial⟩))
/- (*reeve/nvm.Mem).may -/
def c_nvm_Mem_may : VCode := (.seq (.ops [(o (.mv (ci 0)) 6)]) (.seq (.block 0 (.seq (.ops [(w 8 0), (o (.nilchk (t 8)) 9), (o (.add 1 (t 9)) 10), (o (.load false 1 (t 10)) 11), (w 7 11)]) (.cond (t 7) (.seq (.ops [(o (.mv (ci 12)) 6)]) .ret) (.seq (.ops [(w 13 1), (o (.bin .lss 3 (t 13) (ci 0)) 14), (w 15 14), (g_ (.mv (t 1)) 16 15 false), (g_ (.mv (t 2)) 17 15 false), (g_ (.bin .geq 3 (t 16) (t 17)) 18 15 false), (o (.pick (t 15) (cb true) (t 18)) 19), (w 12 19)]) (.cond (t 12) (.seq (.ops [(o (.mv (ci 1)) 6)]) .ret) .skip))))) (.seq (.ops [(o (.mv (ci 0)) 6)]) .ret)))
theorem f_nvm_Mem_may : Fits Tryz.prog 107 3 c_nvm_Mem_may [(.tmp 6)] := fits_mk Tryz.func107 (by kernel_rfl) (by kernel_rfl) (by kernel_rfl)
theorem p_nvm_Mem_may (F : Nat) (a0 : S_nvm_Mem) (a1 : Int) (a2 : Int) (r : Int) (h : m_nvm_Mem_may F a0 a1 a2 = some r) : AC Tryz.prog 107 [S.one (.ptr 100900 0), S.one (.v (.int .i64 a1)), S.one (.v (.int .i64 a2))] [(100900, (⟨false, [.own 100901 0 a0.xl.length (some (18, 86)), .v (.bool a0.xoff), .v (.int .i64 a0.xcount), .v (.int .i64 a0.xfuse), .sl (flat e_i_i64 a0.xkeep) a0.xkeep.length]⟩ : Reg)), (100901, (⟨true, flat e_S_row_Row a0.xl⟩ : Reg))] (fun x s' => x = S.one (.v (.int .i64 r)) ∧ leSt s' [(100900, (⟨false, [.own 100901 0 a0.xl.length (some (18, 86)), .v (.bool a0.xoff), .v (.int .i64 a0.xcount), .v (.int .i64 a0.xfuse), .sl (flat e_i_i64 a0.xkeep) a0.xkeep.length]⟩ : Reg)), (100901, (⟨true, flat e_S_row_Row a0.xl⟩ : Reg))]) := by
 unfold m_nvm_Mem_may at h
 refine AC_go f_nvm_Mem_may rfl ?_
 intro C hP
 unfold c_nvm_Mem_may; dsimp
 apply E_seq
 apply E_ops
 apply WM
 apply W_nil
 refine E_keep [0, 1, 2] [100900, 100901] ?_
 (try dsimp)
 apply E_seq
 apply E_block
 apply E_seq
 apply E_ops
 apply WM
 refine WQ (does_nilchk_ptr rfl rfl) ?_
 refine WQ (does_add_ptr rfl rfl) ?_
 refine WQ (does_load1_ptr rfl rfl rfl) ?_
 apply WM
 apply W_nil
 refine E_keep [1, 2, 7] [100900, 100901] ?_
 (try dsimp)
 refine E_cond rfl (fun hc1 => ?_) (fun hc1 => ?_)
 ·replace h := of_ct h hc1
  apply E_seq
  apply E_ops
  apply WM
  apply W_nil
  refine E_keep [6] [100900, 100901] ?_
  (try dsimp)
  apply E_ret
  cases h
  (try simp only [qt, qb, qn])
  refine fin_mk (xs := _) ⟨_, rfl, rfl⟩ ?_
  show _ ∧ _
  exact ⟨rfl, ⟨(by first | rfl | simp [setn_length, cpy_length, sortI_length]), ⟨(by first | rfl | simp [setn_length, cpy_length, sortI_length]), trivial⟩⟩⟩
 ·replace h := of_cf h hc1
  apply E_seq
  apply E_ops
  apply WM
  refine WQ (does_int rfl rfl rfl) ?_
  apply WM
  apply W_lazy
  ·rfl
  ·intro hB; (try simp only [hB, bss, ctt]); exact does_mv rfl
  apply W_lazy
  ·rfl
  ·intro hB; (try simp only [hB, bss, ctt]); exact does_mv rfl
  apply W_lazy
  ·rfl
  ·intro hB; (try simp only [hB, bss, ctt]); exact does_int rfl rfl rfl
  refine WQ (does_or rfl rfl rfl) ?_
  apply WM
  apply W_nil
  refine E_keep [12] [100900, 100901] ?_
  (try dsimp)
  refine E_cond rfl (fun hc2 => ?_) (fun hc2 => ?_)
  ·replace h := of_ct h hc2
   apply E_seq
   apply E_ops
   apply WM
   apply W_nil
   refine E_keep [6] [100900, 100901] ?_
   (try dsimp)
   apply E_ret
   cases h
   (try simp only [qt, qb, qn])
   refine fin_mk (xs := _) ⟨_, rfl, rfl⟩ ?_
   show _ ∧ _
   exact ⟨rfl, ⟨(by first | rfl | simp [setn_length, cpy_length, sortI_length]), ⟨(by first | rfl | simp [setn_length, cpy_length, sortI_length]), trivial⟩⟩⟩
  ·replace h := of_cf h hc2
   apply E_skip
   refine E_keep [] [100900, 100901] ?_
   (try dsimp)
   apply E_seq
   apply E_ops
   apply WM
   apply W_nil
   (try dsimp)
   apply E_ret
   cases h
   (try simp only [qt, qb, qn])
   refine fin_mk (xs := _) ⟨_, rfl, rfl⟩ ?_
   show _ ∧ _
   exact ⟨rfl, ⟨(by first | rfl | simp [setn_length, cpy_length, sortI_length]), ⟨(by first | rfl | simp [setn_length, cpy_length, sortI_length]), trivial⟩⟩⟩
/- slices.Index[[]int,int] -/
def c_slices_Index_int : VCode := (.seq (.ops [(o (.mv (ci 0)) 4)]) (.seq (.seq (.ops [(w 6 0), (o (.len false (t 6)) 7), (o (.mv (ci 0)) 8)]) (.block 0 (.loop (.seq (.ops [(o (.bin .lss 3 (t 8) (t 7)) 9)]) (.seq (.cond (t 9) .skip (.exit 0)) (.seq (.block 1 (.seq (.ops [(w 10 8), (w 5 10)]) (.seq (.ops [(w 11 1), (w 12 0), (w 13 5), (o (.idxS 1 (t 12) (t 13)) 14), (o (.load false 1 (t 14)) 15), (o (.bin .eql 3 (t 11) (t 15)) 16)]) (.cond (t 16) (.seq (.ops [(w 17 5), (w 4 17)]) .ret) .skip)))) (.ops [(o (.bin .add 3 (t 8) (ci 1)) 18), (w 8 18)]))))))) (.seq (.ops [(o (.mv (.const (.int .i64 (-1)))) 4)]) .ret)))
theorem f_slices_Index_int : Fits Tryz.prog 188 2 c_slices_Index_int [(.tmp 4)] := fits_mk Tryz.func188 (by kernel_rfl) (by kernel_rfl) (by kernel_rfl)
theorem p_slices_Index_int (F : Nat) (a0 : (List Int)) (a1 : Int) (r : Int) (h : m_slices_Index_int F a0 a1 = some r) : PC Tryz.prog 188 [S.one (.sl (flat e_i_i64 a0) a0.length), S.one (.v (.int .i64 a1))] (S.one (.v (.int .i64 r))) := by
 unfold m_slices_Index_int at h
 refine PC_go f_slices_Index_int rfl rfl ?_
 intro C hP
 unfold c_slices_Index_int; dsimp
 apply E_seq
 apply E_ops
 apply WM
 apply W_nil
 refine E_keep [0, 1] [] ?_
 (try dsimp)
 obtain ⟨k1, k1d, h⟩ := of_jn h
 refine E_seqJ (α := Unit) (fun (i : Unit) => (⟨[], []⟩ : St)) (fun i => k1 () = some r) (fun i h => ?_) ?_
 ·skip
  rw [k1d] at h; dsimp only at h
  (try dsimp)
  apply E_seq
  apply E_ops
  apply WM
  apply W_nil
  (try dsimp)
  apply E_ret
  cases h
  (try simp only [qt, qb, qn])
  refine fin_mk (xs := _) ⟨_, rfl, rfl⟩ ?_
  rfl
 ·
  skip
  apply E_seq
  apply E_ops
  apply WM
  refine WQ (does_len_sl rfl) ?_
  apply WM
  apply W_nil
  refine E_keep [0, 1, 7, 8] [] ?_
  (try dsimp)
  apply E_block
  (try dsimp)
  refine E_loopB (α := Int) (fun (i : Int) => (⟨[(0, S.one (.sl (flat e_i_i64 a0) a0.length)), (1, S.one (.v (.int .i64 a1))), (7, S.one (.v (.int .i64 ((a0.length : Nat) : Int)))), (8, S.one (.v (.int .i64 i)))], []⟩ : St)) (fun n i => m_slices_Index_int_l0 F a0 a1 k1 n i = some r) F (0 : Int) h ?_ (fun n i h => ?_)
  ·
   exact (Le.b (le_mk ⟨rfl, rfl, rfl, rfl, trivial⟩ trivial))
  generalize i = v11 at h ⊢
  cases n with
  | zero => cases h
  | succ n12 =>
   unfold m_slices_Index_int_l0 at h
   (try dsimp)
   apply E_seq
   apply E_ops
   refine WQ (does_int rfl rfl rfl) ?_
   apply W_nil
   (try dsimp)
   apply E_seq
   refine E_cond rfl (fun hc13 => ?_) (fun hc13 => ?_)
   ·replace h := of_ct h hc13
    apply E_skip
    refine E_keep [0, 1, 7, 8] [] ?_
    (try dsimp)
    apply E_seq
    apply E_block
    apply E_seq
    apply E_ops
    apply WM
    apply WM
    apply W_nil
    refine E_keep [0, 1, 5, 7, 8] [] ?_
    (try dsimp)
    apply E_seq
    apply E_ops
    apply WM
    apply WM
    apply WM
    obtain ⟨g14, h⟩ := of_gd h
    refine WQ (does_idx_sl rfl rfl g14.1 g14.2) ?_
    refine WQ (does_load1_slF (k := 1) rfl (fun _ => rfl) g14 0 rfl rfl) ?_
    refine WQ (does_int rfl rfl rfl) ?_
    apply W_nil
    refine E_keep [0, 1, 5, 7, 8, 16] [] ?_
    (try dsimp)
    refine E_cond rfl (fun hc15 => ?_) (fun hc15 => ?_)
    ·replace h := of_ct h hc15
     apply E_seq
     apply E_ops
     apply WM
     apply WM
     apply W_nil
     refine E_keep [4] [] ?_
     (try dsimp)
     apply E_ret
     cases h
     (try simp only [qt, qb, qn])
     refine fin_mk (xs := _) ⟨_, rfl, rfl⟩ ?_
     rfl
    ·replace h := of_cf h hc15
     apply E_skip
     refine E_keep [0, 1, 7, 8] [] ?_
     (try dsimp)
     apply E_ops
     obtain ⟨g16, h⟩ := of_gd h
     refine WQ (does_add rfl rfl g16.1 g16.2) ?_
     apply WM
     apply W_nil
     refine ⟨n12, (v11 + (1 : Int)), Nat.lt_succ_self _, h, ?_⟩
     exact (Le.b (le_mk ⟨rfl, rfl, rfl, rfl, trivial⟩ trivial))
   ·replace h := of_cf h hc13
    apply E_exit
    refine ⟨(), h, ?_⟩
    exact (Le.b (le_mk trivial trivial))
/- slices.Contains[[]int,int] -/
def c_slices_Contains_int : VCode := (.seq (.ops [(o (.mv (cb false)) 4)]) (.seq (.ops [(w 5 0), (w 6 1), (o (.call 188 [(t 5), (t 6)]) 7), (o (.bin .geq 3 (t 7) (ci 0)) 8), (w 4 8)]) .ret))
theorem f_slices_Contains_int : Fits Tryz.prog 166 2 c_slices_Contains_int [(.tmp 4)] := fits_mk Tryz.func166 (by kernel_rfl) (by kernel_rfl) (by kernel_rfl)
theorem p_slices_Contains_int (F : Nat) (a0 : (List Int)) (a1 : Int) (r : Bool) (h : m_slices_Contains_int F a0 a1 = some r) : PC Tryz.prog 166 [S.one (.sl (flat e_i_i64 a0) a0.length), S.one (.v (.int .i64 a1))] (S.one (.v (.bool r))) := by
 unfold m_slices_Contains_int at h
 refine PC_go f_slices_Contains_int rfl rfl ?_
 intro C hP
 unfold c_slices_Contains_int; dsimp
 apply E_seq
 apply E_ops
 apply WM
 apply W_nil
 refine E_keep [0, 1] [] ?_
 (try dsimp)
 apply E_seq
 apply E_ops
 apply WM
 apply WM
 obtain ⟨x1, x1h, h⟩ := of_bind h
 refine W1 (does_call1 hP (p_slices_Index_int F a0 a1 x1 x1h) rfl rfl rfl) ?_
 refine WQ (does_int rfl rfl rfl) ?_
 apply WM
 apply W_nil
 refine E_keep [4] [] ?_
 (try dsimp)
 apply E_ret
 cases h
 (try simp only [qt, qb, qn])
 refine fin_mk (xs := _) ⟨_, rfl, rfl⟩ ?_
 rfl
/- (*reeve/row.Row).Evict -/
def c_row_Row_Evict : VCode := (.seq (.ops [(o (.mv (cb false)) 2)]) (.seq (.seq (.ops [(w 3 0), (o (.nilchk (t 3)) 4), (o (.add 16 (t 4)) 5), (o (.load false 1 (t 5)) 6), (o (.un .not (t 6)) 7)]) (.cond (t 7) (.seq (.ops [(o (.mv (cb false)) 2)]) .ret) .skip)) (.seq (.ops [(w 8 0), (w 9 0), (o (.nilchk (t 9)) 10), (o (.add 8 (t 10)) 11), (o (.load true 8 (t 11)) 12), (o (.nilchk (t 8)) 13), (o (.add 0 (t 13)) 14), (n_ (.store 8 (t 14) (t 12)))]) (.seq (.ops [(w 15 0), (w 16 0), (o (.nilchk (t 15)) 17), (o (.add 16 (t 17)) 18), (n_ (.store 1 (t 18) (cb false))), (o (.nilchk (t 16)) 19), (o (.add 17 (t 19)) 20), (n_ (.store 1 (t 20) (cb false)))]) (.seq (.ops [(o (.mv (cb true)) 2)]) .ret)))))
theorem f_row_Row_Evict : Fits Tryz.prog 145 1 c_row_Row_Evict [(.tmp 2)] := fits_mk Tryz.func145 (by kernel_rfl) (by kernel_rfl) (by kernel_rfl)
theorem p_row_Row_Evict (F : Nat) (a0 : S_nvm_Mem) (a0i : Int) (a0o : Nat) (a0h : a0o = a0i.toNat * 18) (r : S_nvm_Mem × Bool) (h : m_row_Row_Evict F a0 a0i = some r) : AC Tryz.prog 145 [S.one (.ptr 100901 a0o)] [(100900, (⟨false, [.own 100901 0 a0.xl.length (some (18, 86)), .v (.bool a0.xoff), .v (.int .i64 a0.xcount), .v (.int .i64 a0.xfuse), .sl (flat e_i_i64 a0.xkeep) a0.xkeep.length]⟩ : Reg)), (100901, (⟨true, flat e_S_row_Row a0.xl⟩ : Reg))] (fun x s' => x = S.one (.v (.bool r.2)) ∧ leSt s' [(100900, (⟨false, [.own 100901 0 r.1.xl.length (some (18, 86)), .v (.bool r.1.xoff), .v (.int .i64 r.1.xcount), .v (.int .i64 r.1.xfuse), .sl (flat e_i_i64 r.1.xkeep) r.1.xkeep.length]⟩ : Reg)), (100901, (⟨true, flat e_S_row_Row r.1.xl⟩ : Reg))]) := by
 unfold m_row_Row_Evict at h
 refine AC_go f_row_Row_Evict rfl ?_
 intro C hP
 unfold c_row_Row_Evict; dsimp
 obtain ⟨ga0, h⟩ := of_gd h
 apply E_seq
 apply E_ops
 apply WM
 apply W_nil
 refine E_keep [0] [100900, 100901] ?_
 (try dsimp)
 apply E_seq
 apply E_seq
 apply E_ops
 apply WM
 refine WQ (does_nilchk_ptr rfl rfl) ?_
 refine WQ (does_add_ptr rfl rfl) ?_
 refine WQ (does_load1_rgF (k := 18) rfl rfl (fun _ => rfl) ga0 16 (by omega) rfl) ?_
 refine WQ (does_not rfl) ?_
 apply W_nil
 refine E_keep [0, 7] [100900, 100901] ?_
 (try dsimp)
 refine E_cond rfl (fun hc1 => ?_) (fun hc1 => ?_)
 ·replace h := of_ct h hc1
  apply E_seq
  apply E_ops
  apply WM
  apply W_nil
  refine E_keep [2] [100900, 100901] ?_
  (try dsimp)
  apply E_ret
  cases h
  (try simp only [qt, qb, qn])
  refine fin_mk (xs := _) ⟨_, rfl, rfl⟩ ?_
  show _ ∧ _
  exact ⟨rfl, ⟨(by first | rfl | simp [setn_length, cpy_length, sortI_length]), ⟨(by first | rfl | simp [setn_length, cpy_length, sortI_length]), trivial⟩⟩⟩
 ·replace h := of_cf h hc1
  apply E_skip
  refine E_keep [0] [100900, 100901] ?_
  (try dsimp)
  apply E_seq
  apply E_ops
  apply WM
  apply WM
  refine WQ (does_nilchk_ptr rfl rfl) ?_
  refine WQ (does_add_ptr rfl rfl) ?_
  refine WQ (does_loadA_rgF (k := 18) rfl rfl (fun _ => rfl) ga0 8 (by omega) rfl rfl (by decide)) ?_
  refine WQ (does_nilchk_ptr rfl rfl) ?_
  refine WQ (does_add_ptr rfl rfl) ?_
  refine W1 (does_store_rgF (e := e_S_row_Row) (n := 8) (k := 18) rfl rfl (fun _ => rfl) ga0 0 (by omega) rfl rfl rfl (by decide) (⟨(nth a0.xl a0i).xNew, (nth a0.xl a0i).xNew, (nth a0.xl a0i).xOut, (nth a0.xl a0i).xSent⟩ : S_row_Row) rfl (by decide) rfl) ?_
  apply W_nil
  refine E_keep [0] [100900, 100901] ?_
  (try dsimp)
  apply E_seq
  apply E_ops
  apply WM
  apply WM
  refine WQ (does_nilchk_ptr rfl rfl) ?_
  refine WQ (does_add_ptr rfl rfl) ?_
  refine W1 (does_store_rgS (e := e_S_row_Row) (n := 1) (k := 18) rfl rfl (fun _ => rfl) (by first | exact ga0 | exact ix_setn.1 ga0 | simpa only [ix_setn] using ga0) 16 (by omega) rfl rfl rfl (by decide) (⟨(nth a0.xl a0i).xNew, (nth a0.xl a0i).xNew, false, (nth a0.xl a0i).xSent⟩ : S_row_Row) rfl (by decide) rfl) ?_
  refine WQ (does_nilchk_ptr rfl rfl) ?_
  refine WQ (does_add_ptr rfl rfl) ?_
  refine W1 (does_store_rgS (e := e_S_row_Row) (n := 1) (k := 18) rfl rfl (fun _ => rfl) (by first | exact ga0 | exact ix_setn.1 ga0 | simpa only [ix_setn] using ga0) 17 (by omega) rfl rfl rfl (by decide) (⟨(nth a0.xl a0i).xNew, (nth a0.xl a0i).xNew, false, false⟩ : S_row_Row) rfl (by decide) rfl) ?_
  apply W_nil
  refine E_keep [] [100900, 100901] ?_
  (try dsimp)
  apply E_seq
  apply E_ops
  apply WM
  apply W_nil
  (try dsimp)
  refine E_ghost (Le_reg (r := 100900) rfl (by simp [setn_length, cpy_length, sortI_length] : (⟨false, [.own 100901 0 a0.xl.length (some (18, 86)), .v (.bool a0.xoff), .v (.int .i64 a0.xcount), .v (.int .i64 a0.xfuse), .sl (flat e_i_i64 a0.xkeep) a0.xkeep.length]⟩ : Reg) = (⟨false, [.own 100901 0 (setn a0.xl a0i (⟨(nth a0.xl a0i).xNew, (nth a0.xl a0i).xNew, false, false⟩ : S_row_Row)).length (some (18, 86)), .v (.bool a0.xoff), .v (.int .i64 a0.xcount), .v (.int .i64 a0.xfuse), .sl (flat e_i_i64 a0.xkeep) a0.xkeep.length]⟩ : Reg))).b ?_
  (try dsimp)
  apply E_ret
  cases h
  (try simp only [qt, qb, qn])
  refine fin_mk (xs := _) ⟨_, rfl, rfl⟩ ?_
  show _ ∧ _
  exact ⟨rfl, ⟨(by first | rfl | simp [setn_length, cpy_length, sortI_length]), ⟨(by first | rfl | simp [setn_length, cpy_length, sortI_length]), trivial⟩⟩⟩
/- (*reeve/row.Row).Fall -/
def c_row_Row_Fall : VCode := (.seq (.ops [(o (.mv (cb false)) 4)]) (.seq (.seq (.ops [(w 5 1), (w 6 5), (g_ (.mv (t 0)) 7 6 false), (g_ (.nilchk (t 7)) 8 6 false), (g_ (.add 16 (t 8)) 9 6 false), (g_ (.load false 1 (t 9)) 10 6 false), (g_ (.un .not (t 10)) 11 6 false), (o (.pick (t 6) (cb true) (t 11)) 12)]) (.cond (t 12) (.seq (.ops [(w 13 0), (o (.call 145 [(t 13)]) 14), (w 4 14)]) .ret) .skip)) (.seq (.ops [(w 15 0), (w 16 0), (o (.nilchk (t 16)) 17), (o (.add 0 (t 17)) 18), (o (.load true 8 (t 18)) 19), (o (.nilchk (t 15)) 20), (o (.add 8 (t 20)) 21), (n_ (.store 8 (t 21) (t 19)))]) (.seq (.ops [(w 22 0), (w 23 0), (o (.nilchk (t 22)) 24), (o (.add 16 (t 24)) 25), (n_ (.store 1 (t 25) (cb false))), (o (.nilchk (t 23)) 26), (o (.add 17 (t 26)) 27), (n_ (.store 1 (t 27) (cb false)))]) (.seq (.ops [(o (.mv (cb true)) 4)]) .ret)))))
theorem f_row_Row_Fall : Fits Tryz.prog 165 2 c_row_Row_Fall [(.tmp 4)] := fits_mk Tryz.func165 (by kernel_rfl) (by kernel_rfl) (by kernel_rfl)
theorem p_row_Row_Fall (F : Nat) (a0 : S_nvm_Mem) (a0i : Int) (a0o : Nat) (a0h : a0o = a0i.toNat * 18) (a1 : Bool) (r : S_nvm_Mem × Bool) (h : m_row_Row_Fall F a0 a0i a1 = some r) : AC Tryz.prog 165 [S.one (.ptr 100901 a0o), S.one (.v (.bool a1))] [(100900, (⟨false, [.own 100901 0 a0.xl.length (some (18, 86)), .v (.bool a0.xoff), .v (.int .i64 a0.xcount), .v (.int .i64 a0.xfuse), .sl (flat e_i_i64 a0.xkeep) a0.xkeep.length]⟩ : Reg)), (100901, (⟨true, flat e_S_row_Row a0.xl⟩ : Reg))] (fun x s' => x = S.one (.v (.bool r.2)) ∧ leSt s' [(100900, (⟨false, [.own 100901 0 r.1.xl.length (some (18, 86)), .v (.bool r.1.xoff), .v (.int .i64 r.1.xcount), .v (.int .i64 r.1.xfuse), .sl (flat e_i_i64 r.1.xkeep) r.1.xkeep.length]⟩ : Reg)), (100901, (⟨true, flat e_S_row_Row r.1.xl⟩ : Reg))]) := by
 unfold m_row_Row_Fall at h
 refine AC_go f_row_Row_Fall rfl ?_
 intro C hP
 unfold c_row_Row_Fall; dsimp
 obtain ⟨ga0, h⟩ := of_gd h
 apply E_seq
 apply E_ops
 apply WM
 apply W_nil
 refine E_keep [0, 1] [100900, 100901] ?_
 (try dsimp)
 apply E_seq
 apply E_seq
 apply E_ops
 apply WM
 apply WM
 apply W_lazy
 ·rfl
 ·intro hB; (try simp only [hB, bss, ctt]); exact does_mv rfl
 apply W_lazy
 ·rfl
 ·intro hB; (try simp only [hB, bss, ctt]); exact does_nilchk_ptr rfl rfl
 apply W_lazy
 ·rfl
 ·intro hB; (try simp only [hB, bss, ctt]); exact does_add_ptr rfl rfl
 apply W_lazy
 ·rfl
 ·intro hB; (try simp only [hB, bss, ctt]); exact does_load1_rgF (k := 18) rfl rfl (fun _ => rfl) ga0 16 (by omega) rfl
 apply W_lazy
 ·rfl
 ·intro hB; (try simp only [hB, bss, ctt]); exact does_not rfl
 refine WQ (does_or rfl rfl rfl) ?_
 apply W_nil
 refine E_keep [0, 12] [100900, 100901] ?_
 (try dsimp)
 refine E_cond rfl (fun hc1 => ?_) (fun hc1 => ?_)
 ·replace h := of_ct h hc1
  apply E_seq
  apply E_ops
  apply WM
  obtain ⟨x2, x2h, h⟩ := of_bind h
  refine W1 (does_callO [] false hP (p_row_Row_Evict F a0 a0i _ (by omega) x2 x2h) rfl ⟨rfl, rfl, trivial⟩ rfl rfl rfl rfl rfl (fun h => by first | rfl | cases h) rfl) ?_
  (try dsimp)
  apply WM
  apply W_nil
  refine E_keep [4] [100900, 100901] ?_
  (try dsimp)
  apply E_ret
  cases h
  (try simp only [qt, qb, qn])
  refine fin_mk (xs := _) ⟨_, rfl, rfl⟩ ?_
  show _ ∧ _
  exact ⟨rfl, ⟨(by first | rfl | simp [setn_length, cpy_length, sortI_length]), ⟨(by first | rfl | simp [setn_length, cpy_length, sortI_length]), trivial⟩⟩⟩
 ·replace h := of_cf h hc1
  apply E_skip
  refine E_keep [0] [100900, 100901] ?_
  (try dsimp)
  apply E_seq
  apply E_ops
  apply WM
  apply WM
  refine WQ (does_nilchk_ptr rfl rfl) ?_
  refine WQ (does_add_ptr rfl rfl) ?_
  refine WQ (does_loadA_rgF (k := 18) rfl rfl (fun _ => rfl) ga0 0 (by omega) rfl rfl (by decide)) ?_
  refine WQ (does_nilchk_ptr rfl rfl) ?_
  refine WQ (does_add_ptr rfl rfl) ?_
  refine W1 (does_store_rgF (e := e_S_row_Row) (n := 8) (k := 18) rfl rfl (fun _ => rfl) ga0 8 (by omega) rfl rfl rfl (by decide) (⟨(nth a0.xl a0i).xLasts, (nth a0.xl a0i).xLasts, (nth a0.xl a0i).xOut, (nth a0.xl a0i).xSent⟩ : S_row_Row) rfl (by decide) rfl) ?_
  apply W_nil
  refine E_keep [0] [100900, 100901] ?_
  (try dsimp)
  apply E_seq
  apply E_ops
  apply WM
  apply WM
  refine WQ (does_nilchk_ptr rfl rfl) ?_
  refine WQ (does_add_ptr rfl rfl) ?_
  refine W1 (does_store_rgS (e := e_S_row_Row) (n := 1) (k := 18) rfl rfl (fun _ => rfl) (by first | exact ga0 | exact ix_setn.1 ga0 | simpa only [ix_setn] using ga0) 16 (by omega) rfl rfl rfl (by decide) (⟨(nth a0.xl a0i).xLasts, (nth a0.xl a0i).xLasts, false, (nth a0.xl a0i).xSent⟩ : S_row_Row) rfl (by decide) rfl) ?_
  refine WQ (does_nilchk_ptr rfl rfl) ?_
  refine WQ (does_add_ptr rfl rfl) ?_
  refine W1 (does_store_rgS (e := e_S_row_Row) (n := 1) (k := 18) rfl rfl (fun _ => rfl) (by first | exact ga0 | exact ix_setn.1 ga0 | simpa only [ix_setn] using ga0) 17 (by omega) rfl rfl rfl (by decide) (⟨(nth a0.xl a0i).xLasts, (nth a0.xl a0i).xLasts, false, false⟩ : S_row_Row) rfl (by decide) rfl) ?_
  apply W_nil
  refine E_keep [] [100900, 100901] ?_
  (try dsimp)
  apply E_seq
  apply E_ops
  apply WM
  apply W_nil
  (try dsimp)
  refine E_ghost (Le_reg (r := 100900) rfl (by simp [setn_length, cpy_length, sortI_length] : (⟨false, [.own 100901 0 a0.xl.length (some (18, 86)), .v (.bool a0.xoff), .v (.int .i64 a0.xcount), .v (.int .i64 a0.xfuse), .sl (flat e_i_i64 a0.xkeep) a0.xkeep.length]⟩ : Reg) = (⟨false, [.own 100901 0 (setn a0.xl a0i (⟨(nth a0.xl a0i).xLasts, (nth a0.xl a0i).xLasts, false, false⟩ : S_row_Row)).length (some (18, 86)), .v (.bool a0.xoff), .v (.int .i64 a0.xcount), .v (.int .i64 a0.xfuse), .sl (flat e_i_i64 a0.xkeep) a0.xkeep.length]⟩ : Reg))).b ?_
  (try dsimp)
  apply E_ret
  cases h
  (try simp only [qt, qb, qn])
  refine fin_mk (xs := _) ⟨_, rfl, rfl⟩ ?_
  show _ ∧ _
  exact ⟨rfl, ⟨(by first | rfl | simp [setn_length, cpy_length, sortI_length]), ⟨(by first | rfl | simp [setn_length, cpy_length, sortI_length]), trivial⟩⟩⟩
/- (*reeve/nvm.Mem).Crash -/
def c_nvm_Mem_Crash : VCode := (.seq (.seq (.ops [(w 5 0), (o (.nilchk (t 5)) 6), (o (.add 1 (t 6)) 7), (o (.load false 1 (t 7)) 8)]) (.cond (t 8) .ret .skip)) (.seq (.seq (.ops [(w 9 0), (o (.nilchk (t 9)) 10), (o (.add 0 (t 10)) 11), (o (.load false 1 (t 11)) 12), (o (.len false (t 12)) 13), (o (.mv (ci 0)) 14)]) (.block 0 (.loop (.seq (.ops [(o (.bin .lss 3 (t 14) (t 13)) 15)]) (.seq (.cond (t 15) .skip (.exit 0)) (.seq (.block 1 (.seq (.ops [(w 16 14), (w 4 16)]) (.draw [((w 17 0), []), ((o (.nilchk (t 17)) 18), [0]), ((o (.add 0 (t 18)) 19), [1]), ((o (.load false 1 (t 19)) 20), [2]), ((w 21 4), []), ((o (.idxS 18 (t 20) (t 21)) 22), [3, 4]), ((w 23 1), []), ((w 24 4), []), ((o (.call 166 [(t 23), (t 24)]) 25), [6, 7]), ((o (.call 165 [(t 22), (t 25)]) 26), [5, 8, 8])]))) (.ops [(o (.bin .add 3 (t 14) (ci 1)) 27), (w 14 27)]))))))) (.seq (.ops [(w 28 0), (o (.nilchk (t 28)) 29), (o (.add 1 (t 29)) 30), (n_ (.store 1 (t 30) (cb true)))]) (.ops [(w 31 0), (o (.nilchk (t 31)) 32), (o (.add 3 (t 32)) 33), (n_ (.store 1 (t 33) (ci 0)))]))))
theorem f_nvm_Mem_Crash : Fits Tryz.prog 141 2 c_nvm_Mem_Crash [] := fits_mk Tryz.func141 (by kernel_rfl) (by kernel_rfl) (by kernel_rfl)
theorem p_nvm_Mem_Crash (F : Nat) (a0 : S_nvm_Mem) (a1 : (List Int)) (r : S_nvm_Mem) (h : m_nvm_Mem_Crash F a0 a1 = some r) : AC Tryz.prog 141 [S.one (.ptr 100900 0), S.one (.sl (flat e_i_i64 a1) a1.length)] [(100900, (⟨false, [.own 100901 0 a0.xl.length (some (18, 86)), .v (.bool a0.xoff), .v (.int .i64 a0.xcount), .v (.int .i64 a0.xfuse), .sl (flat e_i_i64 a0.xkeep) a0.xkeep.length]⟩ : Reg)), (100901, (⟨true, flat e_S_row_Row a0.xl⟩ : Reg))] (fun x s' => x = S.tup [] ∧ leSt s' [(100900, (⟨false, [.own 100901 0 r.xl.length (some (18, 86)), .v (.bool r.xoff), .v (.int .i64 r.xcount), .v (.int .i64 r.xfuse), .sl (flat e_i_i64 r.xkeep) r.xkeep.length]⟩ : Reg)), (100901, (⟨true, flat e_S_row_Row r.xl⟩ : Reg))]) := by
 unfold m_nvm_Mem_Crash at h
 refine AC_go f_nvm_Mem_Crash rfl ?_
 intro C hP
 unfold c_nvm_Mem_Crash; dsimp
 apply E_seq
 apply E_seq
 apply E_ops
 apply WM
 refine WQ (does_nilchk_ptr rfl rfl) ?_
 refine WQ (does_add_ptr rfl rfl) ?_
 refine WQ (does_load1_ptr rfl rfl rfl) ?_
 apply W_nil
 refine E_keep [0, 1, 8] [100900, 100901] ?_
 (try dsimp)
 refine E_cond rfl (fun hc1 => ?_) (fun hc1 => ?_)
 ·replace h := of_ct h hc1
  apply E_ret
  cases h
  (try simp only [qt, qb, qn])
  refine fin_mk (xs := _) rfl ?_
  show _ ∧ _
  exact ⟨rfl, ⟨(by first | rfl | simp [setn_length, cpy_length, sortI_length]), ⟨(by first | rfl | simp [setn_length, cpy_length, sortI_length]), trivial⟩⟩⟩
 ·replace h := of_cf h hc1
  apply E_skip
  refine E_keep [0, 1] [100900, 100901] ?_
  (try dsimp)
  obtain ⟨k7, k7d, h⟩ := of_jn h
  refine E_seqJ (α := (List S_row_Row) × Bool × Int × Int × (List Int)) (fun (i : (List S_row_Row) × Bool × Int × Int × (List Int)) => (⟨[(0, S.one (.ptr 100900 0))], [(100900, (⟨false, [.own 100901 0 i.1.length (some (18, 86)), .v (.bool i.2.1), .v (.int .i64 i.2.2.1), .v (.int .i64 i.2.2.2.1), .sl (flat e_i_i64 i.2.2.2.2) i.2.2.2.2.length]⟩ : Reg)), (100901, (⟨true, flat e_S_row_Row i.1⟩ : Reg))]⟩ : St)) (fun i => k7 i.1 i.2.1 i.2.2.1 i.2.2.2.1 i.2.2.2.2 = some r) (fun i h => ?_) ?_
  ·obtain ⟨v2, v3, v4, v5, v6⟩ := i
   rw [k7d] at h; dsimp only at h
   (try dsimp)
   apply E_seq
   apply E_ops
   apply WM
   refine WQ (does_nilchk_ptr rfl rfl) ?_
   refine WQ (does_add_ptr rfl rfl) ?_
   refine W1 (does_store rfl rfl rfl rfl rfl (Nat.le_of_ble_eq_true rfl) rfl (by decide)) ?_
   apply W_nil
   refine E_keep [0] [100900, 100901] ?_
   (try dsimp)
   apply E_ops
   apply WM
   refine WQ (does_nilchk_ptr rfl rfl) ?_
   refine WQ (does_add_ptr rfl rfl) ?_
   refine W1 (does_store rfl rfl rfl rfl rfl (Nat.le_of_ble_eq_true rfl) rfl (by decide)) ?_
   apply W_nil
   cases h
   (try simp only [qt, qb, qn])
   refine fin_end (xs := _) rfl ?_
   show _ ∧ _
   exact ⟨rfl, ⟨(by first | rfl | simp [setn_length, cpy_length, sortI_length]), ⟨(by first | rfl | simp [setn_length, cpy_length, sortI_length]), trivial⟩⟩⟩
  ·
   skip
   apply E_seq
   apply E_ops
   apply WM
   refine WQ (does_nilchk_ptr rfl rfl) ?_
   refine WQ (does_add_ptr rfl rfl) ?_
   refine WQ (does_load1_ptr rfl rfl rfl) ?_
   refine WQ (does_len_own rfl rfl) ?_
   apply WM
   apply W_nil
   refine E_keep [0, 1, 13, 14] [100900, 100901] ?_
   (try dsimp)
   apply E_block
   (try dsimp)
   refine E_loopB (α := Int × (List S_row_Row) × Bool × Int × Int × (List Int)) (fun (i : Int × (List S_row_Row) × Bool × Int × Int × (List Int)) => (⟨[(0, S.one (.ptr 100900 0)), (1, S.one (.sl (flat e_i_i64 a1) a1.length)), (13, S.one (.v (.int .i64 ((a0.xl.length : Nat) : Int)))), (14, S.one (.v (.int .i64 i.1)))], [(100900, (⟨false, [.own 100901 0 i.2.1.length (some (18, 86)), .v (.bool i.2.2.1), .v (.int .i64 i.2.2.2.1), .v (.int .i64 i.2.2.2.2.1), .sl (flat e_i_i64 i.2.2.2.2.2) i.2.2.2.2.2.length]⟩ : Reg)), (100901, (⟨true, flat e_S_row_Row i.2.1⟩ : Reg))]⟩ : St)) (fun n i => m_nvm_Mem_Crash_l0 F a0 a1 k7 n i.1 i.2.1 i.2.2.1 i.2.2.2.1 i.2.2.2.2.1 i.2.2.2.2.2 = some r) F ((0 : Int), a0.xl, a0.xoff, a0.xcount, a0.xfuse, a0.xkeep) h ?_ (fun n i h => ?_)
   ·
    exact (Le.b (le_mk ⟨rfl, rfl, rfl, rfl, trivial⟩ ⟨rfl, rfl, trivial⟩))
   obtain ⟨v24, v25, v26, v27, v28, v29⟩ := i; dsimp only at h
   cases n with
   | zero => cases h
   | succ n30 =>
    unfold m_nvm_Mem_Crash_l0 at h
    (try dsimp)
    apply E_seq
    apply E_ops
    refine WQ (does_int rfl rfl rfl) ?_
    apply W_nil
    (try dsimp)
    apply E_seq
    refine E_cond rfl (fun hc31 => ?_) (fun hc31 => ?_)
    ·replace h := of_ct h hc31
     apply E_skip
     refine E_keep [0, 1, 13, 14] [100900, 100901] ?_
     (try dsimp)
     apply E_seq
     apply E_block
     apply E_seq
     apply E_ops
     apply WM
     apply WM
     apply W_nil
     refine E_keep [0, 1, 4, 13, 14] [100900, 100901] ?_
     (try dsimp)
     obtain ⟨g32, h⟩ := of_gd h
     obtain ⟨x33, x33h, h⟩ := of_bind h
     obtain ⟨x34, x34h, h⟩ := of_bind h
     refine E_draw [0, 1, 2, 3, 4, 5, 6, 7] ?_
     refine XQ 0 rfl rfl rfl (does_mv rfl) ?_
     refine XQ 1 rfl rfl rfl (does_nilchk_ptr rfl rfl) ?_
     refine XQ 2 rfl rfl rfl (does_add_ptr rfl rfl) ?_
     refine XQ 3 rfl rfl rfl (does_load1_ptr rfl rfl rfl) ?_
     refine XQ 4 rfl rfl rfl (does_mv rfl) ?_
     refine XQ 5 rfl rfl rfl (does_idx_own rfl rfl rfl g32.1 g32.2) ?_
     refine XQ 6 rfl rfl rfl (does_mv rfl) ?_
     refine XQ 7 rfl rfl rfl (does_mv rfl) ?_
     (try dsimp)
     refine X1 rfl (XK rfl (does_call1 hP (p_slices_Contains_int F a1 v24 x33 x33h) rfl rfl rfl) ?_)
     refine X1 rfl (XT rfl rfl (does_callO [] false hP (p_row_Row_Fall F (⟨v25, v26, v27, v28, v29⟩ : S_nvm_Mem) v24 _ (by omega) x33 x34 x34h) rfl ⟨rfl, rfl, trivial⟩ rfl rfl rfl rfl rfl (fun h => by first | rfl | cases h) rfl) ?_)
     refine X_nil rfl ?_
     refine E_keep [0, 1, 13, 14] [100900, 100901] ?_
     (try dsimp)
     apply E_ops
     obtain ⟨g35, h⟩ := of_gd h
     refine WQ (does_add rfl rfl g35.1 g35.2) ?_
     apply WM
     apply W_nil
     refine ⟨n30, ((v24 + (1 : Int)), x34.1.xl, x34.1.xoff, x34.1.xcount, x34.1.xfuse, x34.1.xkeep), Nat.lt_succ_self _, h, ?_⟩
     exact (Le.b (le_mk ⟨rfl, rfl, rfl, rfl, trivial⟩ ⟨rfl, rfl, trivial⟩))
    ·replace h := of_cf h hc31
     apply E_exit
     refine ⟨(v25, v26, v27, v28, v29), h, ?_⟩
     exact (Le.b (le_mk ⟨rfl, trivial⟩ ⟨rfl, rfl, trivial⟩))
/- (*reeve/nvm.Mem).burn -/
def c_nvm_Mem_burn : VCode := (.seq (.ops [(o (.mv (cb false)) 2)]) (.seq (.seq (.ops [(w 3 0), (o (.nilchk (t 3)) 4), (o (.add 3 (t 4)) 5), (o (.load false 1 (t 5)) 6), (o (.bin .gtr 3 (t 6) (ci 0)) 7)]) (.cond (t 7) (.seq (.ops [(w 8 0), (o (.nilchk (t 8)) 9), (o (.add 3 (t 9)) 10), (o (.load false 1 (t 10)) 11), (o (.bin .sub 3 (t 11) (ci 1)) 12), (o (.nilchk (t 8)) 13), (o (.add 3 (t 13)) 14), (n_ (.store 1 (t 14) (t 12)))]) (.seq (.ops [(w 15 0), (o (.nilchk (t 15)) 16), (o (.add 3 (t 16)) 17), (o (.load false 1 (t 17)) 18), (o (.bin .eql 3 (t 18) (ci 0)) 19)]) (.cond (t 19) (.seq (.ops [(w 20 0), (w 21 0), (o (.nilchk (t 21)) 22), (o (.add 4 (t 22)) 23), (o (.load false 1 (t 23)) 24), (o (.call 141 [(t 20), (t 24)]) 25)]) (.seq (.ops [(o (.mv (cb false)) 2)]) .ret)) .skip))) .skip)) (.seq (.ops [(w 26 0), (o (.nilchk (t 26)) 27), (o (.add 2 (t 27)) 28), (o (.load false 1 (t 28)) 29), (o (.bin .add 2 (t 29) (ci 1)) 30), (o (.nilchk (t 26)) 31), (o (.add 2 (t 31)) 32), (n_ (.store 1 (t 32) (t 30)))]) (.seq (.ops [(o (.mv (cb true)) 2)]) .ret))))
theorem f_nvm_Mem_burn : Fits Tryz.prog 108 1 c_nvm_Mem_burn [(.tmp 2)] := fits_mk Tryz.func108 (by kernel_rfl) (by kernel_rfl) (by kernel_rfl)
theorem p_nvm_Mem_burn (F : Nat) (a0 : S_nvm_Mem) (r : S_nvm_Mem × Bool) (h : m_nvm_Mem_burn F a0 = some r) : AC Tryz.prog 108 [S.one (.ptr 100900 0)] [(100900, (⟨false, [.own 100901 0 a0.xl.length (some (18, 86)), .v (.bool a0.xoff), .v (.int .i64 a0.xcount), .v (.int .i64 a0.xfuse), .sl (flat e_i_i64 a0.xkeep) a0.xkeep.length]⟩ : Reg)), (100901, (⟨true, flat e_S_row_Row a0.xl⟩ : Reg))] (fun x s' => x = S.one (.v (.bool r.2)) ∧ leSt s' [(100900, (⟨false, [.own 100901 0 r.1.xl.length (some (18, 86)), .v (.bool r.1.xoff), .v (.int .i64 r.1.xcount), .v (.int .i64 r.1.xfuse), .sl (flat e_i_i64 r.1.xkeep) r.1.xkeep.length]⟩ : Reg)), (100901, (⟨true, flat e_S_row_Row r.1.xl⟩ : Reg))]) := by
 unfold m_nvm_Mem_burn at h
 refine AC_go f_nvm_Mem_burn rfl ?_
 intro C hP
 unfold c_nvm_Mem_burn; dsimp
 apply E_seq
 apply E_ops
 apply WM
 apply W_nil
 refine E_keep [0] [100900, 100901] ?_
 (try dsimp)
 obtain ⟨k2, k2d, h⟩ := of_jn h
 refine E_seqJ (α := Int) (fun (i : Int) => (⟨[(0, S.one (.ptr 100900 0))], [(100900, (⟨false, [.own 100901 0 a0.xl.length (some (18, 86)), .v (.bool a0.xoff), .v (.int .i64 a0.xcount), .v (.int .i64 i), .sl (flat e_i_i64 a0.xkeep) a0.xkeep.length]⟩ : Reg)), (100901, (⟨true, flat e_S_row_Row a0.xl⟩ : Reg))]⟩ : St)) (fun i => k2 i = some r) (fun i h => ?_) ?_
 ·let iv := i; change k2 i = some r at h; generalize i = v1 at h ⊢
  rw [k2d] at h; dsimp only at h
  (try dsimp)
  apply E_seq
  apply E_ops
  apply WM
  refine WQ (does_nilchk_ptr rfl rfl) ?_
  refine WQ (does_add_ptr rfl rfl) ?_
  refine WQ (does_load1_ptr rfl rfl rfl) ?_
  obtain ⟨g3, h⟩ := of_gd h
  refine WQ (does_add rfl rfl g3.1 g3.2) ?_
  refine WQ (does_nilchk_ptr rfl rfl) ?_
  refine WQ (does_add_ptr rfl rfl) ?_
  refine W1 (does_store rfl rfl rfl rfl rfl (Nat.le_of_ble_eq_true rfl) rfl (by decide)) ?_
  apply W_nil
  refine E_keep [] [100900, 100901] ?_
  (try dsimp)
  apply E_seq
  apply E_ops
  apply WM
  apply W_nil
  (try dsimp)
  apply E_ret
  cases h
  (try simp only [qt, qb, qn])
  refine fin_mk (xs := _) ⟨_, rfl, rfl⟩ ?_
  show _ ∧ _
  exact ⟨rfl, ⟨(by first | rfl | simp [setn_length, cpy_length, sortI_length]), ⟨(by first | rfl | simp [setn_length, cpy_length, sortI_length]), trivial⟩⟩⟩
 ·
  skip
  apply E_seq
  apply E_ops
  apply WM
  refine WQ (does_nilchk_ptr rfl rfl) ?_
  refine WQ (does_add_ptr rfl rfl) ?_
  refine WQ (does_load1_ptr rfl rfl rfl) ?_
  refine WQ (does_int rfl rfl rfl) ?_
  apply W_nil
  refine E_keep [0, 7] [100900, 100901] ?_
  (try dsimp)
  refine E_cond rfl (fun hc4 => ?_) (fun hc4 => ?_)
  ·replace h := of_ct h hc4
   apply E_seq
   apply E_ops
   apply WM
   refine WQ (does_nilchk_ptr rfl rfl) ?_
   refine WQ (does_add_ptr rfl rfl) ?_
   refine WQ (does_load1_ptr rfl rfl rfl) ?_
   obtain ⟨g5, h⟩ := of_gd h
   refine WQ (does_sub rfl rfl g5.1 g5.2) ?_
   refine WQ (does_nilchk_ptr rfl rfl) ?_
   refine WQ (does_add_ptr rfl rfl) ?_
   refine W1 (does_store rfl rfl rfl rfl rfl (Nat.le_of_ble_eq_true rfl) rfl (by decide)) ?_
   apply W_nil
   refine E_keep [0] [100900, 100901] ?_
   (try dsimp)
   apply E_seq
   apply E_ops
   apply WM
   refine WQ (does_nilchk_ptr rfl rfl) ?_
   refine WQ (does_add_ptr rfl rfl) ?_
   refine WQ (does_load1_ptr rfl rfl rfl) ?_
   refine WQ (does_int rfl rfl rfl) ?_
   apply W_nil
   refine E_keep [0, 19] [100900, 100901] ?_
   (try dsimp)
   refine E_cond rfl (fun hc6 => ?_) (fun hc6 => ?_)
   ·replace h := of_ct h hc6
    apply E_seq
    apply E_ops
    apply WM
    apply WM
    refine WQ (does_nilchk_ptr rfl rfl) ?_
    refine WQ (does_add_ptr rfl rfl) ?_
    refine WQ (does_load1_ptr rfl rfl rfl) ?_
    obtain ⟨x7, x7h, h⟩ := of_bind h
    refine W1 (does_callO [] false hP (p_nvm_Mem_Crash F (⟨a0.xl, a0.xoff, a0.xcount, (a0.xfuse - (1 : Int)), a0.xkeep⟩ : S_nvm_Mem) a0.xkeep x7 x7h) rfl ⟨rfl, rfl, trivial⟩ rfl rfl rfl rfl rfl (fun h => by first | rfl | cases h) rfl) ?_
    (try dsimp)
    apply W_nil
    refine E_keep [] [100900, 100901] ?_
    (try dsimp)
    apply E_seq
    apply E_ops
    apply WM
    apply W_nil
    (try dsimp)
    apply E_ret
    cases h
    (try simp only [qt, qb, qn])
    refine fin_mk (xs := _) ⟨_, rfl, rfl⟩ ?_
    show _ ∧ _
    exact ⟨rfl, ⟨(by first | rfl | simp [setn_length, cpy_length, sortI_length]), ⟨(by first | rfl | simp [setn_length, cpy_length, sortI_length]), trivial⟩⟩⟩
   ·replace h := of_cf h hc6
    apply E_skip
    refine ⟨(a0.xfuse - (1 : Int)), h, ?_⟩
    exact (Le.b (le_mk ⟨rfl, trivial⟩ ⟨rfl, rfl, trivial⟩))
  ·replace h := of_cf h hc4
   apply E_skip
   refine ⟨a0.xfuse, h, ?_⟩
   exact (Le.b (le_mk ⟨rfl, trivial⟩ ⟨rfl, rfl, trivial⟩))
/- reeve/row.in -/
def c_row_in : VCode := (.seq (.ops [(o (.mv (cb false)) 2)]) (.seq (.ops [(w 3 0), (o (.bin .geq 3 (t 3) (ci 0)) 4), (w 5 4), (g_ (.mv (t 0)) 6 5 true), (g_ (.bin .lss 3 (t 6) (ci 8)) 7 5 true), (o (.pick (t 5) (t 7) (cb false)) 8), (w 2 8)]) .ret))
theorem f_row_in : Fits Tryz.prog 142 1 c_row_in [(.tmp 2)] := fits_mk Tryz.func142 (by kernel_rfl) (by kernel_rfl) (by kernel_rfl)
theorem p_row_in (F : Nat) (a0 : Int) (r : Bool) (h : m_row_in F a0 = some r) : PC Tryz.prog 142 [S.one (.v (.int .i64 a0))] (S.one (.v (.bool r))) := by
 unfold m_row_in at h
 refine PC_go f_row_in rfl rfl ?_
 intro C hP
 unfold c_row_in; dsimp
 apply E_seq
 apply E_ops
 apply WM
 apply W_nil
 refine E_keep [0] [] ?_
 (try dsimp)
 apply E_seq
 apply E_ops
 apply WM
 refine WQ (does_int rfl rfl rfl) ?_
 apply WM
 apply W_lazy
 ·rfl
 ·intro hB; (try simp only [hB, bss, ctt]); exact does_mv rfl
 apply W_lazy
 ·rfl
 ·intro hB; (try simp only [hB, bss, ctt]); exact does_int rfl rfl rfl
 refine WQ (does_and rfl rfl rfl) ?_
 apply WM
 apply W_nil
 refine E_keep [2] [] ?_
 (try dsimp)
 apply E_ret
 cases h
 (try simp only [qt, qb, qn])
 refine fin_mk (xs := _) ⟨_, rfl, rfl⟩ ?_
 rfl
/- (*reeve/row.Row).Store -/
def c_row_Row_Store : VCode := (.seq (.ops [(o (.mv (cb false)) 6)]) (.seq (.seq (.ops [(w 7 1), (o (.call 142 [(t 7)]) 8), (o (.un .not (t 8)) 9)]) (.cond (t 9) (.seq (.ops [(o (.mv (cb false)) 6)]) .ret) .skip)) (.seq (.ops [(w 10 0), (w 11 1), (w 12 2), (o (.nilchk (t 10)) 13), (o (.add 8 (t 13)) 14), (o (.idxA 1 8 (t 14) (t 11)) 15), (n_ (.store 1 (t 15) (t 12)))]) (.seq (.ops [(w 16 0), (w 17 0), (o (.nilchk (t 16)) 18), (o (.add 16 (t 18)) 19), (n_ (.store 1 (t 19) (cb true))), (o (.nilchk (t 17)) 20), (o (.add 17 (t 20)) 21), (n_ (.store 1 (t 21) (cb false)))]) (.seq (.ops [(o (.mv (cb true)) 6)]) .ret)))))
theorem f_row_Row_Store : Fits Tryz.prog 109 3 c_row_Row_Store [(.tmp 6)] := fits_mk Tryz.func109 (by kernel_rfl) (by kernel_rfl) (by kernel_rfl)
theorem p_row_Row_Store (F : Nat) (a0 : S_nvm_Mem) (a0i : Int) (a0o : Nat) (a0h : a0o = a0i.toNat * 18) (a1 : Int) (a2 : Int) (r : S_nvm_Mem × Bool) (h : m_row_Row_Store F a0 a0i a1 a2 = some r) : AC Tryz.prog 109 [S.one (.ptr 100901 a0o), S.one (.v (.int .i64 a1)), S.one (.v (.int .u64 a2))] [(100900, (⟨false, [.own 100901 0 a0.xl.length (some (18, 86)), .v (.bool a0.xoff), .v (.int .i64 a0.xcount), .v (.int .i64 a0.xfuse), .sl (flat e_i_i64 a0.xkeep) a0.xkeep.length]⟩ : Reg)), (100901, (⟨true, flat e_S_row_Row a0.xl⟩ : Reg))] (fun x s' => x = S.one (.v (.bool r.2)) ∧ leSt s' [(100900, (⟨false, [.own 100901 0 r.1.xl.length (some (18, 86)), .v (.bool r.1.xoff), .v (.int .i64 r.1.xcount), .v (.int .i64 r.1.xfuse), .sl (flat e_i_i64 r.1.xkeep) r.1.xkeep.length]⟩ : Reg)), (100901, (⟨true, flat e_S_row_Row r.1.xl⟩ : Reg))]) := by
 unfold m_row_Row_Store at h
 refine AC_go f_row_Row_Store rfl ?_
 intro C hP
 unfold c_row_Row_Store; dsimp
 obtain ⟨ga0, h⟩ := of_gd h
 apply E_seq
 apply E_ops
 apply WM
 apply W_nil
 refine E_keep [0, 1, 2] [100900, 100901] ?_
 (try dsimp)
 apply E_seq
 apply E_seq
 apply E_ops
 apply WM
 obtain ⟨x1, x1h, h⟩ := of_bind h
 refine W1 (does_call1 hP (p_row_in F a1 x1 x1h) rfl rfl rfl) ?_
 refine WQ (does_not rfl) ?_
 apply W_nil
 refine E_keep [0, 1, 2, 9] [100900, 100901] ?_
 (try dsimp)
 refine E_cond rfl (fun hc2 => ?_) (fun hc2 => ?_)
 ·replace h := of_ct h hc2
  apply E_seq
  apply E_ops
  apply WM
  apply W_nil
  refine E_keep [6] [100900, 100901] ?_
  (try dsimp)
  apply E_ret
  cases h
  (try simp only [qt, qb, qn])
  refine fin_mk (xs := _) ⟨_, rfl, rfl⟩ ?_
  show _ ∧ _
  exact ⟨rfl, ⟨(by first | rfl | simp [setn_length, cpy_length, sortI_length]), ⟨(by first | rfl | simp [setn_length, cpy_length, sortI_length]), trivial⟩⟩⟩
 ·replace h := of_cf h hc2
  apply E_skip
  refine E_keep [0, 1, 2] [100900, 100901] ?_
  (try dsimp)
  apply E_seq
  apply E_ops
  apply WM
  apply WM
  apply WM
  refine WQ (does_nilchk_ptr rfl rfl) ?_
  refine WQ (does_add_ptr rfl rfl) ?_
  obtain ⟨g3, h⟩ := of_gd h
  refine WQ (does_idxA_ptr rfl rfl rfl g3.1 g3.2) ?_
  refine W1 (does_store_rgF (e := e_S_row_Row) (n := 1) (k := 18) rfl rfl (fun _ => rfl) ga0 (8 + a1.toNat) (by omega) rfl rfl rfl (by decide) (⟨(nth a0.xl a0i).xLasts, (((nth a0.xl a0i).xNew).put a1.toNat a2), (nth a0.xl a0i).xOut, (nth a0.xl a0i).xSent⟩ : S_row_Row) (dynq (n := 8) (fun j => e_S_row_Row (⟨(nth a0.xl a0i).xLasts, (((nth a0.xl a0i).xNew).put j a2), (nth a0.xl a0i).xOut, (nth a0.xl a0i).xSent⟩ : S_row_Row) = splice (e_S_row_Row (nth a0.xl a0i)) (8 + j) [.v (.int .u64 a2)]) g3 (by intro j hj; rcases j with _|_|_|_|_|_|_|_|j <;> first | rfl | omega)) (by omega) rfl) ?_
  apply W_nil
  refine E_keep [0] [100900, 100901] ?_
  (try dsimp)
  apply E_seq
  apply E_ops
  apply WM
  apply WM
  refine WQ (does_nilchk_ptr rfl rfl) ?_
  refine WQ (does_add_ptr rfl rfl) ?_
  refine W1 (does_store_rgS (e := e_S_row_Row) (n := 1) (k := 18) rfl rfl (fun _ => rfl) (by first | exact ga0 | exact ix_setn.1 ga0 | simpa only [ix_setn] using ga0) 16 (by omega) rfl rfl rfl (by decide) (⟨(nth a0.xl a0i).xLasts, (((nth a0.xl a0i).xNew).put a1.toNat a2), true, (nth a0.xl a0i).xSent⟩ : S_row_Row) rfl (by decide) rfl) ?_
  refine WQ (does_nilchk_ptr rfl rfl) ?_
  refine WQ (does_add_ptr rfl rfl) ?_
  refine W1 (does_store_rgS (e := e_S_row_Row) (n := 1) (k := 18) rfl rfl (fun _ => rfl) (by first | exact ga0 | exact ix_setn.1 ga0 | simpa only [ix_setn] using ga0) 17 (by omega) rfl rfl rfl (by decide) (⟨(nth a0.xl a0i).xLasts, (((nth a0.xl a0i).xNew).put a1.toNat a2), true, false⟩ : S_row_Row) rfl (by decide) rfl) ?_
  apply W_nil
  refine E_keep [] [100900, 100901] ?_
  (try dsimp)
  apply E_seq
  apply E_ops
  apply WM
  apply W_nil
  (try dsimp)
  refine E_ghost (Le_reg (r := 100900) rfl (by simp [setn_length, cpy_length, sortI_length] : (⟨false, [.own 100901 0 a0.xl.length (some (18, 86)), .v (.bool a0.xoff), .v (.int .i64 a0.xcount), .v (.int .i64 a0.xfuse), .sl (flat e_i_i64 a0.xkeep) a0.xkeep.length]⟩ : Reg) = (⟨false, [.own 100901 0 (setn a0.xl a0i (⟨(nth a0.xl a0i).xLasts, (((nth a0.xl a0i).xNew).put a1.toNat a2), true, false⟩ : S_row_Row)).length (some (18, 86)), .v (.bool a0.xoff), .v (.int .i64 a0.xcount), .v (.int .i64 a0.xfuse), .sl (flat e_i_i64 a0.xkeep) a0.xkeep.length]⟩ : Reg))).b ?_
  (try dsimp)
  apply E_ret
  cases h
  (try simp only [qt, qb, qn])
  refine fin_mk (xs := _) ⟨_, rfl, rfl⟩ ?_
  show _ ∧ _
  exact ⟨rfl, ⟨(by first | rfl | simp [setn_length, cpy_length, sortI_length]), ⟨(by first | rfl | simp [setn_length, cpy_length, sortI_length]), trivial⟩⟩⟩
/- (*reeve/nvm.Mem).Store -/
def c_nvm_Mem_Store : VCode := (.seq (.ops [(o (.mv (ci 0)) 6)]) (.seq (.seq (.ops [(w 8 0), (w 9 1), (w 10 0), (o (.nilchk (t 10)) 11), (o (.add 0 (t 11)) 12), (o (.load false 1 (t 12)) 13), (o (.len false (t 13)) 14), (o (.bin .mul 3 (t 14) (ci 8)) 15), (o (.call 107 [(t 8), (t 9), (t 15)]) 16), (w 7 16)]) (.seq (.ops [(w 17 7), (o (.bin .neq 33 (t 17) (ci 0)) 18)]) (.cond (t 18) (.seq (.ops [(w 19 7), (w 6 19)]) .ret) .skip))) (.seq (.seq (.ops [(w 20 0), (o (.call 108 [(t 20)]) 21), (o (.un .not (t 21)) 22)]) (.cond (t 22) (.seq (.ops [(o (.mv (ci 12)) 6)]) .ret) .skip)) (.seq (.ops [(w 23 0), (o (.nilchk (t 23)) 24), (o (.add 0 (t 24)) 25), (o (.load false 1 (t 25)) 26), (w 27 1), (o (.bin .quo 3 (t 27) (ci 8)) 28), (o (.idxS 18 (t 26) (t 28)) 29), (w 30 1), (o (.bin .rem 3 (t 30) (ci 8)) 31), (w 32 2), (o (.call 109 [(t 29), (t 31), (t 32)]) 33)]) (.seq (.ops [(o (.mv (ci 0)) 6)]) .ret)))))
theorem f_nvm_Mem_Store : Fits Tryz.prog 71 3 c_nvm_Mem_Store [(.tmp 6)] := fits_mk Tryz.func71 (by kernel_rfl) (by kernel_rfl) (by kernel_rfl)
theorem p_nvm_Mem_Store (F : Nat) (a0 : S_nvm_Mem) (a1 : Int) (a2 : Int) (r : S_nvm_Mem × Int) (h : m_nvm_Mem_Store F a0 a1 a2 = some r) : AC Tryz.prog 71 [S.one (.ptr 100900 0), S.one (.v (.int .i64 a1)), S.one (.v (.int .u64 a2))] [(100900, (⟨false, [.own 100901 0 a0.xl.length (some (18, 86)), .v (.bool a0.xoff), .v (.int .i64 a0.xcount), .v (.int .i64 a0.xfuse), .sl (flat e_i_i64 a0.xkeep) a0.xkeep.length]⟩ : Reg)), (100901, (⟨true, flat e_S_row_Row a0.xl⟩ : Reg))] (fun x s' => x = S.one (.v (.int .i64 r.2)) ∧ leSt s' [(100900, (⟨false, [.own 100901 0 r.1.xl.length (some (18, 86)), .v (.bool r.1.xoff), .v (.int .i64 r.1.xcount), .v (.int .i64 r.1.xfuse), .sl (flat e_i_i64 r.1.xkeep) r.1.xkeep.length]⟩ : Reg)), (100901, (⟨true, flat e_S_row_Row r.1.xl⟩ : Reg))]) := by
 unfold m_nvm_Mem_Store at h
 refine AC_go f_nvm_Mem_Store rfl ?_
 intro C hP
 unfold c_nvm_Mem_Store; dsimp
 apply E_seq
 apply E_ops
 apply WM
 apply W_nil
 refine E_keep [0, 1, 2] [100900, 100901] ?_
 (try dsimp)
 apply E_seq
 apply E_seq
 apply E_ops
 apply WM
 apply WM
 apply WM
 refine WQ (does_nilchk_ptr rfl rfl) ?_
 refine WQ (does_add_ptr rfl rfl) ?_
 refine WQ (does_load1_ptr rfl rfl rfl) ?_
 refine WQ (does_len_own rfl rfl) ?_
 obtain ⟨g1, h⟩ := of_gd h
 refine WQ (does_mul rfl rfl g1.1 g1.2) ?_
 obtain ⟨x2, x2h, h⟩ := of_bind h
 refine W1 (does_callO [] false hP (p_nvm_Mem_may F a0 a1 (((a0.xl.length : Nat) : Int) * (8 : Int)) x2 x2h) rfl ⟨rfl, rfl, trivial⟩ rfl rfl rfl rfl rfl (fun h => by first | rfl | cases h) rfl) ?_
 (try dsimp)
 apply WM
 apply W_nil
 refine E_keep [0, 1, 2, 7] [100900, 100901] ?_
 (try dsimp)
 apply E_seq
 apply E_ops
 apply WM
 refine WQ (does_int rfl rfl rfl) ?_
 apply W_nil
 refine E_keep [0, 1, 2, 7, 18] [100900, 100901] ?_
 (try dsimp)
 refine E_cond rfl (fun hc3 => ?_) (fun hc3 => ?_)
 ·replace h := of_ct h hc3
  apply E_seq
  apply E_ops
  apply WM
  apply WM
  apply W_nil
  refine E_keep [6] [100900, 100901] ?_
  (try dsimp)
  apply E_ret
  cases h
  (try simp only [qt, qb, qn])
  refine fin_mk (xs := _) ⟨_, rfl, rfl⟩ ?_
  show _ ∧ _
  exact ⟨rfl, ⟨(by first | rfl | simp [setn_length, cpy_length, sortI_length]), ⟨(by first | rfl | simp [setn_length, cpy_length, sortI_length]), trivial⟩⟩⟩
 ·replace h := of_cf h hc3
  apply E_skip
  refine E_keep [0, 1, 2] [100900, 100901] ?_
  (try dsimp)
  apply E_seq
  apply E_seq
  apply E_ops
  apply WM
  obtain ⟨x4, x4h, h⟩ := of_bind h
  refine W1 (does_callO [] false hP (p_nvm_Mem_burn F a0 x4 x4h) rfl ⟨rfl, rfl, trivial⟩ rfl rfl rfl rfl rfl (fun h => by first | rfl | cases h) rfl) ?_
  (try dsimp)
  refine WQ (does_not rfl) ?_
  apply W_nil
  refine E_keep [0, 1, 2, 22] [100900, 100901] ?_
  (try dsimp)
  refine E_cond rfl (fun hc5 => ?_) (fun hc5 => ?_)
  ·replace h := of_ct h hc5
   apply E_seq
   apply E_ops
   apply WM
   apply W_nil
   refine E_keep [6] [100900, 100901] ?_
   (try dsimp)
   apply E_ret
   cases h
   (try simp only [qt, qb, qn])
   refine fin_mk (xs := _) ⟨_, rfl, rfl⟩ ?_
   show _ ∧ _
   exact ⟨rfl, ⟨(by first | rfl | simp [setn_length, cpy_length, sortI_length]), ⟨(by first | rfl | simp [setn_length, cpy_length, sortI_length]), trivial⟩⟩⟩
  ·replace h := of_cf h hc5
   apply E_skip
   refine E_keep [0, 1, 2] [100900, 100901] ?_
   (try dsimp)
   apply E_seq
   apply E_ops
   apply WM
   refine WQ (does_nilchk_ptr rfl rfl) ?_
   refine WQ (does_add_ptr rfl rfl) ?_
   refine WQ (does_load1_ptr rfl rfl rfl) ?_
   apply WM
   refine WQ (does_int rfl rfl rfl) ?_
   obtain ⟨g6, h⟩ := of_gd h
   refine WQ (does_idx_own rfl rfl rfl g6.1 g6.2) ?_
   apply WM
   refine WQ (does_int rfl rfl rfl) ?_
   apply WM
   obtain ⟨x7, x7h, h⟩ := of_bind h
   refine W1 (does_callO [] false hP (p_row_Row_Store F x4.1 (IntKind.i64.wrap (Int.tdiv a1 8)) _ (by omega) (Int.tmod a1 8) a2 x7 x7h) rfl ⟨rfl, rfl, trivial⟩ rfl rfl rfl rfl rfl (fun h => by first | rfl | cases h) rfl) ?_
   (try dsimp)
   apply W_nil
   refine E_keep [] [100900, 100901] ?_
   (try dsimp)
   apply E_seq
   apply E_ops
   apply WM
   apply W_nil
   (try dsimp)
   apply E_ret
   cases h
   (try simp only [qt, qb, qn])
   refine fin_mk (xs := _) ⟨_, rfl, rfl⟩ ?_
   show _ ∧ _
   exact ⟨rfl, ⟨(by first | rfl | simp [setn_length, cpy_length, sortI_length]), ⟨(by first | rfl | simp [setn_length, cpy_length, sortI_length]), trivial⟩⟩⟩
theorem h_slices_Sort_int (l : List Int) (g : l.length < 4611686018427387904) : AC Tryz.prog 110 [S.one (.own 100800 0 l.length (some (1, 3)))] [(100800, ⟨true, flat e_i_i64 l⟩)] (fun x s => x = S.tup [] ∧ leSt s [(100800, ⟨true, flat e_i_i64 (sortI l)⟩)]) := AC_sort Tryz.slices_Sort_int Tryz.slices_Sort_int_none l g
theorem h_slices_Compact_int (l : List Int) (g : l.length < 4611686018427387904) : AC Tryz.prog 111 [S.one (.own 100800 0 l.length (some (1, 3)))] [(100800, ⟨true, flat e_i_i64 l⟩)] (fun x s => x = S.one (.own 100800 0 (compI l).length (some (1, 3))) ∧ leSt s [(100800, ⟨true, flat e_i_i64 (compI l)⟩)]) := AC_compact Tryz.slices_Compact_int Tryz.slices_Compact_int_empty l g
/- reeve/wset.Rows -/
def c_wset_Rows : VCode := (.seq (.ops [(o (.mv cn) 2)]) (.seq (.ops [(o (.mv cn) 3)]) (.seq (.seq (.ops [(w 6 0), (o (.len false (t 6)) 7), (o (.mv (ci 0)) 8)]) (.block 0 (.loop (.seq (.ops [(o (.bin .lss 3 (t 8) (t 7)) 9)]) (.seq (.cond (t 9) .skip (.exit 0)) (.seq (.block 1 (.seq (.ops [(o (.idxS 2 (t 6) (t 8)) 10), (o (.load true 2 (t 10)) 11), (o (.newv [zi, zu]) 5), (n_ (.store 2 (t 5) (t 11)))]) (.seq (.ops [(o (.add 0 (t 5)) 12), (o (.load false 1 (t 12)) 13), (o (.bin .geq 3 (t 13) (ci 0)) 14)]) (.cond (t 14) (.ops [(w 15 3), (o (.add 0 (t 5)) 16), (o (.load false 1 (t 16)) 17), (o (.bin .quo 3 (t 17) (ci 8)) 18), (o (.bslice 1 3 1 [zi] [(0, (1, (t 18)))]) 19), (o (.app 47 3 1 8 (t 15) (t 19)) 20), (w 3 20)]) .skip)))) (.ops [(o (.bin .add 3 (t 8) (ci 1)) 21), (w 8 21)]))))))) (.seq (.ops [(w 22 3), (o (.call 110 [(t 22)]) 23)]) (.seq (.ops [(w 24 3), (o (.call 111 [(t 24)]) 25), (w 2 25)]) .ret)))))
theorem f_wset_Rows : Fits Tryz.prog 72 1 c_wset_Rows [(.tmp 2)] := fits_mk Tryz.func72 (by kernel_rfl) (by kernel_rfl) (by kernel_rfl)
theorem p_wset_Rows (F : Nat) (a0 : (List S_wset_Write)) (r : (List Int)) (h : m_wset_Rows F a0 = some r) : PC Tryz.prog 72 [S.one (.sl (flat e_S_wset_Write a0) a0.length)] (S.one (.sl (flat e_i_i64 r) r.length)) := by
 unfold m_wset_Rows at h
 refine PC_go f_wset_Rows rfl rfl ?_
 intro C hP
 unfold c_wset_Rows; dsimp
 apply E_seq
 apply E_ops
 apply WM
 apply W_nil
 refine E_keep [0] [] ?_
 (try dsimp)
 apply E_seq
 apply E_ops
 apply WM
 apply W_nil
 (try dsimp)
 obtain ⟨k2, k2d, h⟩ := of_jn h
 refine E_seqJ (α := (List Int)) (fun (i : (List Int)) => (⟨[(3, S.one (.own 1020 0 i.length (some (1, 3))))], [(1020, (⟨true, flat e_i_i64 i⟩ : Reg))]⟩ : St)) (fun i => k2 i = some r) (fun i h => ?_) ?_
 ·let iv := i; change k2 i = some r at h; generalize i = v1 at h ⊢
  rw [k2d] at h; dsimp only at h
  (try dsimp)
  apply E_seq
  apply E_ops
  apply WM
  obtain ⟨g3, h⟩ := of_gd h
  refine W1 (does_callO [(100800, 1020)] false hP (h_slices_Sort_int v1 g3) rfl ⟨rfl, trivial⟩ rfl rfl rfl rfl rfl (fun h => by cases h) rfl) ?_
  (try dsimp)
  apply W_nil
  refine E_keep [3] [1020] ?_
  (try dsimp)
  apply E_seq
  apply E_ops
  apply WM
  obtain ⟨g4, h⟩ := of_gd h
  refine W1 (Does.ghost (Le_ownlen (i := 24) _ rfl (by simp [setn_length, cpy_length, sortI_length] : v1.length = (sortI v1).length)).b (does_callO [(100800, 1020)] false hP (h_slices_Compact_int (sortI v1) g4) rfl ⟨rfl, trivial⟩ rfl rfl rfl rfl rfl (fun h => by cases h) rfl)) ?_
  (try dsimp)
  apply WM
  apply W_nil
  refine E_keep [2] [1020] ?_
  (try dsimp)
  refine E_ghost (Le_frz (r := 1020) rfl rfl).b ?_
  (try dsimp)
  apply E_ret
  cases h
  (try simp only [qt, qb, qn])
  refine fin_mk (xs := _) ⟨_, rfl, rfl⟩ ?_
  rfl
 ·
  skip
  apply E_seq
  apply E_ops
  apply WM
  refine WQ (does_len_sl rfl) ?_
  apply WM
  apply W_nil
  refine E_keep [3, 6, 7, 8] [] ?_
  (try dsimp)
  apply E_block
  (try dsimp)
  refine E_loopB (α := Int × (List Int)) (fun (i : Int × (List Int)) => (⟨[(3, S.one (.own 1020 0 i.2.length (some (1, 3)))), (6, S.one (.sl (flat e_S_wset_Write a0) a0.length)), (7, S.one (.v (.int .i64 ((a0.length : Nat) : Int)))), (8, S.one (.v (.int .i64 i.1)))], [(1020, (⟨true, flat e_i_i64 i.2⟩ : Reg))]⟩ : St)) (fun n i => m_wset_Rows_l0 F a0 k2 n i.1 i.2 = some r) F ((0 : Int), ([] : List Int)) h ?_ (fun n i h => ?_)
  ·
   refine LeB_trans (LeB_nilown (i := 3) (r := 1020) 1 3 rfl rfl) ?_
   exact (Le.b (le_mk ⟨rfl, rfl, rfl, rfl, trivial⟩ ⟨rfl, trivial⟩))
  obtain ⟨v21, v22⟩ := i; dsimp only at h
  cases n with
  | zero => cases h
  | succ n23 =>
   unfold m_wset_Rows_l0 at h
   (try dsimp)
   apply E_seq
   apply E_ops
   refine WQ (does_int rfl rfl rfl) ?_
   apply W_nil
   (try dsimp)
   apply E_seq
   refine E_cond rfl (fun hc24 => ?_) (fun hc24 => ?_)
   ·replace h := of_ct h hc24
    apply E_skip
    refine E_keep [3, 6, 7, 8] [1020] ?_
    (try dsimp)
    obtain ⟨k26, k26d, h⟩ := of_jn h
    refine E_seqJ (α := (List Int)) (fun (i : (List Int)) => (⟨[(3, S.one (.own 1020 0 i.length (some (1, 3)))), (6, S.one (.sl (flat e_S_wset_Write a0) a0.length)), (7, S.one (.v (.int .i64 ((a0.length : Nat) : Int)))), (8, S.one (.v (.int .i64 v21)))], [(1020, (⟨true, flat e_i_i64 i⟩ : Reg))]⟩ : St)) (fun i => k26 i = some r) (fun i h => ?_) ?_
    ·let iv := i; change k26 i = some r at h; generalize i = v25 at h ⊢
     rw [k26d] at h; dsimp only at h
     (try dsimp)
     apply E_ops
     obtain ⟨g27, h⟩ := of_gd h
     refine WQ (does_add rfl rfl g27.1 g27.2) ?_
     apply WM
     apply W_nil
     refine ⟨n23, ((v21 + (1 : Int)), v25), Nat.lt_succ_self _, h, ?_⟩
     exact (Le.b (le_mk ⟨rfl, rfl, rfl, rfl, trivial⟩ ⟨rfl, trivial⟩))
    ·
     skip
     apply E_block
     apply E_seq
     apply E_ops
     obtain ⟨g28, h⟩ := of_gd h
     refine WQ (does_idx_sl rfl rfl g28.1 g28.2) ?_
     refine WQ (does_loadA_slF (k := 2) rfl (fun _ => rfl) g28 0 rfl rfl rfl) ?_
     refine W1 (does_newv rfl rfl) ?_
     refine W1 (does_store rfl rfl rfl rfl rfl (Nat.le_of_ble_eq_true rfl) rfl (by decide)) ?_
     apply W_nil
     refine E_keep [3, 5, 6, 7, 8] [5, 1020] ?_
     (try dsimp)
     apply E_seq
     apply E_ops
     refine WQ (does_add_ptr rfl rfl) ?_
     refine WQ (does_load1_ptr rfl rfl rfl) ?_
     refine WQ (does_int rfl rfl rfl) ?_
     apply W_nil
     refine E_keep [3, 5, 6, 7, 8, 14] [5, 1020] ?_
     (try dsimp)
     refine E_cond rfl (fun hc29 => ?_) (fun hc29 => ?_)
     ·replace h := of_ct h hc29
      apply E_ops
      apply WM
      refine WQ (does_add_ptr rfl rfl) ?_
      refine WQ (does_load1_ptr rfl rfl rfl) ?_
      refine WQ (does_int rfl rfl rfl) ?_
      refine W1 (does_bslice rfl rfl rfl rfl) ?_
      obtain ⟨g30, h⟩ := of_gd h
      refine W1 (does_appF (e := e_i_i64) rfl rfl (fun _ => rfl) (fun _ => rfl) rfl (Src.lit (e := e_i_i64) ([(IntKind.i64.wrap (Int.tdiv ((nth a0 v21).xAt) 8))] : List Int) rfl (fun _ => rfl) rfl rfl) g30 rfl) ?_
      apply WM
      apply W_nil
      refine ⟨(v22 ++ ([(IntKind.i64.wrap (Int.tdiv ((nth a0 v21).xAt) 8))] : List Int)), h, ?_⟩
      exact (Le.b (le_mk ⟨rfl, rfl, rfl, rfl, trivial⟩ ⟨rfl, trivial⟩))
     ·replace h := of_cf h hc29
      apply E_skip
      refine ⟨v22, h, ?_⟩
      exact (Le.b (le_mk ⟨rfl, rfl, rfl, rfl, trivial⟩ ⟨rfl, trivial⟩))
   ·replace h := of_cf h hc24
    apply E_exit
    refine ⟨v22, h, ?_⟩
    exact (Le.b (le_mk ⟨rfl, trivial⟩ ⟨rfl, trivial⟩))
/- (*reeve/row.Row).Flush -/
def c_row_Row_Flush : VCode := (.ops [(w 2 0), (w 3 0), (o (.nilchk (t 3)) 4), (o (.add 17 (t 4)) 5), (o (.load false 1 (t 5)) 6), (w 7 6), (g_ (.mv (t 0)) 8 7 false), (g_ (.nilchk (t 8)) 9 7 false), (g_ (.add 16 (t 9)) 10 7 false), (g_ (.load false 1 (t 10)) 11 7 false), (o (.pick (t 7) (cb true) (t 11)) 12), (o (.nilchk (t 2)) 13), (o (.add 17 (t 13)) 14), (n_ (.store 1 (t 14) (t 12)))])
theorem f_row_Row_Flush : Fits Tryz.prog 112 1 c_row_Row_Flush [] := fits_mk Tryz.func112 (by kernel_rfl) (by kernel_rfl) (by kernel_rfl)
theorem p_row_Row_Flush (F : Nat) (a0 : S_nvm_Mem) (a0i : Int) (a0o : Nat) (a0h : a0o = a0i.toNat * 18) (r : S_nvm_Mem) (h : m_row_Row_Flush F a0 a0i = some r) : AC Tryz.prog 112 [S.one (.ptr 100901 a0o)] [(100900, (⟨false, [.own 100901 0 a0.xl.length (some (18, 86)), .v (.bool a0.xoff), .v (.int .i64 a0.xcount), .v (.int .i64 a0.xfuse), .sl (flat e_i_i64 a0.xkeep) a0.xkeep.length]⟩ : Reg)), (100901, (⟨true, flat e_S_row_Row a0.xl⟩ : Reg))] (fun x s' => x = S.tup [] ∧ leSt s' [(100900, (⟨false, [.own 100901 0 r.xl.length (some (18, 86)), .v (.bool r.xoff), .v (.int .i64 r.xcount), .v (.int .i64 r.xfuse), .sl (flat e_i_i64 r.xkeep) r.xkeep.length]⟩ : Reg)), (100901, (⟨true, flat e_S_row_Row r.xl⟩ : Reg))]) := by
 unfold m_row_Row_Flush at h
 refine AC_go f_row_Row_Flush rfl ?_
 intro C hP
 unfold c_row_Row_Flush; dsimp
 obtain ⟨ga0, h⟩ := of_gd h
 apply E_ops
 apply WM
 apply WM
 refine WQ (does_nilchk_ptr rfl rfl) ?_
 refine WQ (does_add_ptr rfl rfl) ?_
 refine WQ (does_load1_rgF (k := 18) rfl rfl (fun _ => rfl) ga0 17 (by omega) rfl) ?_
 apply WM
 apply W_lazy
 ·rfl
 ·intro hB; (try simp only [hB, bss, ctt]); exact does_mv rfl
 apply W_lazy
 ·rfl
 ·intro hB; (try simp only [hB, bss, ctt]); exact does_nilchk_ptr rfl rfl
 apply W_lazy
 ·rfl
 ·intro hB; (try simp only [hB, bss, ctt]); exact does_add_ptr rfl rfl
 apply W_lazy
 ·rfl
 ·intro hB; (try simp only [hB, bss, ctt]); exact does_load1_rgF (k := 18) rfl rfl (fun _ => rfl) ga0 16 (by omega) rfl
 refine WQ (does_or rfl rfl rfl) ?_
 refine WQ (does_nilchk_ptr rfl rfl) ?_
 refine WQ (does_add_ptr rfl rfl) ?_
 refine W1 (does_store_rgF (e := e_S_row_Row) (n := 1) (k := 18) rfl rfl (fun _ => rfl) ga0 17 (by omega) rfl rfl rfl (by decide) (⟨(nth a0.xl a0i).xLasts, (nth a0.xl a0i).xNew, (nth a0.xl a0i).xOut, ((nth a0.xl a0i).xSent || (nth a0.xl a0i).xOut)⟩ : S_row_Row) rfl (by decide) rfl) ?_
 apply W_nil
 cases h
 (try simp only [qt, qb, qn])
 refine fin_end (xs := _) rfl ?_
 show _ ∧ _
 exact ⟨rfl, ⟨(by first | rfl | simp [setn_length, cpy_length, sortI_length]), ⟨(by first | rfl | simp [setn_length, cpy_length, sortI_length]), trivial⟩⟩⟩
/- (*reeve/nvm.Mem).Flush -/
def c_nvm_Mem_Flush : VCode := (.seq (.ops [(o (.mv (ci 0)) 4)]) (.seq (.seq (.ops [(w 6 0), (w 7 1), (w 8 0), (o (.nilchk (t 8)) 9), (o (.add 0 (t 9)) 10), (o (.load false 1 (t 10)) 11), (o (.len false (t 11)) 12), (o (.call 107 [(t 6), (t 7), (t 12)]) 13), (w 5 13)]) (.seq (.ops [(w 14 5), (o (.bin .neq 33 (t 14) (ci 0)) 15)]) (.cond (t 15) (.seq (.ops [(w 16 5), (w 4 16)]) .ret) .skip))) (.seq (.seq (.ops [(w 17 0), (o (.call 108 [(t 17)]) 18), (o (.un .not (t 18)) 19)]) (.cond (t 19) (.seq (.ops [(o (.mv (ci 12)) 4)]) .ret) .skip)) (.seq (.ops [(w 20 0), (o (.nilchk (t 20)) 21), (o (.add 0 (t 21)) 22), (o (.load false 1 (t 22)) 23), (w 24 1), (o (.idxS 18 (t 23) (t 24)) 25), (o (.call 112 [(t 25)]) 26)]) (.seq (.ops [(o (.mv (ci 0)) 4)]) .ret)))))
theorem f_nvm_Mem_Flush : Fits Tryz.prog 73 2 c_nvm_Mem_Flush [(.tmp 4)] := fits_mk Tryz.func73 (by kernel_rfl) (by kernel_rfl) (by kernel_rfl)
theorem p_nvm_Mem_Flush (F : Nat) (a0 : S_nvm_Mem) (a1 : Int) (r : S_nvm_Mem × Int) (h : m_nvm_Mem_Flush F a0 a1 = some r) : AC Tryz.prog 73 [S.one (.ptr 100900 0), S.one (.v (.int .i64 a1))] [(100900, (⟨false, [.own 100901 0 a0.xl.length (some (18, 86)), .v (.bool a0.xoff), .v (.int .i64 a0.xcount), .v (.int .i64 a0.xfuse), .sl (flat e_i_i64 a0.xkeep) a0.xkeep.length]⟩ : Reg)), (100901, (⟨true, flat e_S_row_Row a0.xl⟩ : Reg))] (fun x s' => x = S.one (.v (.int .i64 r.2)) ∧ leSt s' [(100900, (⟨false, [.own 100901 0 r.1.xl.length (some (18, 86)), .v (.bool r.1.xoff), .v (.int .i64 r.1.xcount), .v (.int .i64 r.1.xfuse), .sl (flat e_i_i64 r.1.xkeep) r.1.xkeep.length]⟩ : Reg)), (100901, (⟨true, flat e_S_row_Row r.1.xl⟩ : Reg))]) := by
 unfold m_nvm_Mem_Flush at h
 refine AC_go f_nvm_Mem_Flush rfl ?_
 intro C hP
 unfold c_nvm_Mem_Flush; dsimp
 apply E_seq
 apply E_ops
 apply WM
 apply W_nil
 refine E_keep [0, 1] [100900, 100901] ?_
 (try dsimp)
 apply E_seq
 apply E_seq
 apply E_ops
 apply WM
 apply WM
 apply WM
 refine WQ (does_nilchk_ptr rfl rfl) ?_
 refine WQ (does_add_ptr rfl rfl) ?_
 refine WQ (does_load1_ptr rfl rfl rfl) ?_
 refine WQ (does_len_own rfl rfl) ?_
 obtain ⟨x1, x1h, h⟩ := of_bind h
 refine W1 (does_callO [] false hP (p_nvm_Mem_may F a0 a1 ((a0.xl.length : Nat) : Int) x1 x1h) rfl ⟨rfl, rfl, trivial⟩ rfl rfl rfl rfl rfl (fun h => by first | rfl | cases h) rfl) ?_
 (try dsimp)
 apply WM
 apply W_nil
 refine E_keep [0, 1, 5] [100900, 100901] ?_
 (try dsimp)
 apply E_seq
 apply E_ops
 apply WM
 refine WQ (does_int rfl rfl rfl) ?_
 apply W_nil
 refine E_keep [0, 1, 5, 15] [100900, 100901] ?_
 (try dsimp)
 refine E_cond rfl (fun hc2 => ?_) (fun hc2 => ?_)
 ·replace h := of_ct h hc2
  apply E_seq
  apply E_ops
  apply WM
  apply WM
  apply W_nil
  refine E_keep [4] [100900, 100901] ?_
  (try dsimp)
  apply E_ret
  cases h
  (try simp only [qt, qb, qn])
  refine fin_mk (xs := _) ⟨_, rfl, rfl⟩ ?_
  show _ ∧ _
  exact ⟨rfl, ⟨(by first | rfl | simp [setn_length, cpy_length, sortI_length]), ⟨(by first | rfl | simp [setn_length, cpy_length, sortI_length]), trivial⟩⟩⟩
 ·replace h := of_cf h hc2
  apply E_skip
  refine E_keep [0, 1] [100900, 100901] ?_
  (try dsimp)
  apply E_seq
  apply E_seq
  apply E_ops
  apply WM
  obtain ⟨x3, x3h, h⟩ := of_bind h
  refine W1 (does_callO [] false hP (p_nvm_Mem_burn F a0 x3 x3h) rfl ⟨rfl, rfl, trivial⟩ rfl rfl rfl rfl rfl (fun h => by first | rfl | cases h) rfl) ?_
  (try dsimp)
  refine WQ (does_not rfl) ?_
  apply W_nil
  refine E_keep [0, 1, 19] [100900, 100901] ?_
  (try dsimp)
  refine E_cond rfl (fun hc4 => ?_) (fun hc4 => ?_)
  ·replace h := of_ct h hc4
   apply E_seq
   apply E_ops
   apply WM
   apply W_nil
   refine E_keep [4] [100900, 100901] ?_
   (try dsimp)
   apply E_ret
   cases h
   (try simp only [qt, qb, qn])
   refine fin_mk (xs := _) ⟨_, rfl, rfl⟩ ?_
   show _ ∧ _
   exact ⟨rfl, ⟨(by first | rfl | simp [setn_length, cpy_length, sortI_length]), ⟨(by first | rfl | simp [setn_length, cpy_length, sortI_length]), trivial⟩⟩⟩
  ·replace h := of_cf h hc4
   apply E_skip
   refine E_keep [0, 1] [100900, 100901] ?_
   (try dsimp)
   apply E_seq
   apply E_ops
   apply WM
   refine WQ (does_nilchk_ptr rfl rfl) ?_
   refine WQ (does_add_ptr rfl rfl) ?_
   refine WQ (does_load1_ptr rfl rfl rfl) ?_
   apply WM
   obtain ⟨g5, h⟩ := of_gd h
   refine WQ (does_idx_own rfl rfl rfl g5.1 g5.2) ?_
   obtain ⟨x6, x6h, h⟩ := of_bind h
   refine W1 (does_callO [] false hP (p_row_Row_Flush F x3.1 a1 _ (by omega) x6 x6h) rfl ⟨rfl, rfl, trivial⟩ rfl rfl rfl rfl rfl (fun h => by first | rfl | cases h) rfl) ?_
   (try dsimp)
   apply W_nil
   refine E_keep [] [100900, 100901] ?_
   (try dsimp)
   apply E_seq
   apply E_ops
   apply WM
   apply W_nil
   (try dsimp)
   apply E_ret
   cases h
   (try simp only [qt, qb, qn])
   refine fin_mk (xs := _) ⟨_, rfl, rfl⟩ ?_
   show _ ∧ _
   exact ⟨rfl, ⟨(by first | rfl | simp [setn_length, cpy_length, sortI_length]), ⟨(by first | rfl | simp [setn_length, cpy_length, sortI_length]), trivial⟩⟩⟩
/- (*reeve/row.Row).Fence -/
def c_row_Row_Fence : VCode := (.seq (.ops [(o (.mv (cb false)) 2)]) (.seq (.ops [(w 3 0), (o (.nilchk (t 3)) 4), (o (.add 17 (t 4)) 5), (o (.load false 1 (t 5)) 6), (w 7 6), (g_ (.mv (t 0)) 8 7 true), (g_ (.call 145 [(t 8)]) 9 7 true), (o (.pick (t 7) (t 9) (cb false)) 10), (w 2 10)]) .ret))
theorem f_row_Row_Fence : Fits Tryz.prog 113 1 c_row_Row_Fence [(.tmp 2)] := fits_mk Tryz.func113 (by kernel_rfl) (by kernel_rfl) (by kernel_rfl)
theorem p_row_Row_Fence (F : Nat) (a0 : S_nvm_Mem) (a0i : Int) (a0o : Nat) (a0h : a0o = a0i.toNat * 18) (r : S_nvm_Mem × Bool) (h : m_row_Row_Fence F a0 a0i = some r) : AC Tryz.prog 113 [S.one (.ptr 100901 a0o)] [(100900, (⟨false, [.own 100901 0 a0.xl.length (some (18, 86)), .v (.bool a0.xoff), .v (.int .i64 a0.xcount), .v (.int .i64 a0.xfuse), .sl (flat e_i_i64 a0.xkeep) a0.xkeep.length]⟩ : Reg)), (100901, (⟨true, flat e_S_row_Row a0.xl⟩ : Reg))] (fun x s' => x = S.one (.v (.bool r.2)) ∧ leSt s' [(100900, (⟨false, [.own 100901 0 r.1.xl.length (some (18, 86)), .v (.bool r.1.xoff), .v (.int .i64 r.1.xcount), .v (.int .i64 r.1.xfuse), .sl (flat e_i_i64 r.1.xkeep) r.1.xkeep.length]⟩ : Reg)), (100901, (⟨true, flat e_S_row_Row r.1.xl⟩ : Reg))]) := by
 unfold m_row_Row_Fence at h
 refine AC_go f_row_Row_Fence rfl ?_
 intro C hP
 unfold c_row_Row_Fence; dsimp
 obtain ⟨ga0, h⟩ := of_gd h
 apply E_seq
 apply E_ops
 apply WM
 apply W_nil
 refine E_keep [0] [100900, 100901] ?_
 (try dsimp)
 apply E_seq
 apply E_ops
 apply WM
 refine WQ (does_nilchk_ptr rfl rfl) ?_
 refine WQ (does_add_ptr rfl rfl) ?_
 refine WQ (does_load1_rgF (k := 18) rfl rfl (fun _ => rfl) ga0 17 (by omega) rfl) ?_
 apply WM
 rcases tf ((nth a0.xl a0i).xSent) with hs1 | hs1
 ·replace h := of_ct h hs1
  refine W_gD rfl hs1 ((does_mv rfl).does) ?_
  obtain ⟨x2, x2h, h⟩ := of_bind h
  refine W_gD rfl hs1 (does_callO [] false hP (p_row_Row_Evict F a0 a0i _ (by omega) x2 x2h) rfl ⟨rfl, rfl, trivial⟩ rfl rfl rfl rfl rfl (fun h => by first | rfl | cases h) rfl) ?_
  (try dsimp)
  refine WQ (does_pickT hs1 rfl rfl) ?_
  apply WM
  apply W_nil
  refine E_keep [2] [100900, 100901] ?_
  (try dsimp)
  apply E_ret
  cases h
  (try simp only [qt, qb, qn])
  refine fin_mk (xs := _) ⟨_, rfl, rfl⟩ ?_
  show _ ∧ _
  exact ⟨rfl, ⟨(by first | rfl | simp [setn_length, cpy_length, sortI_length]), ⟨(by first | rfl | simp [setn_length, cpy_length, sortI_length]), trivial⟩⟩⟩
 ·replace h := of_cf h hs1
  refine W_gF rfl hs1 ?_
  refine W_gF rfl hs1 ?_
  refine WQ (does_pickF hs1 rfl rfl) ?_
  apply WM
  apply W_nil
  refine E_keep [2] [100900, 100901] ?_
  (try dsimp)
  apply E_ret
  cases h
  (try simp only [qt, qb, qn])
  refine fin_mk (xs := _) ⟨_, rfl, rfl⟩ ?_
  show _ ∧ _
  exact ⟨rfl, ⟨(by first | rfl | simp [setn_length, cpy_length, sortI_length]), ⟨(by first | rfl | simp [setn_length, cpy_length, sortI_length]), trivial⟩⟩⟩
/- (*reeve/nvm.Mem).Fence -/
def c_nvm_Mem_Fence : VCode := (.seq (.ops [(o (.mv (ci 0)) 2)]) (.seq (.seq (.ops [(w 5 0), (o (.call 107 [(t 5), (ci 0), (ci 1)]) 6), (w 3 6)]) (.seq (.ops [(w 7 3), (o (.bin .neq 33 (t 7) (ci 0)) 8)]) (.cond (t 8) (.seq (.ops [(w 9 3), (w 2 9)]) .ret) .skip))) (.seq (.seq (.ops [(w 10 0), (o (.call 108 [(t 10)]) 11), (o (.un .not (t 11)) 12)]) (.cond (t 12) (.seq (.ops [(o (.mv (ci 12)) 2)]) .ret) .skip)) (.seq (.seq (.ops [(w 13 0), (o (.nilchk (t 13)) 14), (o (.add 0 (t 14)) 15), (o (.load false 1 (t 15)) 16), (o (.len false (t 16)) 17), (o (.mv (ci 0)) 18)]) (.block 0 (.loop (.seq (.ops [(o (.bin .lss 3 (t 18) (t 17)) 19)]) (.seq (.cond (t 19) .skip (.exit 0)) (.seq (.block 1 (.seq (.ops [(w 20 18), (w 4 20)]) (.ops [(w 21 0), (o (.nilchk (t 21)) 22), (o (.add 0 (t 22)) 23), (o (.load false 1 (t 23)) 24), (w 25 4), (o (.idxS 18 (t 24) (t 25)) 26), (o (.call 113 [(t 26)]) 27)]))) (.ops [(o (.bin .add 3 (t 18) (ci 1)) 28), (w 18 28)]))))))) (.seq (.ops [(o (.mv (ci 0)) 2)]) .ret)))))
theorem f_nvm_Mem_Fence : Fits Tryz.prog 74 1 c_nvm_Mem_Fence [(.tmp 2)] := fits_mk Tryz.func74 (by kernel_rfl) (by kernel_rfl) (by kernel_rfl)
theorem p_nvm_Mem_Fence (F : Nat) (a0 : S_nvm_Mem) (r : S_nvm_Mem × Int) (h : m_nvm_Mem_Fence F a0 = some r) : AC Tryz.prog 74 [S.one (.ptr 100900 0)] [(100900, (⟨false, [.own 100901 0 a0.xl.length (some (18, 86)), .v (.bool a0.xoff), .v (.int .i64 a0.xcount), .v (.int .i64 a0.xfuse), .sl (flat e_i_i64 a0.xkeep) a0.xkeep.length]⟩ : Reg)), (100901, (⟨true, flat e_S_row_Row a0.xl⟩ : Reg))] (fun x s' => x = S.one (.v (.int .i64 r.2)) ∧ leSt s' [(100900, (⟨false, [.own 100901 0 r.1.xl.length (some (18, 86)), .v (.bool r.1.xoff), .v (.int .i64 r.1.xcount), .v (.int .i64 r.1.xfuse), .sl (flat e_i_i64 r.1.xkeep) r.1.xkeep.length]⟩ : Reg)), (100901, (⟨true, flat e_S_row_Row r.1.xl⟩ : Reg))]) := by
 unfold m_nvm_Mem_Fence at h
 refine AC_go f_nvm_Mem_Fence rfl ?_
 intro C hP
 unfold c_nvm_Mem_Fence; dsimp
 apply E_seq
 apply E_ops
 apply WM
 apply W_nil
 refine E_keep [0] [100900, 100901] ?_
 (try dsimp)
 apply E_seq
 apply E_seq
 apply E_ops
 apply WM
 obtain ⟨x1, x1h, h⟩ := of_bind h
 refine W1 (does_callO [] false hP (p_nvm_Mem_may F a0 (0 : Int) (1 : Int) x1 x1h) rfl ⟨rfl, rfl, trivial⟩ rfl rfl rfl rfl rfl (fun h => by first | rfl | cases h) rfl) ?_
 (try dsimp)
 apply WM
 apply W_nil
 refine E_keep [0, 3] [100900, 100901] ?_
 (try dsimp)
 apply E_seq
 apply E_ops
 apply WM
 refine WQ (does_int rfl rfl rfl) ?_
 apply W_nil
 refine E_keep [0, 3, 8] [100900, 100901] ?_
 (try dsimp)
 refine E_cond rfl (fun hc2 => ?_) (fun hc2 => ?_)
 ·replace h := of_ct h hc2
  apply E_seq
  apply E_ops
  apply WM
  apply WM
  apply W_nil
  refine E_keep [2] [100900, 100901] ?_
  (try dsimp)
  apply E_ret
  cases h
  (try simp only [qt, qb, qn])
  refine fin_mk (xs := _) ⟨_, rfl, rfl⟩ ?_
  show _ ∧ _
  exact ⟨rfl, ⟨(by first | rfl | simp [setn_length, cpy_length, sortI_length]), ⟨(by first | rfl | simp [setn_length, cpy_length, sortI_length]), trivial⟩⟩⟩
 ·replace h := of_cf h hc2
  apply E_skip
  refine E_keep [0] [100900, 100901] ?_
  (try dsimp)
  apply E_seq
  apply E_seq
  apply E_ops
  apply WM
  obtain ⟨x3, x3h, h⟩ := of_bind h
  refine W1 (does_callO [] false hP (p_nvm_Mem_burn F a0 x3 x3h) rfl ⟨rfl, rfl, trivial⟩ rfl rfl rfl rfl rfl (fun h => by first | rfl | cases h) rfl) ?_
  (try dsimp)
  refine WQ (does_not rfl) ?_
  apply W_nil
  refine E_keep [0, 12] [100900, 100901] ?_
  (try dsimp)
  refine E_cond rfl (fun hc4 => ?_) (fun hc4 => ?_)
  ·replace h := of_ct h hc4
   apply E_seq
   apply E_ops
   apply WM
   apply W_nil
   refine E_keep [2] [100900, 100901] ?_
   (try dsimp)
   apply E_ret
   cases h
   (try simp only [qt, qb, qn])
   refine fin_mk (xs := _) ⟨_, rfl, rfl⟩ ?_
   show _ ∧ _
   exact ⟨rfl, ⟨(by first | rfl | simp [setn_length, cpy_length, sortI_length]), ⟨(by first | rfl | simp [setn_length, cpy_length, sortI_length]), trivial⟩⟩⟩
  ·replace h := of_cf h hc4
   apply E_skip
   refine E_keep [0] [100900, 100901] ?_
   (try dsimp)
   obtain ⟨k10, k10d, h⟩ := of_jn h
   refine E_seqJ (α := (List S_row_Row) × Bool × Int × Int × (List Int)) (fun (i : (List S_row_Row) × Bool × Int × Int × (List Int)) => (⟨[], [(100900, (⟨false, [.own 100901 0 i.1.length (some (18, 86)), .v (.bool i.2.1), .v (.int .i64 i.2.2.1), .v (.int .i64 i.2.2.2.1), .sl (flat e_i_i64 i.2.2.2.2) i.2.2.2.2.length]⟩ : Reg)), (100901, (⟨true, flat e_S_row_Row i.1⟩ : Reg))]⟩ : St)) (fun i => k10 i.1 i.2.1 i.2.2.1 i.2.2.2.1 i.2.2.2.2 = some r) (fun i h => ?_) ?_
   ·obtain ⟨v5, v6, v7, v8, v9⟩ := i
    rw [k10d] at h; dsimp only at h
    (try dsimp)
    apply E_seq
    apply E_ops
    apply WM
    apply W_nil
    (try dsimp)
    apply E_ret
    cases h
    (try simp only [qt, qb, qn])
    refine fin_mk (xs := _) ⟨_, rfl, rfl⟩ ?_
    show _ ∧ _
    exact ⟨rfl, ⟨(by first | rfl | simp [setn_length, cpy_length, sortI_length]), ⟨(by first | rfl | simp [setn_length, cpy_length, sortI_length]), trivial⟩⟩⟩
   ·
    skip
    apply E_seq
    apply E_ops
    apply WM
    refine WQ (does_nilchk_ptr rfl rfl) ?_
    refine WQ (does_add_ptr rfl rfl) ?_
    refine WQ (does_load1_ptr rfl rfl rfl) ?_
    refine WQ (does_len_own rfl rfl) ?_
    apply WM
    apply W_nil
    refine E_keep [0, 17, 18] [100900, 100901] ?_
    (try dsimp)
    apply E_block
    (try dsimp)
    refine E_loopB (α := Int × (List S_row_Row) × Bool × Int × Int × (List Int)) (fun (i : Int × (List S_row_Row) × Bool × Int × Int × (List Int)) => (⟨[(0, S.one (.ptr 100900 0)), (17, S.one (.v (.int .i64 ((x3.1.xl.length : Nat) : Int)))), (18, S.one (.v (.int .i64 i.1)))], [(100900, (⟨false, [.own 100901 0 i.2.1.length (some (18, 86)), .v (.bool i.2.2.1), .v (.int .i64 i.2.2.2.1), .v (.int .i64 i.2.2.2.2.1), .sl (flat e_i_i64 i.2.2.2.2.2) i.2.2.2.2.2.length]⟩ : Reg)), (100901, (⟨true, flat e_S_row_Row i.2.1⟩ : Reg))]⟩ : St)) (fun n i => m_nvm_Mem_Fence_l0 F x3 k10 n i.1 i.2.1 i.2.2.1 i.2.2.2.1 i.2.2.2.2.1 i.2.2.2.2.2 = some r) F ((0 : Int), x3.1.xl, x3.1.xoff, x3.1.xcount, x3.1.xfuse, x3.1.xkeep) h ?_ (fun n i h => ?_)
    ·
     exact (Le.b (le_mk ⟨rfl, rfl, rfl, trivial⟩ ⟨rfl, rfl, trivial⟩))
    obtain ⟨v25, v26, v27, v28, v29, v30⟩ := i; dsimp only at h
    cases n with
    | zero => cases h
    | succ n31 =>
     unfold m_nvm_Mem_Fence_l0 at h
     (try dsimp)
     apply E_seq
     apply E_ops
     refine WQ (does_int rfl rfl rfl) ?_
     apply W_nil
     (try dsimp)
     apply E_seq
     refine E_cond rfl (fun hc32 => ?_) (fun hc32 => ?_)
     ·replace h := of_ct h hc32
      apply E_skip
      refine E_keep [0, 17, 18] [100900, 100901] ?_
      (try dsimp)
      apply E_seq
      apply E_block
      apply E_seq
      apply E_ops
      apply WM
      apply WM
      apply W_nil
      refine E_keep [0, 4, 17, 18] [100900, 100901] ?_
      (try dsimp)
      apply E_ops
      apply WM
      refine WQ (does_nilchk_ptr rfl rfl) ?_
      refine WQ (does_add_ptr rfl rfl) ?_
      refine WQ (does_load1_ptr rfl rfl rfl) ?_
      apply WM
      obtain ⟨g33, h⟩ := of_gd h
      refine WQ (does_idx_own rfl rfl rfl g33.1 g33.2) ?_
      obtain ⟨x34, x34h, h⟩ := of_bind h
      refine W1 (does_callO [] false hP (p_row_Row_Fence F (⟨v26, v27, v28, v29, v30⟩ : S_nvm_Mem) v25 _ (by omega) x34 x34h) rfl ⟨rfl, rfl, trivial⟩ rfl rfl rfl rfl rfl (fun h => by first | rfl | cases h) rfl) ?_
      (try dsimp)
      apply W_nil
      refine E_keep [0, 17, 18] [100900, 100901] ?_
      (try dsimp)
      apply E_ops
      obtain ⟨g35, h⟩ := of_gd h
      refine WQ (does_add rfl rfl g35.1 g35.2) ?_
      apply WM
      apply W_nil
      refine ⟨n31, ((v25 + (1 : Int)), x34.1.xl, x34.1.xoff, x34.1.xcount, x34.1.xfuse, x34.1.xkeep), Nat.lt_succ_self _, h, ?_⟩
      exact (Le.b (le_mk ⟨rfl, rfl, rfl, trivial⟩ ⟨rfl, rfl, trivial⟩))
     ·replace h := of_cf h hc32
      apply E_exit
      refine ⟨(v26, v27, v28, v29, v30), h, ?_⟩
      exact (Le.b (le_mk trivial ⟨rfl, rfl, trivial⟩))
/- reeve/boot.last -/
def c_boot_last : VCode := (.seq (.ops [(o (.mv (ci 0)) 4)]) (.seq (.seq (.ops [(w 11 1), (o (.len false (t 11)) 12), (o (.mv (ci 0)) 13)]) (.block 0 (.loop (.seq (.ops [(o (.bin .lss 3 (t 13) (t 12)) 14)]) (.seq (.cond (t 14) .skip (.exit 0)) (.seq (.block 1 (.seq (.ops [(o (.idxS 2 (t 11) (t 13)) 15), (o (.load true 2 (t 15)) 16), (o (.newv [zi, zu]) 6), (n_ (.store 2 (t 6) (t 16)))]) (.seq (.ops [(w 17 0), (o (.add 0 (t 6)) 18), (o (.load false 1 (t 18)) 19), (o (.add 1 (t 6)) 20), (o (.load false 1 (t 20)) 21), (o (.call 71 [(t 17), (t 19), (t 21)]) 22), (w 7 22)]) (.seq (.ops [(w 23 7), (o (.bin .neq 33 (t 23) (ci 0)) 24)]) (.cond (t 24) (.seq (.ops [(w 25 7), (w 4 25)]) .ret) .skip))))) (.ops [(o (.bin .add 3 (t 13) (ci 1)) 26), (w 13 26)]))))))) (.seq (.seq (.ops [(w 27 1), (o (.call 72 [(t 27)]) 28), (o (.len false (t 28)) 29), (o (.mv (ci 0)) 30)]) (.block 2 (.loop (.seq (.ops [(o (.bin .lss 3 (t 30) (t 29)) 31)]) (.seq (.cond (t 31) .skip (.exit 2)) (.seq (.block 3 (.seq (.ops [(o (.idxS 1 (t 28) (t 30)) 32), (o (.load false 1 (t 32)) 33), (w 9 33)]) (.seq (.ops [(w 34 0), (w 35 9), (o (.call 73 [(t 34), (t 35)]) 36), (w 10 36)]) (.seq (.ops [(w 37 10), (o (.bin .neq 33 (t 37) (ci 0)) 38)]) (.cond (t 38) (.seq (.ops [(w 39 10), (w 4 39)]) .ret) .skip))))) (.ops [(o (.bin .add 3 (t 30) (ci 1)) 40), (w 30 40)]))))))) (.seq (.ops [(w 41 0), (o (.call 74 [(t 41)]) 42), (w 4 42)]) .ret))))
theorem f_boot_last : Fits Tryz.prog 35 2 c_boot_last [(.tmp 4)] := fits_mk Tryz.func35 (by kernel_rfl) (by kernel_rfl) (by kernel_rfl)
theorem p_boot_last (F : Nat) (a0 : S_nvm_Mem) (a1 : (List S_wset_Write)) (r : S_nvm_Mem × Int) (h : m_boot_last F a0 a1 = some r) : AC Tryz.prog 35 [S.one (.ptr 100900 0), S.one (.sl (flat e_S_wset_Write a1) a1.length)] [(100900, (⟨false, [.own 100901 0 a0.xl.length (some (18, 86)), .v (.bool a0.xoff), .v (.int .i64 a0.xcount), .v (.int .i64 a0.xfuse), .sl (flat e_i_i64 a0.xkeep) a0.xkeep.length]⟩ : Reg)), (100901, (⟨true, flat e_S_row_Row a0.xl⟩ : Reg))] (fun x s' => x = S.one (.v (.int .i64 r.2)) ∧ leSt s' [(100900, (⟨false, [.own 100901 0 r.1.xl.length (some (18, 86)), .v (.bool r.1.xoff), .v (.int .i64 r.1.xcount), .v (.int .i64 r.1.xfuse), .sl (flat e_i_i64 r.1.xkeep) r.1.xkeep.length]⟩ : Reg)), (100901, (⟨true, flat e_S_row_Row r.1.xl⟩ : Reg))]) := by
 unfold m_boot_last at h
 refine AC_go f_boot_last rfl ?_
 intro C hP
 unfold c_boot_last; dsimp
 apply E_seq
 apply E_ops
 apply WM
 apply W_nil
 refine E_keep [0, 1] [100900, 100901] ?_
 (try dsimp)
 obtain ⟨k6, k6d, h⟩ := of_jn h
 refine E_seqJ (α := (List S_row_Row) × Bool × Int × Int × (List Int)) (fun (i : (List S_row_Row) × Bool × Int × Int × (List Int)) => (⟨[(0, S.one (.ptr 100900 0)), (1, S.one (.sl (flat e_S_wset_Write a1) a1.length))], [(100900, (⟨false, [.own 100901 0 i.1.length (some (18, 86)), .v (.bool i.2.1), .v (.int .i64 i.2.2.1), .v (.int .i64 i.2.2.2.1), .sl (flat e_i_i64 i.2.2.2.2) i.2.2.2.2.length]⟩ : Reg)), (100901, (⟨true, flat e_S_row_Row i.1⟩ : Reg))]⟩ : St)) (fun i => k6 i.1 i.2.1 i.2.2.1 i.2.2.2.1 i.2.2.2.2 = some r) (fun i h => ?_) ?_
 ·obtain ⟨v1, v2, v3, v4, v5⟩ := i
  rw [k6d] at h; dsimp only at h
  (try dsimp)
  obtain ⟨k12, k12d, h⟩ := of_jn h
  refine E_seqJ (α := (List S_row_Row) × Bool × Int × Int × (List Int)) (fun (i : (List S_row_Row) × Bool × Int × Int × (List Int)) => (⟨[(0, S.one (.ptr 100900 0))], [(100900, (⟨false, [.own 100901 0 i.1.length (some (18, 86)), .v (.bool i.2.1), .v (.int .i64 i.2.2.1), .v (.int .i64 i.2.2.2.1), .sl (flat e_i_i64 i.2.2.2.2) i.2.2.2.2.length]⟩ : Reg)), (100901, (⟨true, flat e_S_row_Row i.1⟩ : Reg))]⟩ : St)) (fun i => k12 i.1 i.2.1 i.2.2.1 i.2.2.2.1 i.2.2.2.2 = some r) (fun i h => ?_) ?_
  ·obtain ⟨v7, v8, v9, v10, v11⟩ := i
   rw [k12d] at h; dsimp only at h
   (try dsimp)
   apply E_seq
   apply E_ops
   apply WM
   obtain ⟨x13, x13h, h⟩ := of_bind h
   refine W1 (does_callO [] false hP (p_nvm_Mem_Fence F (⟨v7, v8, v9, v10, v11⟩ : S_nvm_Mem) x13 x13h) rfl ⟨rfl, rfl, trivial⟩ rfl rfl rfl rfl rfl (fun h => by first | rfl | cases h) rfl) ?_
   (try dsimp)
   apply WM
   apply W_nil
   refine E_keep [4] [100900, 100901] ?_
   (try dsimp)
   apply E_ret
   cases h
   (try simp only [qt, qb, qn])
   refine fin_mk (xs := _) ⟨_, rfl, rfl⟩ ?_
   show _ ∧ _
   exact ⟨rfl, ⟨(by first | rfl | simp [setn_length, cpy_length, sortI_length]), ⟨(by first | rfl | simp [setn_length, cpy_length, sortI_length]), trivial⟩⟩⟩
  ·
   skip
   apply E_seq
   apply E_ops
   apply WM
   obtain ⟨x14, x14h, h⟩ := of_bind h
   refine W1 (does_call1 hP (p_wset_Rows F a1 x14 x14h) rfl rfl rfl) ?_
   refine WQ (does_len_sl rfl) ?_
   apply WM
   apply W_nil
   refine E_keep [0, 28, 29, 30] [100900, 100901] ?_
   (try dsimp)
   apply E_block
   (try dsimp)
   refine E_loopB (α := Int × (List S_row_Row) × Bool × Int × Int × (List Int)) (fun (i : Int × (List S_row_Row) × Bool × Int × Int × (List Int)) => (⟨[(0, S.one (.ptr 100900 0)), (28, S.one (.sl (flat e_i_i64 x14) x14.length)), (29, S.one (.v (.int .i64 ((x14.length : Nat) : Int)))), (30, S.one (.v (.int .i64 i.1)))], [(100900, (⟨false, [.own 100901 0 i.2.1.length (some (18, 86)), .v (.bool i.2.2.1), .v (.int .i64 i.2.2.2.1), .v (.int .i64 i.2.2.2.2.1), .sl (flat e_i_i64 i.2.2.2.2.2) i.2.2.2.2.2.length]⟩ : Reg)), (100901, (⟨true, flat e_S_row_Row i.2.1⟩ : Reg))]⟩ : St)) (fun n i => m_boot_last_l0 F k12 x14 n i.1 i.2.1 i.2.2.1 i.2.2.2.1 i.2.2.2.2.1 i.2.2.2.2.2 = some r) F ((0 : Int), v1, v2, v3, v4, v5) h ?_ (fun n i h => ?_)
   ·
    exact (Le.b (le_mk ⟨rfl, rfl, rfl, rfl, trivial⟩ ⟨rfl, rfl, trivial⟩))
   obtain ⟨v31, v32, v33, v34, v35, v36⟩ := i; dsimp only at h
   cases n with
   | zero => cases h
   | succ n37 =>
    unfold m_boot_last_l0 at h
    (try dsimp)
    apply E_seq
    apply E_ops
    refine WQ (does_int rfl rfl rfl) ?_
    apply W_nil
    (try dsimp)
    apply E_seq
    refine E_cond rfl (fun hc38 => ?_) (fun hc38 => ?_)
    ·replace h := of_ct h hc38
     apply E_skip
     refine E_keep [0, 28, 29, 30] [100900, 100901] ?_
     (try dsimp)
     apply E_seq
     apply E_block
     apply E_seq
     apply E_ops
     obtain ⟨g39, h⟩ := of_gd h
     refine WQ (does_idx_sl rfl rfl g39.1 g39.2) ?_
     refine WQ (does_load1_slF (k := 1) rfl (fun _ => rfl) g39 0 rfl rfl) ?_
     apply WM
     apply W_nil
     refine E_keep [0, 9, 28, 29, 30] [100900, 100901] ?_
     (try dsimp)
     apply E_seq
     apply E_ops
     apply WM
     apply WM
     obtain ⟨x40, x40h, h⟩ := of_bind h
     refine W1 (does_callO [] false hP (p_nvm_Mem_Flush F (⟨v32, v33, v34, v35, v36⟩ : S_nvm_Mem) (nth x14 v31) x40 x40h) rfl ⟨rfl, rfl, trivial⟩ rfl rfl rfl rfl rfl (fun h => by first | rfl | cases h) rfl) ?_
     (try dsimp)
     apply WM
     apply W_nil
     refine E_keep [0, 10, 28, 29, 30] [100900, 100901] ?_
     (try dsimp)
     apply E_seq
     apply E_ops
     apply WM
     refine WQ (does_int rfl rfl rfl) ?_
     apply W_nil
     refine E_keep [0, 10, 28, 29, 30, 38] [100900, 100901] ?_
     (try dsimp)
     refine E_cond rfl (fun hc41 => ?_) (fun hc41 => ?_)
     ·replace h := of_ct h hc41
      apply E_seq
      apply E_ops
      apply WM
      apply WM
      apply W_nil
      refine E_keep [4] [100900, 100901] ?_
      (try dsimp)
      apply E_ret
      cases h
      (try simp only [qt, qb, qn])
      refine fin_mk (xs := _) ⟨_, rfl, rfl⟩ ?_
      show _ ∧ _
      exact ⟨rfl, ⟨(by first | rfl | simp [setn_length, cpy_length, sortI_length]), ⟨(by first | rfl | simp [setn_length, cpy_length, sortI_length]), trivial⟩⟩⟩
     ·replace h := of_cf h hc41
      apply E_skip
      refine E_keep [0, 28, 29, 30] [100900, 100901] ?_
      (try dsimp)
      apply E_ops
      obtain ⟨g42, h⟩ := of_gd h
      refine WQ (does_add rfl rfl g42.1 g42.2) ?_
      apply WM
      apply W_nil
      refine ⟨n37, ((v31 + (1 : Int)), x40.1.xl, x40.1.xoff, x40.1.xcount, x40.1.xfuse, x40.1.xkeep), Nat.lt_succ_self _, h, ?_⟩
      exact (Le.b (le_mk ⟨rfl, rfl, rfl, rfl, trivial⟩ ⟨rfl, rfl, trivial⟩))
    ·replace h := of_cf h hc38
     apply E_exit
     refine ⟨(v32, v33, v34, v35, v36), h, ?_⟩
     exact (Le.b (le_mk ⟨rfl, trivial⟩ ⟨rfl, rfl, trivial⟩))
 ·
  skip
  apply E_seq
  apply E_ops
  apply WM
  refine WQ (does_len_sl rfl) ?_
  apply WM
  apply W_nil
  (try dsimp)
  apply E_block
  (try dsimp)
  refine E_loopB (α := Int × (List S_row_Row) × Bool × Int × Int × (List Int)) (fun (i : Int × (List S_row_Row) × Bool × Int × Int × (List Int)) => (⟨[(0, S.one (.ptr 100900 0)), (1, S.one (.sl (flat e_S_wset_Write a1) a1.length)), (11, S.one (.sl (flat e_S_wset_Write a1) a1.length)), (12, S.one (.v (.int .i64 ((a1.length : Nat) : Int)))), (13, S.one (.v (.int .i64 i.1)))], [(100900, (⟨false, [.own 100901 0 i.2.1.length (some (18, 86)), .v (.bool i.2.2.1), .v (.int .i64 i.2.2.2.1), .v (.int .i64 i.2.2.2.2.1), .sl (flat e_i_i64 i.2.2.2.2.2) i.2.2.2.2.2.length]⟩ : Reg)), (100901, (⟨true, flat e_S_row_Row i.2.1⟩ : Reg))]⟩ : St)) (fun n i => m_boot_last_l1 F a1 k6 n i.1 i.2.1 i.2.2.1 i.2.2.2.1 i.2.2.2.2.1 i.2.2.2.2.2 = some r) F ((0 : Int), a0.xl, a0.xoff, a0.xcount, a0.xfuse, a0.xkeep) h ?_ (fun n i h => ?_)
  ·
   exact (Le.b (le_mk ⟨rfl, rfl, rfl, rfl, rfl, trivial⟩ ⟨rfl, rfl, trivial⟩))
  obtain ⟨v59, v60, v61, v62, v63, v64⟩ := i; dsimp only at h
  cases n with
  | zero => cases h
  | succ n65 =>
   unfold m_boot_last_l1 at h
   (try dsimp)
   apply E_seq
   apply E_ops
   refine WQ (does_int rfl rfl rfl) ?_
   apply W_nil
   (try dsimp)
   apply E_seq
   refine E_cond rfl (fun hc66 => ?_) (fun hc66 => ?_)
   ·replace h := of_ct h hc66
    apply E_skip
    refine E_keep [0, 1, 11, 12, 13] [100900, 100901] ?_
    (try dsimp)
    apply E_seq
    apply E_block
    apply E_seq
    apply E_ops
    obtain ⟨g67, h⟩ := of_gd h
    refine WQ (does_idx_sl rfl rfl g67.1 g67.2) ?_
    refine WQ (does_loadA_slF (k := 2) rfl (fun _ => rfl) g67 0 rfl rfl rfl) ?_
    refine W1 (does_newv rfl rfl) ?_
    refine W1 (does_store rfl rfl rfl rfl rfl (Nat.le_of_ble_eq_true rfl) rfl (by decide)) ?_
    apply W_nil
    refine E_keep [0, 1, 6, 11, 12, 13] [6, 100900, 100901] ?_
    (try dsimp)
    apply E_seq
    apply E_ops
    apply WM
    refine WQ (does_add_ptr rfl rfl) ?_
    refine WQ (does_load1_ptr rfl rfl rfl) ?_
    refine WQ (does_add_ptr rfl rfl) ?_
    refine WQ (does_load1_ptr rfl rfl rfl) ?_
    obtain ⟨x68, x68h, h⟩ := of_bind h
    refine W1 (does_callO [] false hP (p_nvm_Mem_Store F (⟨v60, v61, v62, v63, v64⟩ : S_nvm_Mem) ((nth a1 v59).xAt) ((nth a1 v59).xV) x68 x68h) rfl ⟨rfl, rfl, trivial⟩ rfl rfl rfl rfl rfl (fun h => by first | rfl | cases h) rfl) ?_
    (try dsimp)
    apply WM
    apply W_nil
    refine E_keep [0, 1, 7, 11, 12, 13] [100900, 100901] ?_
    (try dsimp)
    apply E_seq
    apply E_ops
    apply WM
    refine WQ (does_int rfl rfl rfl) ?_
    apply W_nil
    refine E_keep [0, 1, 7, 11, 12, 13, 24] [100900, 100901] ?_
    (try dsimp)
    refine E_cond rfl (fun hc69 => ?_) (fun hc69 => ?_)
    ·replace h := of_ct h hc69
     apply E_seq
     apply E_ops
     apply WM
     apply WM
     apply W_nil
     refine E_keep [4] [100900, 100901] ?_
     (try dsimp)
     apply E_ret
     cases h
     (try simp only [qt, qb, qn])
     refine fin_mk (xs := _) ⟨_, rfl, rfl⟩ ?_
     show _ ∧ _
     exact ⟨rfl, ⟨(by first | rfl | simp [setn_length, cpy_length, sortI_length]), ⟨(by first | rfl | simp [setn_length, cpy_length, sortI_length]), trivial⟩⟩⟩
    ·replace h := of_cf h hc69
     apply E_skip
     refine E_keep [0, 1, 11, 12, 13] [100900, 100901] ?_
     (try dsimp)
     apply E_ops
     obtain ⟨g70, h⟩ := of_gd h
     refine WQ (does_add rfl rfl g70.1 g70.2) ?_
     apply WM
     apply W_nil
     refine ⟨n65, ((v59 + (1 : Int)), x68.1.xl, x68.1.xoff, x68.1.xcount, x68.1.xfuse, x68.1.xkeep), Nat.lt_succ_self _, h, ?_⟩
     exact (Le.b (le_mk ⟨rfl, rfl, rfl, rfl, rfl, trivial⟩ ⟨rfl, rfl, trivial⟩))
   ·replace h := of_cf h hc66
    apply E_exit
    refine ⟨(v60, v61, v62, v63, v64), h, ?_⟩
    exact (Le.b (le_mk ⟨rfl, rfl, trivial⟩ ⟨rfl, rfl, trivial⟩))
/- reeve/gear.New -/
def c_gear_New : VCode := (.seq (.ops [(o (.mv cp) 2), (o (.mv (ci 0)) 3)]) (.seq (.seq (.ops [(w 12 0), (o (.eqP false (t 12) cp) 13)]) (.cond (t 13) (.seq (.ops [(o (.mv cp) 2), (o (.mv (ci 1)) 3)]) .ret) .skip)) (.seq (.seq (.ops [(w 14 0), (o (.call 32 [(t 14)]) 15)]) (.cond (t 15) (.seq (.ops [(o (.mv cp) 2), (o (.mv (ci 12)) 3)]) .ret) .skip)) (.seq (.ops [(w 16 0), (o (.call 11 [(t 16)]) 17), (w 4 17)]) (.seq (.ops [(w 19 4), (o (.call 54 [(t 19)]) 20), (w 18 20), (o (.ext 0 (t 18)) 21), (o (.ext 1 (t 18)) 22), (o (.newv [zi, zi, zi, .nil, .nil]) 5), (n_ (.store 5 (t 5) (t 21))), (w 6 22)]) (.seq (.seq (.ops [(w 23 6), (o (.bin .neq 33 (t 23) (ci 0)) 24), (w 25 24), (g_ (.mv (t 4)) 26 25 false), (g_ (.add 0 (t 5)) 27 25 false), (g_ (.load true 3 (t 27)) 28 25 false), (g_ (.call 69 [(t 28)]) 29 25 false), (g_ (.idxS 1 (t 26) (t 29)) 30 25 false), (g_ (.load false 1 (t 30)) 31 25 false), (g_ (.bin .neq 42 (t 31) (.const (.int .u64 0))) 32 25 false), (o (.pick (t 25) (cb true) (t 32)) 33)]) (.cond (t 33) (.seq (.ops [(o (.mv cp) 2), (o (.mv (ci 2)) 3)]) .ret) .skip)) (.seq (.seq (.ops [(o (.add 0 (t 5)) 34), (o (.add 0 (t 34)) 35), (o (.load false 1 (t 35)) 36), (o (.mv (ci 0)) 37)]) (.block 0 (.loop (.seq (.ops [(o (.bin .lss 3 (t 37) (t 36)) 38)]) (.seq (.cond (t 38) .skip (.exit 0)) (.seq (.block 1 (.seq (.ops [(w 39 37), (w 7 39)]) (.seq (.ops [(o (.add 0 (t 5)) 41), (o (.load true 3 (t 41)) 42), (w 43 7), (o (.call 30 [(t 42), (t 43)]) 44), (w 40 44), (o (.ext 0 (t 40)) 45), (o (.ext 1 (t 40)) 46), (w 8 45), (w 9 46)]) (.seq (.draw [((o (.add 0 (t 5)) 48), []), ((o (.load true 3 (t 48)) 49), [0]), ((w 50 4), []), ((w 51 8), []), ((w 52 8), []), ((w 53 9), []), ((o (.bin .add 3 (t 52) (t 53)) 54), [4, 5]), ((o (.slc 1 (t 50) (.some (t 51)) (.some (t 54)) .none) 55), [2, 3, 6]), ((o (.call 68 [(t 49), (t 55)]) 56), [1, 7]), ((w 47 56), [8]), ((o (.ext 0 (t 47)) 57), [9]), ((o (.ext 1 (t 47)) 58), [9]), ((o (.newv [zi, zu, zu, zu, zu, zu, zi, zu, zi, .nil]) 10), []), ((n_ (.store 10 (t 10) (t 57))), [12, 10, 8, 0, 1, 2, 3, 4, 5, 6, 7, 8, 9, 10, 12]), ((w 11 58), [11, 13, 0, 1, 2, 3, 4, 5, 6, 7, 8, 9, 10, 11, 12, 13])]) (.seq (.ops [(w 59 11), (o (.un .not (t 59)) 60), (w 61 60), (g_ (.add 0 (t 10)) 62 61 false), (g_ (.load false 1 (t 62)) 63 61 false), (g_ (.bin .eql 3 (t 63) (ci 1)) 64 61 false), (o (.pick (t 61) (cb true) (t 64)) 65), (w 66 65), (g_ (.add 0 (t 10)) 67 66 false), (g_ (.load false 1 (t 67)) 68 66 false), (g_ (.bin .eql 3 (t 68) (ci 2)) 69 66 false), (o (.pick (t 66) (cb true) (t 69)) 70)]) (.cond (t 70) (.seq (.ops [(o (.mv cp) 2), (o (.mv (ci 2)) 3)]) .ret) .skip)))))) (.ops [(o (.bin .add 3 (t 37) (ci 1)) 71), (w 37 71)]))))))) (.seq (.draw [((w 72 0), []), ((o (.add 0 (t 5)) 73), []), ((o (.load true 3 (t 73)) 74), [1]), ((o (.add 0 (t 5)) 75), []), ((o (.add 0 (t 75)) 76), [3]), ((o (.load false 1 (t 76)) 77), [4]), ((o (.mk 136 291 12 128 [zi, zi, zu, zu, zu, zu, zu, zi, zu, zi, .nil, .nil] (t 77) (t 77)) 78), [5, 5]), ((o (.build [(.v (.pointer .none)), zi, zi, zi, .nil, .nil, zb] [(0, (1, (t 72))), (1, (3, (t 74))), (4, (1, (t 78)))]) 79), [0, 2, 6]), ((o (.box 138 (t 79)) 80), [7]), ((w 2 80), [8, 0, 1, 2, 3, 4, 5, 6, 7, 8]), ((o (.mv (ci 0)) 3), [9, 0, 1, 2, 3, 4, 5, 6, 7, 8, 9])]) .ret))))))))
theorem f_gear_New : Fits Tryz.prog 36 1 c_gear_New [(.tmp 2), (.tmp 3)] := fits_mk Tryz.func36 (by kernel_rfl) (by kernel_rfl) (by kernel_rfl)
theorem p_gear_New (F : Nat) (a0 : S_nvm_Mem) (r : Option S_gear_Gear × Int) (h : m_gear_New F a0 = some r) : AC Tryz.prog 36 [S.one (.ptr 100900 0)] [(100900, (⟨false, [.own 100901 0 a0.xl.length (some (18, 86)), .v (.bool a0.xoff), .v (.int .i64 a0.xcount), .v (.int .i64 a0.xfuse), .sl (flat e_i_i64 a0.xkeep) a0.xkeep.length]⟩ : Reg)), (100901, (⟨true, flat e_S_row_Row a0.xl⟩ : Reg))] (fun x s' => optQ (r.1) (x = S.tup [S.one (.v (.pointer none)), S.one (.v (.int .i64 r.2))] ∧ leSt s' [(100900, (⟨false, [.own 100901 0 a0.xl.length (some (18, 86)), .v (.bool a0.xoff), .v (.int .i64 a0.xcount), .v (.int .i64 a0.xfuse), .sl (flat e_i_i64 a0.xkeep) a0.xkeep.length]⟩ : Reg)), (100901, (⟨true, flat e_S_row_Row a0.xl⟩ : Reg))]) (fun G => x = S.tup [S.one (.ptr 80 0), S.one (.v (.int .i64 r.2))] ∧ leSt s' [(78, (⟨true, flat e_S_gear_work G.xw⟩ : Reg)), (80, (⟨false, [.ptr 100900 0, .v (.int .i64 G.xgeo.xThreads), .v (.int .i64 G.xgeo.xSlots), .v (.int .i64 G.xgeo.xThings), .own 78 0 G.xw.length (some (12, 291)), .own 6805 0 G.xorder.length (some (1, 3)), .v (.bool G.xdead)]⟩ : Reg)), (6805, (⟨true, flat e_i_i64 G.xorder⟩ : Reg)), (100900, (⟨false, [.own 100901 0 a0.xl.length (some (18, 86)), .v (.bool a0.xoff), .v (.int .i64 a0.xcount), .v (.int .i64 a0.xfuse), .sl (flat e_i_i64 a0.xkeep) a0.xkeep.length]⟩ : Reg)), (100901, (⟨true, flat e_S_row_Row a0.xl⟩ : Reg))])) := by
 unfold m_gear_New at h
 refine AC_go f_gear_New rfl ?_
 intro C hP
 unfold c_gear_New; dsimp
 apply E_seq
 apply E_ops
 apply WM
 apply WM
 apply W_nil
 refine E_keep [0] [100900, 100901] ?_
 (try dsimp)
 apply E_seq
 apply E_seq
 apply E_ops
 apply WM
 refine WQ (does_eqP_ptr rfl rfl rfl) ?_
 apply W_nil
 refine E_keep [0, 13] [100900, 100901] ?_
 (try dsimp)
 refine E_cond rfl (fun hc1 => ?_) (fun hc1 => ?_)
 ·cases hc1
 ·
  apply E_skip
  refine E_keep [0] [100900, 100901] ?_
  (try dsimp)
  apply E_seq
  apply E_seq
  apply E_ops
  apply WM
  obtain ⟨x2, x2h, h⟩ := of_bind h
  refine W1 (does_callO [] false hP (p_nvm_Mem_Off F a0 x2 x2h) rfl ⟨rfl, rfl, trivial⟩ rfl rfl rfl rfl rfl (fun h => by first | rfl | cases h) rfl) ?_
  (try dsimp)
  apply W_nil
  refine E_keep [0, 15] [100900, 100901] ?_
  (try dsimp)
  refine E_cond rfl (fun hc3 => ?_) (fun hc3 => ?_)
  ·replace h := of_ct h hc3
   apply E_seq
   apply E_ops
   apply WM
   apply WM
   apply W_nil
   refine E_keep [2, 3] [100900, 100901] ?_
   (try dsimp)
   apply E_ret
   cases h
   (try simp only [qt, qb, qn])
   refine fin_mk (xs := _) ⟨_, rfl, ⟨_, rfl, rfl⟩⟩ ?_
   show _ ∧ _
   exact ⟨rfl, ⟨(by first | rfl | simp [setn_length, cpy_length, sortI_length]), ⟨(by first | rfl | simp [setn_length, cpy_length, sortI_length]), trivial⟩⟩⟩
  ·replace h := of_cf h hc3
   apply E_skip
   refine E_keep [0] [100900, 100901] ?_
   (try dsimp)
   apply E_seq
   apply E_ops
   apply WM
   obtain ⟨x4, x4h, h⟩ := of_bind h
   refine W1 (does_callO [] false hP (p_nvm_Mem_Words F a0 x4 x4h) rfl ⟨rfl, rfl, trivial⟩ rfl rfl rfl rfl rfl (fun h => by first | rfl | cases h) rfl) ?_
   (try dsimp)
   apply WM
   apply W_nil
   refine E_keep [0, 4] [100900, 100901] ?_
   (try dsimp)
   apply E_seq
   apply E_ops
   apply WM
   obtain ⟨x5, x5h, h⟩ := of_bind h
   refine W1 (does_call1 hP (p_image_Get F x4 x5 x5h) rfl rfl rfl) ?_
   apply WM
   refine WQ (does_ext rfl rfl) ?_
   refine WQ (does_ext rfl rfl) ?_
   refine W1 (does_newv rfl rfl) ?_
   refine W1 (does_store rfl rfl rfl rfl rfl (Nat.le_of_ble_eq_true rfl) rfl (by decide)) ?_
   apply WM
   apply W_nil
   refine E_keep [0, 4, 5, 6] [5, 100900, 100901] ?_
   (try dsimp)
   apply E_seq
   apply E_seq
   apply E_ops
   apply WM
   refine WQ (does_int rfl rfl rfl) ?_
   apply WM
   apply W_lazy
   ·rfl
   ·intro hB; (try simp only [hB, bss, ctt]); exact does_mv rfl
   apply W_lazy
   ·rfl
   ·intro hB; (try simp only [hB, bss, ctt]); exact does_add_ptr rfl rfl
   apply W_lazy
   ·rfl
   ·intro hB; (try simp only [hB, bss, ctt]); exact does_loadA_ptr rfl rfl rfl rfl (by decide)
   obtain ⟨x6, x6h, h⟩ := of_bind h
   apply W_lazyD
   ·rfl
   ·intro hB; (try simp only [hB, bss, ctt]); exact does_call1 hP (p_geo_Lock F x5.1.xGeo x6 (of_lz x6h (bt hB))) rfl rfl rfl
   obtain ⟨g7, h⟩ := of_gd h
   apply W_lazy
   ·rfl
   ·intro hB; (try simp only [hB, bss, ctt]); exact does_idx_sl rfl rfl (g7 hB).1 (g7 hB).2
   apply W_lazy
   ·rfl
   ·intro hB; (try simp only [hB, bss, ctt]); exact does_load1_slF (k := 1) rfl (fun _ => rfl) (g7 hB) 0 rfl rfl
   apply W_lazy
   ·rfl
   ·intro hB; (try simp only [hB, bss, ctt]); exact does_int rfl rfl rfl
   refine WQ (does_or rfl rfl rfl) ?_
   apply W_nil
   refine E_keep [0, 4, 5, 33] [5, 100900, 100901] ?_
   (try dsimp)
   refine E_cond rfl (fun hc8 => ?_) (fun hc8 => ?_)
   ·replace h := of_ct h hc8
    apply E_seq
    apply E_ops
    apply WM
    apply WM
    apply W_nil
    refine E_keep [2, 3] [100900, 100901] ?_
    (try dsimp)
    apply E_ret
    cases h
    (try simp only [qt, qb, qn])
    refine fin_mk (xs := _) ⟨_, rfl, ⟨_, rfl, rfl⟩⟩ ?_
    show _ ∧ _
    exact ⟨rfl, ⟨(by first | rfl | simp [setn_length, cpy_length, sortI_length]), ⟨(by first | rfl | simp [setn_length, cpy_length, sortI_length]), trivial⟩⟩⟩
   ·replace h := of_cf h hc8
    apply E_skip
    refine E_keep [0, 4, 5] [5, 100900, 100901] ?_
    (try dsimp)
    obtain ⟨k9, k9d, h⟩ := of_jn h
    refine E_seqJ (α := Unit) (fun (i : Unit) => (⟨[(0, S.one (.ptr 100900 0)), (5, S.one (.ptr 5 0))], [(5, (⟨true, [.v (.int .i64 x5.1.xGeo.xThreads), .v (.int .i64 x5.1.xGeo.xSlots), .v (.int .i64 x5.1.xGeo.xThings), .sl (flat e_S_state_Slot x5.1.xSlots) x5.1.xSlots.length, .sl (flat e_S_thing_Thing x5.1.xThings) x5.1.xThings.length]⟩ : Reg)), (100900, (⟨false, [.own 100901 0 a0.xl.length (some (18, 86)), .v (.bool a0.xoff), .v (.int .i64 a0.xcount), .v (.int .i64 a0.xfuse), .sl (flat e_i_i64 a0.xkeep) a0.xkeep.length]⟩ : Reg)), (100901, (⟨true, flat e_S_row_Row a0.xl⟩ : Reg))]⟩ : St)) (fun i => k9 () = some r) (fun i h => ?_) ?_
    ·skip
     rw [k9d] at h; dsimp only at h
     (try dsimp)
     apply E_seq
     obtain ⟨g10, h⟩ := of_gd h
     refine E_draw [0, 1, 2, 3, 4, 5, 7, 9, 10] ?_
     refine XQ 0 rfl rfl rfl (does_mv rfl) ?_
     refine XQ 1 rfl rfl rfl (does_add_ptr rfl rfl) ?_
     refine XQ 2 rfl rfl rfl (does_loadA_ptr rfl rfl rfl rfl (by decide)) ?_
     refine XQ 3 rfl rfl rfl (does_add_ptr rfl rfl) ?_
     refine XQ 4 rfl rfl rfl (does_add_ptr rfl rfl) ?_
     refine XQ 5 rfl rfl rfl (does_load1_ptr rfl rfl rfl) ?_
     refine X1 rfl (XK rfl (does_mkN (e := e_S_gear_work) (⟨(0 : Int), (⟨(0 : Int), (0 : Int), (⟨(0 : Int), (0 : Int), (0 : Int), (0 : Int)⟩ : V4 Int), (⟨(0 : Int), (0 : Int), (0 : Int)⟩ : S_state_Reply), ([] : (List S_wset_Write))⟩ : S_opd_Desc), ([] : (List S_gear_op))⟩ : S_gear_work) rfl rfl rfl rfl (fun _ => rfl) g10.1 g10.2.1 g10.2.2.1 g10.2.2.2 rfl) ?_)
     refine XQ 7 rfl rfl rfl (does_build rfl rfl) ?_
     refine X1 rfl (XK rfl (does_box rfl rfl rfl rfl) ?_)
     refine XQ 9 rfl rfl rfl (does_mv rfl) ?_
     refine XQ 10 rfl rfl rfl (does_mv rfl) ?_
     refine X_nil rfl ?_
     refine E_keep [2, 3] [78, 80, 100900, 100901] ?_
     (try dsimp)
     refine E_ghost (LeB_nilownB (q := 80) (j := 5) (r := 6805) 1 3 rfl rfl rfl rfl) ?_
     (try dsimp)
     apply E_ret
     cases h
     (try simp only [qt, qb, qn])
     refine fin_mk (xs := _) ⟨_, rfl, ⟨_, rfl, rfl⟩⟩ ?_
     show _ ∧ _
     exact ⟨rfl, ⟨(by first | rfl | simp [setn_length, cpy_length, sortI_length]), ⟨(by first | rfl | simp [setn_length, cpy_length, sortI_length]), ⟨(by first | rfl | simp [setn_length, cpy_length, sortI_length]), ⟨(by first | rfl | simp [setn_length, cpy_length, sortI_length]), ⟨(by first | rfl | simp [setn_length, cpy_length, sortI_length]), trivial⟩⟩⟩⟩⟩⟩
    ·
     skip
     apply E_seq
     apply E_ops
     refine WQ (does_add_ptr rfl rfl) ?_
     refine WQ (does_add_ptr rfl rfl) ?_
     refine WQ (does_load1_ptr rfl rfl rfl) ?_
     apply WM
     apply W_nil
     refine E_keep [0, 4, 5, 36, 37] [5, 100900, 100901] ?_
     (try dsimp)
     apply E_block
     (try dsimp)
     refine E_loopB (α := Int) (fun (i : Int) => (⟨[(0, S.one (.ptr 100900 0)), (4, S.one (.sl (flat e_i_u64 x4) x4.length)), (5, S.one (.ptr 5 0)), (36, S.one (.v (.int .i64 x5.1.xGeo.xThreads))), (37, S.one (.v (.int .i64 i)))], [(5, (⟨true, [.v (.int .i64 x5.1.xGeo.xThreads), .v (.int .i64 x5.1.xGeo.xSlots), .v (.int .i64 x5.1.xGeo.xThings), .sl (flat e_S_state_Slot x5.1.xSlots) x5.1.xSlots.length, .sl (flat e_S_thing_Thing x5.1.xThings) x5.1.xThings.length]⟩ : Reg)), (100900, (⟨false, [.own 100901 0 a0.xl.length (some (18, 86)), .v (.bool a0.xoff), .v (.int .i64 a0.xcount), .v (.int .i64 a0.xfuse), .sl (flat e_i_i64 a0.xkeep) a0.xkeep.length]⟩ : Reg)), (100901, (⟨true, flat e_S_row_Row a0.xl⟩ : Reg))]⟩ : St)) (fun n i => m_gear_New_l0 F x4 x5 k9 n i = some r) F (0 : Int) h ?_ (fun n i h => ?_)
     ·
      exact (Le.b (le_mk ⟨rfl, rfl, rfl, rfl, rfl, trivial⟩ ⟨rfl, rfl, rfl, trivial⟩))
     generalize i = v50 at h ⊢
     cases n with
     | zero => cases h
     | succ n51 =>
      unfold m_gear_New_l0 at h
      (try dsimp)
      apply E_seq
      apply E_ops
      refine WQ (does_int rfl rfl rfl) ?_
      apply W_nil
      (try dsimp)
      apply E_seq
      refine E_cond rfl (fun hc52 => ?_) (fun hc52 => ?_)
      ·replace h := of_ct h hc52
       apply E_skip
       refine E_keep [0, 4, 5, 36, 37] [5, 100900, 100901] ?_
       (try dsimp)
       apply E_seq
       apply E_block
       apply E_seq
       apply E_ops
       apply WM
       apply WM
       apply W_nil
       refine E_keep [0, 4, 5, 7, 36, 37] [5, 100900, 100901] ?_
       (try dsimp)
       apply E_seq
       apply E_ops
       refine WQ (does_add_ptr rfl rfl) ?_
       refine WQ (does_loadA_ptr rfl rfl rfl rfl (by decide)) ?_
       apply WM
       obtain ⟨x53, x53h, h⟩ := of_bind h
       refine W1 (does_call1 hP (p_geo_Desc F x5.1.xGeo v50 x53 x53h) rfl rfl rfl) ?_
       apply WM
       refine WQ (does_ext rfl rfl) ?_
       refine WQ (does_ext rfl rfl) ?_
       apply WM
       apply WM
       apply W_nil
       refine E_keep [0, 4, 5, 8, 9, 36, 37] [5, 100900, 100901] ?_
       (try dsimp)
       obtain ⟨k65, k65d, h⟩ := of_jn h
       refine E_seqJ (α := Bool × Int × Int × Int × Int × Int × Int × Int × Int × Int × (List S_wset_Write)) (fun (i : Bool × Int × Int × Int × Int × Int × Int × Int × Int × Int × (List S_wset_Write)) => (⟨[(0, S.one (.ptr 100900 0)), (4, S.one (.sl (flat e_i_u64 x4) x4.length)), (5, S.one (.ptr 5 0)), (10, S.one (.ptr 10 0)), (11, S.one (.v (.bool i.1))), (36, S.one (.v (.int .i64 x5.1.xGeo.xThreads))), (37, S.one (.v (.int .i64 v50)))], [(5, (⟨true, [.v (.int .i64 x5.1.xGeo.xThreads), .v (.int .i64 x5.1.xGeo.xSlots), .v (.int .i64 x5.1.xGeo.xThings), .sl (flat e_S_state_Slot x5.1.xSlots) x5.1.xSlots.length, .sl (flat e_S_thing_Thing x5.1.xThings) x5.1.xThings.length]⟩ : Reg)), (10, (⟨true, [.v (.int .i64 i.2.1), .v (.int .u64 i.2.2.1), .v (.int .u64 i.2.2.2.1), .v (.int .u64 i.2.2.2.2.1), .v (.int .u64 i.2.2.2.2.2.1), .v (.int .u64 i.2.2.2.2.2.2.1), .v (.int .i64 i.2.2.2.2.2.2.2.1), .v (.int .u64 i.2.2.2.2.2.2.2.2.1), .v (.int .i64 i.2.2.2.2.2.2.2.2.2.1), .sl (flat e_S_wset_Write i.2.2.2.2.2.2.2.2.2.2) i.2.2.2.2.2.2.2.2.2.2.length]⟩ : Reg)), (100900, (⟨false, [.own 100901 0 a0.xl.length (some (18, 86)), .v (.bool a0.xoff), .v (.int .i64 a0.xcount), .v (.int .i64 a0.xfuse), .sl (flat e_i_i64 a0.xkeep) a0.xkeep.length]⟩ : Reg)), (100901, (⟨true, flat e_S_row_Row a0.xl⟩ : Reg))]⟩ : St)) (fun i => k65 i.1 i.2.1 i.2.2.1 i.2.2.2.1 i.2.2.2.2.1 i.2.2.2.2.2.1 i.2.2.2.2.2.2.1 i.2.2.2.2.2.2.2.1 i.2.2.2.2.2.2.2.2.1 i.2.2.2.2.2.2.2.2.2.1 i.2.2.2.2.2.2.2.2.2.2 = some r) (fun i h => ?_) ?_
       ·obtain ⟨v54, v55, v56, v57, v58, v59, v60, v61, v62, v63, v64⟩ := i
        rw [k65d] at h; dsimp only at h
        (try dsimp)
        apply E_seq
        apply E_ops
        apply WM
        refine WQ (does_not rfl) ?_
        apply WM
        apply W_lazy
        ·rfl
        ·intro hB; (try simp only [hB, bss, ctt]); exact does_add_ptr rfl rfl
        apply W_lazy
        ·rfl
        ·intro hB; (try simp only [hB, bss, ctt]); exact does_load1_ptr rfl rfl rfl
        apply W_lazy
        ·rfl
        ·intro hB; (try simp only [hB, bss, ctt]); exact does_int rfl rfl rfl
        refine WQ (does_or rfl rfl rfl) ?_
        apply WM
        apply W_lazy
        ·rfl
        ·intro hB; (try simp only [hB, bss, ctt]); exact does_add_ptr rfl rfl
        apply W_lazy
        ·rfl
        ·intro hB; (try simp only [hB, bss, ctt]); exact does_load1_ptr rfl rfl rfl
        apply W_lazy
        ·rfl
        ·intro hB; (try simp only [hB, bss, ctt]); exact does_int rfl rfl rfl
        refine WQ (does_or rfl rfl rfl) ?_
        apply W_nil
        refine E_keep [0, 4, 5, 36, 37, 70] [5, 100900, 100901] ?_
        (try dsimp)
        refine E_cond rfl (fun hc66 => ?_) (fun hc66 => ?_)
        ·replace h := of_ct h hc66
         apply E_seq
         apply E_ops
         apply WM
         apply WM
         apply W_nil
         refine E_keep [2, 3] [100900, 100901] ?_
         (try dsimp)
         apply E_ret
         cases h
         (try simp only [qt, qb, qn])
         refine fin_mk (xs := _) ⟨_, rfl, ⟨_, rfl, rfl⟩⟩ ?_
         show _ ∧ _
         exact ⟨rfl, ⟨(by first | rfl | simp [setn_length, cpy_length, sortI_length]), ⟨(by first | rfl | simp [setn_length, cpy_length, sortI_length]), trivial⟩⟩⟩
        ·replace h := of_cf h hc66
         apply E_skip
         refine E_keep [0, 4, 5, 36, 37] [5, 100900, 100901] ?_
         (try dsimp)
         apply E_ops
         obtain ⟨g67, h⟩ := of_gd h
         refine WQ (does_add rfl rfl g67.1 g67.2) ?_
         apply WM
         apply W_nil
         refine ⟨n51, (v50 + (1 : Int)), Nat.lt_succ_self _, h, ?_⟩
         exact (Le.b (le_mk ⟨rfl, rfl, rfl, rfl, rfl, trivial⟩ ⟨rfl, rfl, rfl, trivial⟩))
       ·
        skip
        obtain ⟨g68, h⟩ := of_gd h
        obtain ⟨g69, h⟩ := of_gd h
        obtain ⟨x70, x70h, h⟩ := of_bind h
        refine E_draw [0, 1, 2, 3, 4, 5, 6, 7, 9, 10] ?_
        refine XQ 0 rfl rfl rfl (does_add_ptr rfl rfl) ?_
        refine XQ 1 rfl rfl rfl (does_loadA_ptr rfl rfl rfl rfl (by decide)) ?_
        refine XQ 2 rfl rfl rfl (does_mv rfl) ?_
        refine XQ 3 rfl rfl rfl (does_mv rfl) ?_
        refine XQ 4 rfl rfl rfl (does_mv rfl) ?_
        refine XQ 5 rfl rfl rfl (does_mv rfl) ?_
        refine XQ 6 rfl rfl rfl (does_add rfl rfl g68.1 g68.2) ?_
        refine XQ 7 rfl rfl rfl (does_slc_slF rfl (fun _ => rfl) rfl rfl g69.1 g69.2.1 g69.2.2) ?_
        (try dsimp)
        refine X2 rfl ?_ ?_
        ·
         refine XK rfl (does_call1 hP (p_opd_Get F x5.1.xGeo (cut x4 x53.1 (x53.1 + x53.2)) x70 x70h) rfl rfl rfl) ?_
         refine XQ 9 rfl rfl rfl (does_mv rfl) ?_
         refine XQ 10 rfl rfl rfl (does_ext rfl rfl) ?_
         refine X2 rfl ?_ ?_
         ·
          refine XK rfl ((does_ext rfl rfl).does) ?_
          refine X1 rfl (XK rfl (does_newv rfl rfl) ?_)
          refine X1 rfl (XT rfl rfl (does_store rfl rfl rfl rfl rfl (Nat.le_of_ble_eq_true rfl) rfl (by decide)) ?_)
          refine X1 rfl (XT rfl rfl ((does_mv rfl).does) ?_)
          refine X_nil rfl ?_
          refine ⟨(x70.2, x70.1.xStatus, x70.1.xSeq, x70.1.xL.c0, x70.1.xL.c1, x70.1.xL.c2, x70.1.xL.c3, x70.1.xReply.xErr, x70.1.xReply.xW, x70.1.xReply.xN, x70.1.xW), h, ?_⟩
          exact (Le.b (le_mk ⟨rfl, rfl, rfl, rfl, rfl, rfl, rfl, trivial⟩ ⟨rfl, rfl, rfl, rfl, trivial⟩))
         ·
          refine XK rfl (does_newv rfl rfl) ?_
          refine X2 rfl ?_ ?_
          ·
           refine XK rfl ((does_ext rfl rfl).does) ?_
           refine X1 rfl (XT rfl rfl (does_store rfl rfl rfl rfl rfl (Nat.le_of_ble_eq_true rfl) rfl (by decide)) ?_)
           refine X1 rfl (XT rfl rfl ((does_mv rfl).does) ?_)
           refine X_nil rfl ?_
           refine ⟨(x70.2, x70.1.xStatus, x70.1.xSeq, x70.1.xL.c0, x70.1.xL.c1, x70.1.xL.c2, x70.1.xL.c3, x70.1.xReply.xErr, x70.1.xReply.xW, x70.1.xReply.xN, x70.1.xW), h, ?_⟩
           exact (Le.b (le_mk ⟨rfl, rfl, rfl, rfl, rfl, rfl, rfl, trivial⟩ ⟨rfl, rfl, rfl, rfl, trivial⟩))
          ·
           refine XT rfl rfl (does_store rfl rfl rfl rfl rfl (Nat.le_of_ble_eq_true rfl) rfl (by decide)) ?_
           refine X1 rfl (XT rfl rfl ((does_ext rfl rfl).does) ?_)
           refine X1 rfl (XT rfl rfl ((does_mv rfl).does) ?_)
           refine X_nil rfl ?_
           refine ⟨(x70.2, x70.1.xStatus, x70.1.xSeq, x70.1.xL.c0, x70.1.xL.c1, x70.1.xL.c2, x70.1.xL.c3, x70.1.xReply.xErr, x70.1.xReply.xW, x70.1.xReply.xN, x70.1.xW), h, ?_⟩
           exact (Le.b (le_mk ⟨rfl, rfl, rfl, rfl, rfl, rfl, rfl, trivial⟩ ⟨rfl, rfl, rfl, rfl, trivial⟩))
        ·
         refine XK rfl (does_newv rfl rfl) ?_
         refine X1 rfl (XK rfl (does_call1 hP (p_opd_Get F x5.1.xGeo (cut x4 x53.1 (x53.1 + x53.2)) x70 x70h) rfl rfl rfl) ?_)
         refine XQ 9 rfl rfl rfl (does_mv rfl) ?_
         refine XQ 10 rfl rfl rfl (does_ext rfl rfl) ?_
         refine X2 rfl ?_ ?_
         ·
          refine XK rfl ((does_ext rfl rfl).does) ?_
          refine X1 rfl (XT rfl rfl (does_store rfl rfl rfl rfl rfl (Nat.le_of_ble_eq_true rfl) rfl (by decide)) ?_)
          refine X1 rfl (XT rfl rfl ((does_mv rfl).does) ?_)
          refine X_nil rfl ?_
          refine ⟨(x70.2, x70.1.xStatus, x70.1.xSeq, x70.1.xL.c0, x70.1.xL.c1, x70.1.xL.c2, x70.1.xL.c3, x70.1.xReply.xErr, x70.1.xReply.xW, x70.1.xReply.xN, x70.1.xW), h, ?_⟩
          exact (Le.b (le_mk ⟨rfl, rfl, rfl, rfl, rfl, rfl, rfl, trivial⟩ ⟨rfl, rfl, rfl, rfl, trivial⟩))
         ·
          refine XT rfl rfl (does_store rfl rfl rfl rfl rfl (Nat.le_of_ble_eq_true rfl) rfl (by decide)) ?_
          refine X1 rfl (XT rfl rfl ((does_ext rfl rfl).does) ?_)
          refine X1 rfl (XT rfl rfl ((does_mv rfl).does) ?_)
          refine X_nil rfl ?_
          refine ⟨(x70.2, x70.1.xStatus, x70.1.xSeq, x70.1.xL.c0, x70.1.xL.c1, x70.1.xL.c2, x70.1.xL.c3, x70.1.xReply.xErr, x70.1.xReply.xW, x70.1.xReply.xN, x70.1.xW), h, ?_⟩
          exact (Le.b (le_mk ⟨rfl, rfl, rfl, rfl, rfl, rfl, rfl, trivial⟩ ⟨rfl, rfl, rfl, rfl, trivial⟩))
      ·replace h := of_cf h hc52
       apply E_exit
       refine ⟨(), h, ?_⟩
       exact (Le.b (le_mk ⟨rfl, rfl, trivial⟩ ⟨rfl, rfl, rfl, trivial⟩))
/- reeve/boot.Boot -/
def c_boot_Boot : VCode := (.seq (.ops [(o (.mv cp) 2), (o (.mv (ci 0)) 3)]) (.seq (.seq (.ops [(w 9 0), (o (.eqP false (t 9) cp) 10)]) (.cond (t 10) (.seq (.ops [(o (.mv cp) 2), (o (.mv (ci 1)) 3)]) .ret) .skip)) (.seq (.seq (.ops [(w 11 0), (o (.call 32 [(t 11)]) 12)]) (.cond (t 12) (.seq (.ops [(o (.mv cp) 2), (o (.mv (ci 12)) 3)]) .ret) .skip)) (.seq (.ops [(w 14 0), (o (.call 11 [(t 14)]) 15), (o (.call 33 [(t 15)]) 16), (w 13 16), (o (.ext 0 (t 13)) 17), (o (.ext 1 (t 13)) 18), (o (.newv [zi, zi, zi, .nil, .nil, .nil, zu, zb]) 4), (n_ (.store 8 (t 4) (t 17))), (w 5 18)]) (.seq (.seq (.ops [(w 19 5), (o (.un .not (t 19)) 20)]) (.cond (t 20) (.seq (.ops [(o (.mv cp) 2), (o (.mv (ci 2)) 3)]) .ret) .skip)) (.seq (.seq (.ops [(o (.load true 8 (t 4)) 21), (o (.call 34 [(t 21)]) 22), (o (.len false (t 22)) 23), (o (.mv (ci 0)) 24)]) (.block 0 (.loop (.seq (.ops [(o (.bin .lss 3 (t 24) (t 23)) 25)]) (.seq (.cond (t 25) .skip (.exit 0)) (.seq (.block 1 (.seq (.ops [(o (.idxS 1 (t 22) (t 24)) 26), (o (.load false 1 (t 26)) 27), (w 7 27)]) (.seq (.ops [(w 28 0), (w 29 7), (o (.call 35 [(t 28), (t 29)]) 30), (w 8 30)]) (.seq (.ops [(w 31 8), (o (.bin .neq 33 (t 31) (ci 0)) 32)]) (.cond (t 32) (.seq (.ops [(w 33 8), (o (.mv cp) 2), (w 3 33)]) .ret) .skip))))) (.ops [(o (.bin .add 3 (t 24) (ci 1)) 34), (w 24 34)]))))))) (.seq (.ops [(w 35 0), (o (.call 36 [(t 35)]) 36), (o (.ext 0 (t 36)) 37), (o (.ext 1 (t 36)) 38), (w 2 37), (w 3 38)]) .ret)))))))
theorem f_boot_Boot : Fits Tryz.prog 10 1 c_boot_Boot [(.tmp 2), (.tmp 3)] := fits_mk Tryz.func10 (by kernel_rfl) (by kernel_rfl) (by kernel_rfl)
theorem p_boot_Boot (F : Nat) (a0 : S_nvm_Mem) (r : S_nvm_Mem × Option S_gear_Gear × Int) (h : m_boot_Boot F a0 = some r) : AC Tryz.prog 10 [S.one (.ptr 100900 0)] [(100900, (⟨false, [.own 100901 0 a0.xl.length (some (18, 86)), .v (.bool a0.xoff), .v (.int .i64 a0.xcount), .v (.int .i64 a0.xfuse), .sl (flat e_i_i64 a0.xkeep) a0.xkeep.length]⟩ : Reg)), (100901, (⟨true, flat e_S_row_Row a0.xl⟩ : Reg))] (fun x s' => optQ (r.2.1) (x = S.tup [S.one (.v (.pointer none)), S.one (.v (.int .i64 r.2.2))] ∧ leSt s' [(100900, (⟨false, [.own 100901 0 r.1.xl.length (some (18, 86)), .v (.bool r.1.xoff), .v (.int .i64 r.1.xcount), .v (.int .i64 r.1.xfuse), .sl (flat e_i_i64 r.1.xkeep) r.1.xkeep.length]⟩ : Reg)), (100901, (⟨true, flat e_S_row_Row r.1.xl⟩ : Reg))]) (fun G => x = S.tup [S.one (.ptr 7361 0), S.one (.v (.int .i64 r.2.2))] ∧ leSt s' [(7360, (⟨true, flat e_S_gear_work G.xw⟩ : Reg)), (7361, (⟨false, [.ptr 100900 0, .v (.int .i64 G.xgeo.xThreads), .v (.int .i64 G.xgeo.xSlots), .v (.int .i64 G.xgeo.xThings), .own 7360 0 G.xw.length (some (12, 291)), .own 7362 0 G.xorder.length (some (1, 3)), .v (.bool G.xdead)]⟩ : Reg)), (7362, (⟨true, flat e_i_i64 G.xorder⟩ : Reg)), (100900, (⟨false, [.own 100901 0 r.1.xl.length (some (18, 86)), .v (.bool r.1.xoff), .v (.int .i64 r.1.xcount), .v (.int .i64 r.1.xfuse), .sl (flat e_i_i64 r.1.xkeep) r.1.xkeep.length]⟩ : Reg)), (100901, (⟨true, flat e_S_row_Row r.1.xl⟩ : Reg))])) := by
 unfold m_boot_Boot at h
 refine AC_go f_boot_Boot rfl ?_
 intro C hP
 unfold c_boot_Boot; dsimp
 apply E_seq
 apply E_ops
 apply WM
 apply WM
 apply W_nil
 refine E_keep [0] [100900, 100901] ?_
 (try dsimp)
 apply E_seq
 apply E_seq
 apply E_ops
 apply WM
 refine WQ (does_eqP_ptr rfl rfl rfl) ?_
 apply W_nil
 refine E_keep [0, 10] [100900, 100901] ?_
 (try dsimp)
 refine E_cond rfl (fun hc1 => ?_) (fun hc1 => ?_)
 ·cases hc1
 ·
  apply E_skip
  refine E_keep [0] [100900, 100901] ?_
  (try dsimp)
  apply E_seq
  apply E_seq
  apply E_ops
  apply WM
  obtain ⟨x2, x2h, h⟩ := of_bind h
  refine W1 (does_callO [] false hP (p_nvm_Mem_Off F a0 x2 x2h) rfl ⟨rfl, rfl, trivial⟩ rfl rfl rfl rfl rfl (fun h => by first | rfl | cases h) rfl) ?_
  (try dsimp)
  apply W_nil
  refine E_keep [0, 12] [100900, 100901] ?_
  (try dsimp)
  refine E_cond rfl (fun hc3 => ?_) (fun hc3 => ?_)
  ·replace h := of_ct h hc3
   apply E_seq
   apply E_ops
   apply WM
   apply WM
   apply W_nil
   refine E_keep [2, 3] [100900, 100901] ?_
   (try dsimp)
   apply E_ret
   cases h
   (try simp only [qt, qb, qn])
   refine fin_mk (xs := _) ⟨_, rfl, ⟨_, rfl, rfl⟩⟩ ?_
   show _ ∧ _
   exact ⟨rfl, ⟨(by first | rfl | simp [setn_length, cpy_length, sortI_length]), ⟨(by first | rfl | simp [setn_length, cpy_length, sortI_length]), trivial⟩⟩⟩
  ·replace h := of_cf h hc3
   apply E_skip
   refine E_keep [0] [100900, 100901] ?_
   (try dsimp)
   apply E_seq
   apply E_ops
   apply WM
   obtain ⟨x4, x4h, h⟩ := of_bind h
   refine W1 (does_callO [] false hP (p_nvm_Mem_Words F a0 x4 x4h) rfl ⟨rfl, rfl, trivial⟩ rfl rfl rfl rfl rfl (fun h => by first | rfl | cases h) rfl) ?_
   (try dsimp)
   obtain ⟨x5, x5h, h⟩ := of_bind h
   refine W1 (does_call1 hP (p_boot_read F x4 x5 x5h) rfl rfl rfl) ?_
   apply WM
   refine WQ (does_ext rfl rfl) ?_
   refine WQ (does_ext rfl rfl) ?_
   refine W1 (does_newv rfl rfl) ?_
   refine W1 (does_store rfl rfl rfl rfl rfl (Nat.le_of_ble_eq_true rfl) rfl (by decide)) ?_
   apply WM
   apply W_nil
   refine E_keep [0, 4, 5] [4, 100900, 100901] ?_
   (try dsimp)
   apply E_seq
   apply E_seq
   apply E_ops
   apply WM
   refine WQ (does_not rfl) ?_
   apply W_nil
   refine E_keep [0, 4, 20] [4, 100900, 100901] ?_
   (try dsimp)
   refine E_cond rfl (fun hc6 => ?_) (fun hc6 => ?_)
   ·replace h := of_ct h hc6
    apply E_seq
    apply E_ops
    apply WM
    apply WM
    apply W_nil
    refine E_keep [2, 3] [100900, 100901] ?_
    (try dsimp)
    apply E_ret
    cases h
    (try simp only [qt, qb, qn])
    refine fin_mk (xs := _) ⟨_, rfl, ⟨_, rfl, rfl⟩⟩ ?_
    show _ ∧ _
    exact ⟨rfl, ⟨(by first | rfl | simp [setn_length, cpy_length, sortI_length]), ⟨(by first | rfl | simp [setn_length, cpy_length, sortI_length]), trivial⟩⟩⟩
   ·replace h := of_cf h hc6
    apply E_skip
    refine E_keep [0, 4] [4, 100900, 100901] ?_
    (try dsimp)
    obtain ⟨k12, k12d, h⟩ := of_jn h
    refine E_seqJ (α := (List S_row_Row) × Bool × Int × Int × (List Int)) (fun (i : (List S_row_Row) × Bool × Int × Int × (List Int)) => (⟨[(0, S.one (.ptr 100900 0))], [(100900, (⟨false, [.own 100901 0 i.1.length (some (18, 86)), .v (.bool i.2.1), .v (.int .i64 i.2.2.1), .v (.int .i64 i.2.2.2.1), .sl (flat e_i_i64 i.2.2.2.2) i.2.2.2.2.length]⟩ : Reg)), (100901, (⟨true, flat e_S_row_Row i.1⟩ : Reg))]⟩ : St)) (fun i => k12 i.1 i.2.1 i.2.2.1 i.2.2.2.1 i.2.2.2.2 = some r) (fun i h => ?_) ?_
    ·obtain ⟨v7, v8, v9, v10, v11⟩ := i
     rw [k12d] at h; dsimp only at h
     (try dsimp)
     apply E_seq
     apply E_ops
     apply WM
     obtain ⟨x13, x13h, h⟩ := of_bind h
     rcases of_optc h with ⟨o14e, h⟩ | ⟨o14, o14e, h⟩
     ·
      refine W1 (does_callO [] false hP (AC_none o14e (p_gear_New F (⟨v7, v8, v9, v10, v11⟩ : S_nvm_Mem) x13 x13h)) rfl ⟨rfl, rfl, trivial⟩ rfl rfl rfl rfl rfl (fun h => by first | rfl | cases h) rfl) ?_
      (try dsimp)
      refine WQ (does_ext rfl rfl) ?_
      refine WQ (does_ext rfl rfl) ?_
      apply WM
      apply WM
      apply W_nil
      refine E_keep [2, 3] [100900, 100901] ?_
      (try dsimp)
      refine E_ghost (Le_reg (r := 100900) rfl (by simp [setn_length, cpy_length, sortI_length] : (⟨false, [.own 100901 0 (⟨v7, v8, v9, v10, v11⟩ : S_nvm_Mem).xl.length (some (18, 86)), .v (.bool (⟨v7, v8, v9, v10, v11⟩ : S_nvm_Mem).xoff), .v (.int .i64 (⟨v7, v8, v9, v10, v11⟩ : S_nvm_Mem).xcount), .v (.int .i64 (⟨v7, v8, v9, v10, v11⟩ : S_nvm_Mem).xfuse), .sl (flat e_i_i64 (⟨v7, v8, v9, v10, v11⟩ : S_nvm_Mem).xkeep) (⟨v7, v8, v9, v10, v11⟩ : S_nvm_Mem).xkeep.length]⟩ : Reg) = (⟨false, [.own 100901 0 ((⟨v7, v8, v9, v10, v11⟩ : S_nvm_Mem).xl).length (some (18, 86)), .v (.bool (⟨v7, v8, v9, v10, v11⟩ : S_nvm_Mem).xoff), .v (.int .i64 (⟨v7, v8, v9, v10, v11⟩ : S_nvm_Mem).xcount), .v (.int .i64 (⟨v7, v8, v9, v10, v11⟩ : S_nvm_Mem).xfuse), .sl (flat e_i_i64 (⟨v7, v8, v9, v10, v11⟩ : S_nvm_Mem).xkeep) (⟨v7, v8, v9, v10, v11⟩ : S_nvm_Mem).xkeep.length]⟩ : Reg))).b ?_
      (try dsimp)
      apply E_ret
      cases h
      (try simp only [qt, qb, qn])
      refine fin_mk (xs := _) ⟨_, rfl, ⟨_, rfl, rfl⟩⟩ ?_
      show _ ∧ _
      exact ⟨rfl, ⟨(by first | rfl | simp [setn_length, cpy_length, sortI_length]), ⟨(by first | rfl | simp [setn_length, cpy_length, sortI_length]), trivial⟩⟩⟩
     ·
      refine W1 (does_callO [(78, 7360), (80, 7361), (6805, 7362)] false hP (AC_some o14e (p_gear_New F (⟨v7, v8, v9, v10, v11⟩ : S_nvm_Mem) x13 x13h)) rfl ⟨rfl, rfl, trivial⟩ rfl rfl rfl rfl rfl (fun h => by first | rfl | cases h) rfl) ?_
      (try dsimp)
      refine WQ (does_ext rfl rfl) ?_
      refine WQ (does_ext rfl rfl) ?_
      apply WM
      apply WM
      apply W_nil
      refine E_keep [2, 3] [7360, 7361, 7362, 100900, 100901] ?_
      (try dsimp)
      refine E_ghost (Le_reg (r := 100900) rfl (by simp [setn_length, cpy_length, sortI_length] : (⟨false, [.own 100901 0 (⟨v7, v8, v9, v10, v11⟩ : S_nvm_Mem).xl.length (some (18, 86)), .v (.bool (⟨v7, v8, v9, v10, v11⟩ : S_nvm_Mem).xoff), .v (.int .i64 (⟨v7, v8, v9, v10, v11⟩ : S_nvm_Mem).xcount), .v (.int .i64 (⟨v7, v8, v9, v10, v11⟩ : S_nvm_Mem).xfuse), .sl (flat e_i_i64 (⟨v7, v8, v9, v10, v11⟩ : S_nvm_Mem).xkeep) (⟨v7, v8, v9, v10, v11⟩ : S_nvm_Mem).xkeep.length]⟩ : Reg) = (⟨false, [.own 100901 0 ((⟨v7, v8, v9, v10, v11⟩ : S_nvm_Mem).xl).length (some (18, 86)), .v (.bool (⟨v7, v8, v9, v10, v11⟩ : S_nvm_Mem).xoff), .v (.int .i64 (⟨v7, v8, v9, v10, v11⟩ : S_nvm_Mem).xcount), .v (.int .i64 (⟨v7, v8, v9, v10, v11⟩ : S_nvm_Mem).xfuse), .sl (flat e_i_i64 (⟨v7, v8, v9, v10, v11⟩ : S_nvm_Mem).xkeep) (⟨v7, v8, v9, v10, v11⟩ : S_nvm_Mem).xkeep.length]⟩ : Reg))).b ?_
      (try dsimp)
      apply E_ret
      cases h
      (try simp only [qt, qb, qn])
      refine fin_mk (xs := _) ⟨_, rfl, ⟨_, rfl, rfl⟩⟩ ?_
      show _ ∧ _
      exact ⟨rfl, ⟨(by first | rfl | simp [setn_length, cpy_length, sortI_length]), ⟨(by first | rfl | simp [setn_length, cpy_length, sortI_length]), ⟨(by first | rfl | simp [setn_length, cpy_length, sortI_length]), ⟨(by first | rfl | simp [setn_length, cpy_length, sortI_length]), ⟨(by first | rfl | simp [setn_length, cpy_length, sortI_length]), trivial⟩⟩⟩⟩⟩⟩
    ·
     skip
     apply E_seq
     apply E_ops
     refine WQ (does_loadA_ptr rfl rfl rfl rfl (by decide)) ?_
     obtain ⟨x15, x15h, h⟩ := of_bind h
     refine W1 (does_call1 hP (p_boot_steps F x5.1 x15 x15h) rfl rfl rfl) ?_
     refine WQ (does_len_sl rfl) ?_
     apply WM
     apply W_nil
     refine E_keep [0, 22, 23, 24] [100900, 100901] ?_
     (try dsimp)
     apply E_block
     (try dsimp)
     refine E_loopB (α := Int × (List S_row_Row) × Bool × Int × Int × (List Int)) (fun (i : Int × (List S_row_Row) × Bool × Int × Int × (List Int)) => (⟨[(0, S.one (.ptr 100900 0)), (22, S.one (.sl (flat e_L_S_wset_Write x15) x15.length)), (23, S.one (.v (.int .i64 ((x15.length : Nat) : Int)))), (24, S.one (.v (.int .i64 i.1)))], [(100900, (⟨false, [.own 100901 0 i.2.1.length (some (18, 86)), .v (.bool i.2.2.1), .v (.int .i64 i.2.2.2.1), .v (.int .i64 i.2.2.2.2.1), .sl (flat e_i_i64 i.2.2.2.2.2) i.2.2.2.2.2.length]⟩ : Reg)), (100901, (⟨true, flat e_S_row_Row i.2.1⟩ : Reg))]⟩ : St)) (fun n i => m_boot_Boot_l0 F k12 x15 n i.1 i.2.1 i.2.2.1 i.2.2.2.1 i.2.2.2.2.1 i.2.2.2.2.2 = some r) F ((0 : Int), a0.xl, a0.xoff, a0.xcount, a0.xfuse, a0.xkeep) h ?_ (fun n i h => ?_)
     ·
      exact (Le.b (le_mk ⟨rfl, rfl, rfl, rfl, trivial⟩ ⟨rfl, rfl, trivial⟩))
     obtain ⟨v32, v33, v34, v35, v36, v37⟩ := i; dsimp only at h
     cases n with
     | zero => cases h
     | succ n38 =>
      unfold m_boot_Boot_l0 at h
      (try dsimp)
      apply E_seq
      apply E_ops
      refine WQ (does_int rfl rfl rfl) ?_
      apply W_nil
      (try dsimp)
      apply E_seq
      refine E_cond rfl (fun hc39 => ?_) (fun hc39 => ?_)
      ·replace h := of_ct h hc39
       apply E_skip
       refine E_keep [0, 22, 23, 24] [100900, 100901] ?_
       (try dsimp)
       apply E_seq
       apply E_block
       apply E_seq
       apply E_ops
       obtain ⟨g40, h⟩ := of_gd h
       refine WQ (does_idx_sl rfl rfl g40.1 g40.2) ?_
       refine WQ (does_load1_slF (k := 1) rfl (fun _ => rfl) g40 0 rfl rfl) ?_
       apply WM
       apply W_nil
       refine E_keep [0, 7, 22, 23, 24] [100900, 100901] ?_
       (try dsimp)
       apply E_seq
       apply E_ops
       apply WM
       apply WM
       obtain ⟨x41, x41h, h⟩ := of_bind h
       refine W1 (does_callO [] false hP (p_boot_last F (⟨v33, v34, v35, v36, v37⟩ : S_nvm_Mem) (nth x15 v32) x41 x41h) rfl ⟨rfl, rfl, trivial⟩ rfl rfl rfl rfl rfl (fun h => by first | rfl | cases h) rfl) ?_
       (try dsimp)
       apply WM
       apply W_nil
       refine E_keep [0, 8, 22, 23, 24] [100900, 100901] ?_
       (try dsimp)
       apply E_seq
       apply E_ops
       apply WM
       refine WQ (does_int rfl rfl rfl) ?_
       apply W_nil
       refine E_keep [0, 8, 22, 23, 24, 32] [100900, 100901] ?_
       (try dsimp)
       refine E_cond rfl (fun hc42 => ?_) (fun hc42 => ?_)
       ·replace h := of_ct h hc42
        apply E_seq
        apply E_ops
        apply WM
        apply WM
        apply WM
        apply W_nil
        refine E_keep [2, 3] [100900, 100901] ?_
        (try dsimp)
        apply E_ret
        cases h
        (try simp only [qt, qb, qn])
        refine fin_mk (xs := _) ⟨_, rfl, ⟨_, rfl, rfl⟩⟩ ?_
        show _ ∧ _
        exact ⟨rfl, ⟨(by first | rfl | simp [setn_length, cpy_length, sortI_length]), ⟨(by first | rfl | simp [setn_length, cpy_length, sortI_length]), trivial⟩⟩⟩
       ·replace h := of_cf h hc42
        apply E_skip
        refine E_keep [0, 22, 23, 24] [100900, 100901] ?_
        (try dsimp)
        apply E_ops
        obtain ⟨g43, h⟩ := of_gd h
        refine WQ (does_add rfl rfl g43.1 g43.2) ?_
        apply WM
        apply W_nil
        refine ⟨n38, ((v32 + (1 : Int)), x41.1.xl, x41.1.xoff, x41.1.xcount, x41.1.xfuse, x41.1.xkeep), Nat.lt_succ_self _, h, ?_⟩
        exact (Le.b (le_mk ⟨rfl, rfl, rfl, rfl, trivial⟩ ⟨rfl, rfl, trivial⟩))
      ·replace h := of_cf h hc39
       apply E_exit
       refine ⟨(v33, v34, v35, v36, v37), h, ?_⟩
       exact (Le.b (le_mk ⟨rfl, trivial⟩ ⟨rfl, rfl, trivial⟩))
/- (*reeve/gear.Gear).may -/
def c_gear_Gear_may : VCode := (.seq (.ops [(o (.mv (ci 0)) 4)]) (.seq (.block 0 (.seq (.ops [(w 6 0), (o (.nilchk (t 6)) 7), (o (.add 0 (t 7)) 8), (o (.load false 1 (t 8)) 9), (o (.call 32 [(t 9)]) 10), (w 11 10), (g_ (.mv (t 0)) 12 11 false), (g_ (.nilchk (t 12)) 13 11 false), (g_ (.add 6 (t 13)) 14 11 false), (g_ (.load false 1 (t 14)) 15 11 false), (o (.pick (t 11) (cb true) (t 15)) 16), (w 5 16)]) (.cond (t 5) (.seq (.ops [(o (.mv (ci 12)) 4)]) .ret) (.seq (.ops [(w 18 1), (o (.bin .lss 3 (t 18) (ci 0)) 19), (w 20 19), (g_ (.mv (t 1)) 21 20 false), (g_ (.mv (t 0)) 22 20 false), (g_ (.nilchk (t 22)) 23 20 false), (g_ (.add 4 (t 23)) 24 20 false), (g_ (.load false 1 (t 24)) 25 20 false), (g_ (.len false (t 25)) 26 20 false), (g_ (.bin .geq 3 (t 21) (t 26)) 27 20 false), (o (.pick (t 20) (cb true) (t 27)) 28), (w 17 28)]) (.cond (t 17) (.seq (.ops [(o (.mv (ci 1)) 4)]) .ret) .skip))))) (.seq (.ops [(o (.mv (ci 0)) 4)]) .ret)))
theorem f_gear_Gear_may : Fits Tryz.prog 51 2 c_gear_Gear_may [(.tmp 4)] := fits_mk Tryz.func51 (by kernel_rfl) (by kernel_rfl) (by kernel_rfl)
theorem p_gear_Gear_may (F : Nat) (a0 : S_gear_Gear) (a1 : Int) (r : Int) (h : m_gear_Gear_may F a0 a1 = some r) : AC Tryz.prog 51 [S.one (.ptr 100900 0), S.one (.v (.int .i64 a1))] [(904, (⟨true, flat e_i_i64 a0.xorder⟩ : Reg)), (100900, (⟨false, [.ptr 100950 0, .v (.int .i64 a0.xgeo.xThreads), .v (.int .i64 a0.xgeo.xSlots), .v (.int .i64 a0.xgeo.xThings), .own 100903 0 a0.xw.length (some (12, 291)), .own 904 0 a0.xorder.length (some (1, 3)), .v (.bool a0.xdead)]⟩ : Reg)), (100903, (⟨true, flat e_S_gear_work a0.xw⟩ : Reg)), (100950, (⟨false, [.own 100951 0 a0.xm.xl.length (some (18, 86)), .v (.bool a0.xm.xoff), .v (.int .i64 a0.xm.xcount), .v (.int .i64 a0.xm.xfuse), .sl (flat e_i_i64 a0.xm.xkeep) a0.xm.xkeep.length]⟩ : Reg)), (100951, (⟨true, flat e_S_row_Row a0.xm.xl⟩ : Reg))] (fun x s' => x = S.one (.v (.int .i64 r)) ∧ leSt s' [(904, (⟨true, flat e_i_i64 a0.xorder⟩ : Reg)), (100900, (⟨false, [.ptr 100950 0, .v (.int .i64 a0.xgeo.xThreads), .v (.int .i64 a0.xgeo.xSlots), .v (.int .i64 a0.xgeo.xThings), .own 100903 0 a0.xw.length (some (12, 291)), .own 904 0 a0.xorder.length (some (1, 3)), .v (.bool a0.xdead)]⟩ : Reg)), (100903, (⟨true, flat e_S_gear_work a0.xw⟩ : Reg)), (100950, (⟨false, [.own 100951 0 a0.xm.xl.length (some (18, 86)), .v (.bool a0.xm.xoff), .v (.int .i64 a0.xm.xcount), .v (.int .i64 a0.xm.xfuse), .sl (flat e_i_i64 a0.xm.xkeep) a0.xm.xkeep.length]⟩ : Reg)), (100951, (⟨true, flat e_S_row_Row a0.xm.xl⟩ : Reg))]) := by
 unfold m_gear_Gear_may at h
 refine AC_go f_gear_Gear_may rfl ?_
 intro C hP
 unfold c_gear_Gear_may; dsimp
 apply E_seq
 apply E_ops
 apply WM
 apply W_nil
 refine E_keep [0, 1] [904, 100900, 100903, 100950, 100951] ?_
 (try dsimp)
 apply E_seq
 apply E_block
 apply E_seq
 apply E_ops
 apply WM
 refine WQ (does_nilchk_ptr rfl rfl) ?_
 refine WQ (does_add_ptr rfl rfl) ?_
 refine WQ (does_load1_ptr rfl rfl rfl) ?_
 obtain ⟨x1, x1h, h⟩ := of_bind h
 refine W1 (does_callO [(100900, 100950), (100901, 100951)] false hP (p_nvm_Mem_Off F a0.xm x1 x1h) rfl ⟨rfl, rfl, trivial⟩ rfl rfl rfl rfl rfl (fun h => by first | rfl | cases h) rfl) ?_
 (try dsimp)
 apply WM
 apply W_lazy
 ·rfl
 ·intro hB; (try simp only [hB, bss, ctt]); exact does_mv rfl
 apply W_lazy
 ·rfl
 ·intro hB; (try simp only [hB, bss, ctt]); exact does_nilchk_ptr rfl rfl
 apply W_lazy
 ·rfl
 ·intro hB; (try simp only [hB, bss, ctt]); exact does_add_ptr rfl rfl
 apply W_lazy
 ·rfl
 ·intro hB; (try simp only [hB, bss, ctt]); exact does_load1_ptr rfl rfl rfl
 refine WQ (does_or rfl rfl rfl) ?_
 apply WM
 apply W_nil
 refine E_keep [0, 1, 5] [904, 100900, 100903, 100950, 100951] ?_
 (try dsimp)
 refine E_cond rfl (fun hc2 => ?_) (fun hc2 => ?_)
 ·replace h := of_ct h hc2
  apply E_seq
  apply E_ops
  apply WM
  apply W_nil
  refine E_keep [4] [904, 100900, 100903, 100950, 100951] ?_
  (try dsimp)
  apply E_ret
  cases h
  (try simp only [qt, qb, qn])
  refine fin_mk (xs := _) ⟨_, rfl, rfl⟩ ?_
  show _ ∧ _
  exact ⟨rfl, ⟨(by first | rfl | simp [setn_length, cpy_length, sortI_length]), ⟨(by first | rfl | simp [setn_length, cpy_length, sortI_length]), ⟨(by first | rfl | simp [setn_length, cpy_length, sortI_length]), ⟨(by first | rfl | simp [setn_length, cpy_length, sortI_length]), ⟨(by first | rfl | simp [setn_length, cpy_length, sortI_length]), trivial⟩⟩⟩⟩⟩⟩
 ·replace h := of_cf h hc2
  apply E_seq
  apply E_ops
  apply WM
  refine WQ (does_int rfl rfl rfl) ?_
  apply WM
  apply W_lazy
  ·rfl
  ·intro hB; (try simp only [hB, bss, ctt]); exact does_mv rfl
  apply W_lazy
  ·rfl
  ·intro hB; (try simp only [hB, bss, ctt]); exact does_mv rfl
  apply W_lazy
  ·rfl
  ·intro hB; (try simp only [hB, bss, ctt]); exact does_nilchk_ptr rfl rfl
  apply W_lazy
  ·rfl
  ·intro hB; (try simp only [hB, bss, ctt]); exact does_add_ptr rfl rfl
  apply W_lazy
  ·rfl
  ·intro hB; (try simp only [hB, bss, ctt]); exact does_load1_ptr rfl rfl rfl
  apply W_lazy
  ·rfl
  ·intro hB; (try simp only [hB, bss, ctt]); exact does_len_own rfl rfl
  apply W_lazy
  ·rfl
  ·intro hB; (try simp only [hB, bss, ctt]); exact does_int rfl rfl rfl
  refine WQ (does_or rfl rfl rfl) ?_
  apply WM
  apply W_nil
  refine E_keep [17] [904, 100900, 100903, 100950, 100951] ?_
  (try dsimp)
  refine E_cond rfl (fun hc3 => ?_) (fun hc3 => ?_)
  ·replace h := of_ct h hc3
   apply E_seq
   apply E_ops
   apply WM
   apply W_nil
   refine E_keep [4] [904, 100900, 100903, 100950, 100951] ?_
   (try dsimp)
   apply E_ret
   cases h
   (try simp only [qt, qb, qn])
   refine fin_mk (xs := _) ⟨_, rfl, rfl⟩ ?_
   show _ ∧ _
   exact ⟨rfl, ⟨(by first | rfl | simp [setn_length, cpy_length, sortI_length]), ⟨(by first | rfl | simp [setn_length, cpy_length, sortI_length]), ⟨(by first | rfl | simp [setn_length, cpy_length, sortI_length]), ⟨(by first | rfl | simp [setn_length, cpy_length, sortI_length]), ⟨(by first | rfl | simp [setn_length, cpy_length, sortI_length]), trivial⟩⟩⟩⟩⟩⟩
  ·replace h := of_cf h hc3
   apply E_skip
   refine E_keep [] [904, 100900, 100903, 100950, 100951] ?_
   (try dsimp)
   apply E_seq
   apply E_ops
   apply WM
   apply W_nil
   (try dsimp)
   apply E_ret
   cases h
   (try simp only [qt, qb, qn])
   refine fin_mk (xs := _) ⟨_, rfl, rfl⟩ ?_
   show _ ∧ _
   exact ⟨rfl, ⟨(by first | rfl | simp [setn_length, cpy_length, sortI_length]), ⟨(by first | rfl | simp [setn_length, cpy_length, sortI_length]), ⟨(by first | rfl | simp [setn_length, cpy_length, sortI_length]), ⟨(by first | rfl | simp [setn_length, cpy_length, sortI_length]), ⟨(by first | rfl | simp [setn_length, cpy_length, sortI_length]), trivial⟩⟩⟩⟩⟩⟩
end Go.V.P
