/- Walks: each function does what its model says: reeve/cap.Word, reeve/geo.Thing, reeve/thing.bytes, reeve/thing.pairs, reeve/thing.Put, reeve/image.Put, reeve/nvm.New, reeve/nvm.From, reeve/boot.Make, (*reeve/nvm.Mem).Off, (*reeve/nvm.Mem).Words, slices.Equal[[]uint64,uint64], reeve/super.Get, reeve/super.Find, reeve/geo.Desc, reeve/opd.fields, reeve/tag.Get, reeve/wset.Good, reeve/opd.Good. Printed by mg.py. No premises. -/
import Derived.Test.YteocabneaenpeaaGreatP2
set_option linter.unusedVariables false
set_option linter.unusedSimpArgs false
set_option maxRecDepth 20000
set_option maxHeartbeats 4000000
namespace Go.V.P
open Go.V Go.Proofs
/- reeve/cap.Word -/
def c_cap_Word : VCode := (.seq (.ops [(o (.box 109 (t 0)) 1), (o (.mv (.const (.int .u64 0))) 2), (o (.mv (cb false)) 3)]) (.seq (.seq (.ops [(o (.load true 4 (t 1)) 4), (o (.call 97 [(t 4)]) 5), (o (.un .not (t 5)) 6)]) (.cond (t 6) (.seq (.ops [(o (.mv (.const (.int .u64 0))) 2), (o (.mv (cb false)) 3)]) .ret) .skip)) (.seq (.draw [((o (.call 99 []) 7), []), ((o (.add 0 (t 1)) 8), []), ((o (.load false 1 (t 8)) 9), [1]), ((o (.convI .u64 (t 9)) 10), [2]), ((o (.add 2 (t 1)) 11), []), ((o (.load false 1 (t 11)) 12), [4]), ((o (.convI .u64 (t 12)) 13), [5]), ((o (.add 3 (t 1)) 14), []), ((o (.load false 1 (t 14)) 15), [7]), ((o (.convI .u64 (t 15)) 16), [8]), ((o (.add 1 (t 1)) 17), []), ((o (.load false 1 (t 17)) 18), [10]), ((o (.convI .u64 (t 18)) 19), [11]), ((o (.bslice 1 42 4 [zu, zu, zu, zu] [(0, (1, (t 10))), (1, (1, (t 13))), (2, (1, (t 16))), (3, (1, (t 19)))]) 20), [3, 6, 9, 12]), ((o (.call 98 [(t 7), (t 20)]) 21), [0, 13, 0]), ((o (.ext 0 (t 21)) 22), [14]), ((o (.ext 1 (t 21)) 23), [14]), ((w 2 22), [15, 14, 0, 1, 2, 3, 4, 5, 6, 7, 8, 9, 10, 11, 12, 13, 14, 15, 16]), ((w 3 23), [16, 17, 0, 1, 2, 3, 4, 5, 6, 7, 8, 9, 10, 11, 12, 13, 14, 15, 16, 17])]) .ret)))
theorem f_cap_Word : Fits Tryz.prog 60 1 c_cap_Word [(.tmp 2), (.tmp 3)] := fits_mk Tryz.func60 (by kernel_rfl) (by kernel_rfl) (by kernel_rfl)
theorem p_cap_Word (F : Nat) (a0 : S_cap_Cap) (r : Int × Bool) (h : m_cap_Word F a0 = some r) : PC Tryz.prog 60 [S.agg [.v (.int .i64 a0.xType), .v (.int .i64 a0.xThing), .v (.int .i64 a0.xRights), .v (.int .i64 a0.xBadge)]] (S.tup [S.one (.v (.int .u64 r.1)), S.one (.v (.bool r.2))]) := by
 unfold m_cap_Word at h
 refine PC_go f_cap_Word rfl rfl ?_
 intro C hP
 unfold c_cap_Word; dsimp
 apply E_seq
 apply E_ops
 refine W1 (does_box rfl rfl rfl rfl) ?_
 apply WM
 apply WM
 apply W_nil
 refine E_keep [1] [1] ?_
 (try dsimp)
 apply E_seq
 apply E_seq
 apply E_ops
 refine WQ (does_loadA_ptr rfl rfl rfl rfl (by decide)) ?_
 obtain ⟨x1, x1h, h⟩ := of_bind h
 refine W1 (does_call1 hP (p_cap_Good F a0 x1 x1h) rfl rfl rfl) ?_
 refine WQ (does_not rfl) ?_
 apply W_nil
 refine E_keep [1, 6] [1] ?_
 (try dsimp)
 refine E_cond rfl (fun hc2 => ?_) (fun hc2 => ?_)
 ·replace h := of_ct h hc2
  apply E_seq
  apply E_ops
  apply WM
  apply WM
  apply W_nil
  refine E_keep [2, 3] [] ?_
  (try dsimp)
  apply E_ret
  cases h
  (try simp only [qt, qb, qn])
  refine fin_mk (xs := _) ⟨_, rfl, ⟨_, rfl, rfl⟩⟩ ?_
  rfl
 ·replace h := of_cf h hc2
  apply E_skip
  refine E_keep [1] [1] ?_
  (try dsimp)
  obtain ⟨k5, k5d, h⟩ := of_jn h
  refine E_seqJ (α := Int × Bool) (fun (i : Int × Bool) => (⟨[(2, S.one (.v (.int .u64 i.1))), (3, S.one (.v (.bool i.2)))], []⟩ : St)) (fun i => k5 i.1 i.2 = some r) (fun i h => ?_) ?_
  ·obtain ⟨v3, v4⟩ := i
   rw [k5d] at h; dsimp only at h
   (try dsimp)
   apply E_ret
   cases h
   (try simp only [qt, qb, qn])
   refine fin_mk (xs := _) ⟨_, rfl, ⟨_, rfl, rfl⟩⟩ ?_
   rfl
  ·
   skip
   obtain ⟨x6, x6h, h⟩ := of_bind h
   obtain ⟨x7, x7h, h⟩ := of_bind h
   refine E_draw [1, 2, 3, 4, 5, 6, 7, 8, 9, 10, 11, 12, 15, 16, 17, 18] ?_
   refine XQ 1 rfl rfl rfl (does_add_ptr rfl rfl) ?_
   refine XQ 2 rfl rfl rfl (does_load1_ptr rfl rfl rfl) ?_
   refine XQ 3 rfl rfl rfl (does_convI rfl) ?_
   refine XQ 4 rfl rfl rfl (does_add_ptr rfl rfl) ?_
   refine XQ 5 rfl rfl rfl (does_load1_ptr rfl rfl rfl) ?_
   refine XQ 6 rfl rfl rfl (does_convI rfl) ?_
   refine XQ 7 rfl rfl rfl (does_add_ptr rfl rfl) ?_
   refine XQ 8 rfl rfl rfl (does_load1_ptr rfl rfl rfl) ?_
   refine XQ 9 rfl rfl rfl (does_convI rfl) ?_
   refine XQ 10 rfl rfl rfl (does_add_ptr rfl rfl) ?_
   refine XQ 11 rfl rfl rfl (does_load1_ptr rfl rfl rfl) ?_
   refine XQ 12 rfl rfl rfl (does_convI rfl) ?_
   (try dsimp)
   refine X2 rfl ?_ ?_
   ·
    refine XK rfl (does_call1 hP (p_cap_fields F  x6 x6h) rfl rfl rfl) ?_
    refine X1 rfl (XK rfl (does_bslice rfl rfl rfl rfl) ?_)
    refine X1 rfl (XK rfl (does_callB hP (p_tag_Put F x6 ([(IntKind.u64.wrap a0.xType), (IntKind.u64.wrap a0.xRights), (IntKind.u64.wrap a0.xBadge), (IntKind.u64.wrap a0.xThing)] : List Int) x7 x7h) rfl rfl) ?_)
    refine XQ 15 rfl rfl rfl (does_ext rfl rfl) ?_
    refine XQ 16 rfl rfl rfl (does_ext rfl rfl) ?_
    refine XQ 17 rfl rfl rfl (does_mv rfl) ?_
    refine XQ 18 rfl rfl rfl (does_mv rfl) ?_
    refine X_nil rfl ?_
    refine ⟨(x7.1, x7.2), h, ?_⟩
    exact (Le.b (le_mk ⟨rfl, rfl, trivial⟩ trivial))
   ·
    refine XK rfl (does_bslice rfl rfl rfl rfl) ?_
    refine X1 rfl (XK rfl (does_call1 hP (p_cap_fields F  x6 x6h) rfl rfl rfl) ?_)
    refine X1 rfl (XK rfl (does_callB hP (p_tag_Put F x6 ([(IntKind.u64.wrap a0.xType), (IntKind.u64.wrap a0.xRights), (IntKind.u64.wrap a0.xBadge), (IntKind.u64.wrap a0.xThing)] : List Int) x7 x7h) rfl rfl) ?_)
    refine XQ 15 rfl rfl rfl (does_ext rfl rfl) ?_
    refine XQ 16 rfl rfl rfl (does_ext rfl rfl) ?_
    refine XQ 17 rfl rfl rfl (does_mv rfl) ?_
    refine XQ 18 rfl rfl rfl (does_mv rfl) ?_
    refine X_nil rfl ?_
    refine ⟨(x7.1, x7.2), h, ?_⟩
    exact (Le.b (le_mk ⟨rfl, rfl, trivial⟩ trivial))
/- reeve/geo.Thing -/
def c_geo_Thing : VCode := (.seq (.ops [(o (.box 23 (t 0)) 2), (o (.mv (ci 0)) 4)]) (.seq (.seq (.ops [(o (.load true 3 (t 2)) 5), (o (.call 38 [(t 5)]) 6), (o (.un .not (t 6)) 7), (w 8 7), (g_ (.mv (t 1)) 9 8 false), (g_ (.add 2 (t 2)) 10 8 false), (g_ (.load false 1 (t 10)) 11 8 false), (g_ (.bin .sub 3 (t 11) (ci 1)) 12 8 false), (g_ (.call 63 [(t 9), (ci 0), (t 12)]) 13 8 false), (g_ (.un .not (t 13)) 14 8 false), (o (.pick (t 8) (cb true) (t 14)) 15)]) (.cond (t 15) (.seq (.ops [(o (.mv (ci 0)) 4)]) .ret) .skip)) (.seq (.ops [(o (.load true 3 (t 2)) 16), (o (.call 95 [(t 16)]) 17), (w 18 1), (o (.bin .mul 3 (ci 8) (t 18)) 19), (o (.bin .add 3 (t 17) (t 19)) 20), (w 4 20)]) .ret)))
theorem f_geo_Thing : Fits Tryz.prog 61 2 c_geo_Thing [(.tmp 4)] := fits_mk Tryz.func61 (by kernel_rfl) (by kernel_rfl) (by kernel_rfl)
theorem p_geo_Thing (F : Nat) (a0 : S_geo_Geo) (a1 : Int) (r : Int) (h : m_geo_Thing F a0 a1 = some r) : PC Tryz.prog 61 [S.agg [.v (.int .i64 a0.xThreads), .v (.int .i64 a0.xSlots), .v (.int .i64 a0.xThings)], S.one (.v (.int .i64 a1))] (S.one (.v (.int .i64 r))) := by
 unfold m_geo_Thing at h
 refine PC_go f_geo_Thing rfl rfl ?_
 intro C hP
 unfold c_geo_Thing; dsimp
 apply E_seq
 apply E_ops
 refine W1 (does_box rfl rfl rfl rfl) ?_
 apply WM
 apply W_nil
 refine E_keep [1, 2] [2] ?_
 (try dsimp)
 apply E_seq
 apply E_seq
 apply E_ops
 refine WQ (does_loadA_ptr rfl rfl rfl rfl (by decide)) ?_
 obtain ⟨x1, x1h, h⟩ := of_bind h
 refine W1 (does_call1 hP (p_geo_Good F a0 x1 x1h) rfl rfl rfl) ?_
 refine WQ (does_not rfl) ?_
 apply WM
 apply W_lazy
 ·rfl
 ·intro hB; (try simp only [hB, bss, ctt]); exact does_mv rfl
 apply W_lazy
 ·rfl
 ·intro hB; (try simp only [hB, bss, ctt]); exact does_add_ptr rfl rfl
 apply W_lazy
 ·rfl
 ·intro hB; (try simp only [hB, bss, ctt]); exact does_load1_ptr rfl rfl rfl
 obtain ⟨g2, h⟩ := of_gd h
 apply W_lazy
 ·rfl
 ·intro hB; (try simp only [hB, bss, ctt]); exact does_sub rfl rfl (g2 hB).1 (g2 hB).2
 obtain ⟨x3, x3h, h⟩ := of_bind h
 apply W_lazyD
 ·rfl
 ·intro hB; (try simp only [hB, bss, ctt]); exact does_call1 hP (p_geo_in F a1 (0 : Int) (a0.xThings - (1 : Int)) x3 (of_lz x3h (bt hB))) rfl rfl rfl
 apply W_lazy
 ·rfl
 ·intro hB; (try simp only [hB, bss, ctt]); exact does_not rfl
 refine WQ (does_or rfl rfl rfl) ?_
 apply W_nil
 refine E_keep [1, 2, 15] [2] ?_
 (try dsimp)
 refine E_cond rfl (fun hc4 => ?_) (fun hc4 => ?_)
 ·replace h := of_ct h hc4
  apply E_seq
  apply E_ops
  apply WM
  apply W_nil
  refine E_keep [4] [] ?_
  (try dsimp)
  apply E_ret
  cases h
  (try simp only [qt, qb, qn])
  refine fin_mk (xs := _) ⟨_, rfl, rfl⟩ ?_
  rfl
 ·replace h := of_cf h hc4
  apply E_skip
  refine E_keep [1, 2] [2] ?_
  (try dsimp)
  apply E_seq
  apply E_ops
  refine WQ (does_loadA_ptr rfl rfl rfl rfl (by decide)) ?_
  obtain ⟨x5, x5h, h⟩ := of_bind h
  refine W1 (does_call1 hP (p_geo_thingsAt F a0 x5 x5h) rfl rfl rfl) ?_
  apply WM
  obtain ⟨g6, h⟩ := of_gd h
  refine WQ (does_mul rfl rfl g6.1 g6.2) ?_
  obtain ⟨g7, h⟩ := of_gd h
  refine WQ (does_add rfl rfl g7.1 g7.2) ?_
  apply WM
  apply W_nil
  refine E_keep [4] [] ?_
  (try dsimp)
  apply E_ret
  cases h
  (try simp only [qt, qb, qn])
  refine fin_mk (xs := _) ⟨_, rfl, rfl⟩ ?_
  rfl
/- reeve/thing.bytes -/
def c_thing_bytes : VCode := (.seq (.ops [(o (.mv cn) 0)]) (.seq (.ops [(o (.mv cn) 1)]) (.seq (.seq (.ops [(o (.mv (ci 0)) 3)]) (.block 0 (.loop (.seq (.ops [(o (.bin .lss 3 (t 3) (ci 5)) 4)]) (.seq (.cond (t 4) .skip (.exit 0)) (.seq (.block 1 (.seq (.ops [(w 5 3), (w 2 5)]) (.ops [(w 6 1), (w 7 2), (o (.bin .mul 3 (ci 8) (t 7)) 8), (o (.build [zi, zi] [(0, (1, (t 8))), (1, (1, (ci 8)))]) 9), (o (.bslice 2 221 1 [zi, zi] [(0, (2, (t 9)))]) 10), (o (.app 186 221 2 16 (t 6) (t 10)) 11), (w 1 11)]))) (.ops [(o (.bin .add 3 (t 3) (ci 1)) 12), (w 3 12)]))))))) (.seq (.ops [(w 13 1), (w 0 13)]) .ret))))
theorem f_thing_bytes : Fits Tryz.prog 100 0 c_thing_bytes [(.tmp 0)] := fits_mk Tryz.func100 (by kernel_rfl) (by kernel_rfl) (by kernel_rfl)
theorem p_thing_bytes (F : Nat)  (r : (List S_tag_Field)) (h : m_thing_bytes F  = some r) : PC Tryz.prog 100 [] (S.one (.sl (flat e_S_tag_Field r) r.length)) := by
 unfold m_thing_bytes at h
 refine PC_go f_thing_bytes rfl rfl ?_
 intro C hP
 unfold c_thing_bytes; dsimp
 apply E_seq
 apply E_ops
 apply WM
 apply W_nil
 refine E_keep [] [] ?_
 (try dsimp)
 apply E_seq
 apply E_ops
 apply WM
 apply W_nil
 (try dsimp)
 obtain ⟨k2, k2d, h⟩ := of_jn h
 refine E_seqJ (α := (List S_tag_Field)) (fun (i : (List S_tag_Field)) => (⟨[(1, S.one (.own 1011 0 i.length (some (2, 221))))], [(1011, (⟨true, flat e_S_tag_Field i⟩ : Reg))]⟩ : St)) (fun i => k2 i = some r) (fun i h => ?_) ?_
 ·let iv := i; change k2 i = some r at h; generalize i = v1 at h ⊢
  rw [k2d] at h; dsimp only at h
  (try dsimp)
  apply E_seq
  apply E_ops
  apply WM
  apply WM
  apply W_nil
  refine E_keep [0] [1011] ?_
  (try dsimp)
  refine E_ghost (Le_frz (r := 1011) rfl rfl).b ?_
  (try dsimp)
  apply E_ret
  cases h
  (try simp only [qt, qb, qn])
  refine fin_mk (xs := _) ⟨_, rfl, rfl⟩ ?_
  rfl
 ·
  skip
  apply E_seq
  apply E_ops
  apply WM
  apply W_nil
  (try dsimp)
  apply E_block
  (try dsimp)
  refine E_loopB (α := Int × (List S_tag_Field)) (fun (i : Int × (List S_tag_Field)) => (⟨[(1, S.one (.own 1011 0 i.2.length (some (2, 221)))), (3, S.one (.v (.int .i64 i.1)))], [(1011, (⟨true, flat e_S_tag_Field i.2⟩ : Reg))]⟩ : St)) (fun n i => m_thing_bytes_l0 F k2 n i.1 i.2 = some r) F ((0 : Int), ([] : List S_tag_Field)) h ?_ (fun n i h => ?_)
  ·
   refine LeB_trans (LeB_nilown (i := 1) (r := 1011) 2 221 rfl rfl) ?_
   exact (Le.b (le_mk ⟨rfl, rfl, trivial⟩ ⟨rfl, trivial⟩))
  obtain ⟨v13, v14⟩ := i; dsimp only at h
  cases n with
  | zero => cases h
  | succ n15 =>
   unfold m_thing_bytes_l0 at h
   (try dsimp)
   apply E_seq
   apply E_ops
   refine WQ (does_int rfl rfl rfl) ?_
   apply W_nil
   (try dsimp)
   apply E_seq
   refine E_cond rfl (fun hc16 => ?_) (fun hc16 => ?_)
   ·replace h := of_ct h hc16
    apply E_skip
    refine E_keep [1, 3] [1011] ?_
    (try dsimp)
    apply E_seq
    apply E_block
    apply E_seq
    apply E_ops
    apply WM
    apply WM
    apply W_nil
    refine E_keep [1, 2, 3] [1011] ?_
    (try dsimp)
    apply E_ops
    apply WM
    apply WM
    obtain ⟨g17, h⟩ := of_gd h
    refine WQ (does_mul rfl rfl g17.1 g17.2) ?_
    refine WQ (does_build rfl rfl) ?_
    refine W1 (does_bslice rfl rfl rfl rfl) ?_
    obtain ⟨g18, h⟩ := of_gd h
    refine W1 (does_appF (e := e_S_tag_Field) rfl rfl (fun _ => rfl) (fun _ => rfl) rfl (Src.lit (e := e_S_tag_Field) ([(⟨((8 : Int) * v13), (8 : Int)⟩ : S_tag_Field)] : List S_tag_Field) rfl (fun _ => rfl) rfl rfl) g18 rfl) ?_
    apply WM
    apply W_nil
    refine E_keep [1, 3] [1011] ?_
    (try dsimp)
    apply E_ops
    obtain ⟨g19, h⟩ := of_gd h
    refine WQ (does_add rfl rfl g19.1 g19.2) ?_
    apply WM
    apply W_nil
    refine ⟨n15, ((v13 + (1 : Int)), (v14 ++ ([(⟨((8 : Int) * v13), (8 : Int)⟩ : S_tag_Field)] : List S_tag_Field))), Nat.lt_succ_self _, h, ?_⟩
    exact (Le.b (le_mk ⟨rfl, rfl, trivial⟩ ⟨rfl, trivial⟩))
   ·replace h := of_cf h hc16
    apply E_exit
    refine ⟨v14, h, ?_⟩
    exact (Le.b (le_mk ⟨rfl, trivial⟩ ⟨rfl, trivial⟩))
/- reeve/thing.pairs -/
def c_thing_pairs : VCode := (.seq (.ops [(o (.mv cn) 0)]) (.seq (.ops [(o (.build [zi, zi] [(0, (1, (ci 0))), (1, (1, (ci 16)))]) 1), (o (.build [zi, zi] [(0, (1, (ci 16))), (1, (1, (ci 16)))]) 2), (o (.build [zi, zi] [(0, (1, (ci 32))), (1, (1, (ci 16)))]) 3), (o (.bslice 2 221 3 [zi, zi, zi, zi, zi, zi] [(0, (2, (t 1))), (2, (2, (t 2))), (4, (2, (t 3)))]) 4), (w 0 4)]) .ret))
theorem f_thing_pairs : Fits Tryz.prog 101 0 c_thing_pairs [(.tmp 0)] := fits_mk Tryz.func101 (by kernel_rfl) (by kernel_rfl) (by kernel_rfl)
theorem p_thing_pairs (F : Nat)  (r : (List S_tag_Field)) (h : m_thing_pairs F  = some r) : PC Tryz.prog 101 [] (S.one (.sl (flat e_S_tag_Field r) r.length)) := by
 unfold m_thing_pairs at h
 refine PC_go f_thing_pairs rfl rfl ?_
 intro C hP
 unfold c_thing_pairs; dsimp
 apply E_seq
 apply E_ops
 apply WM
 apply W_nil
 refine E_keep [] [] ?_
 (try dsimp)
 apply E_seq
 apply E_ops
 refine WQ (does_build rfl rfl) ?_
 refine WQ (does_build rfl rfl) ?_
 refine WQ (does_build rfl rfl) ?_
 refine W1 (does_bslice rfl rfl rfl rfl) ?_
 apply WM
 apply W_nil
 refine E_keep [0] [4] ?_
 (try dsimp)
 refine E_ghost (Le_reg (r := 4) (g' := (⟨true, flat e_S_tag_Field ([(⟨(0 : Int), (16 : Int)⟩ : S_tag_Field), (⟨(16 : Int), (16 : Int)⟩ : S_tag_Field), (⟨(32 : Int), (16 : Int)⟩ : S_tag_Field)] : List S_tag_Field)⟩ : Reg)) rfl rfl).b ?_
 (try dsimp)
 obtain ⟨g1, h⟩ := of_gd h
 refine E_ghost (Le_ownlen (i := 0) _ rfl g1).b ?_
 (try dsimp)
 refine E_ghost (Le_frz (r := 4) rfl rfl).b ?_
 (try dsimp)
 apply E_ret
 cases h
 (try simp only [qt, qb, qn])
 refine fin_mk (xs := _) ⟨_, rfl, rfl⟩ ?_
 rfl
/- reeve/thing.Put -/
def c_thing_Put : VCode := (.seq (.ops [(o (.box 104 (t 0)) 1), (o (.mv cn) 2)]) (.seq (.seq (.ops [(o (.load true 13 (t 1)) 8), (o (.call 75 [(t 8)]) 9), (o (.un .not (t 9)) 10)]) (.cond (t 10) (.seq (.ops [(o (.mv cn) 2)]) .ret) .skip)) (.seq (.ops [(o (.mv (.const (.int .u64 0))) 3)]) (.seq (.seq (.ops [(o (.add 7 (t 1)) 11), (o (.load false 1 (t 11)) 12)]) (.cond (t 12) (.ops [(o (.mv (.const (.int .u64 1))) 3)]) .skip)) (.seq (.draw [((o (.call 100 []) 14), []), ((o (.add 0 (t 1)) 15), []), ((o (.load false 1 (t 15)) 16), [1]), ((o (.convI .u64 (t 16)) 17), [2]), ((o (.add 1 (t 1)) 18), []), ((o (.load false 1 (t 18)) 19), [4]), ((o (.convI .u64 (t 19)) 20), [5]), ((o (.add 2 (t 1)) 21), []), ((o (.load false 1 (t 21)) 22), [7]), ((o (.convI .u64 (t 22)) 23), [8]), ((w 24 3), []), ((o (.add 5 (t 1)) 25), []), ((o (.load false 1 (t 25)) 26), [11]), ((o (.convI .u64 (t 26)) 27), [12]), ((o (.bslice 1 42 5 [zu, zu, zu, zu, zu] [(0, (1, (t 17))), (1, (1, (t 20))), (2, (1, (t 23))), (3, (1, (t 24))), (4, (1, (t 27)))]) 28), [3, 6, 9, 10, 13]), ((o (.call 98 [(t 14), (t 28)]) 29), [0, 14, 0]), ((w 13 29), [15]), ((o (.ext 0 (t 13)) 30), [16]), ((o (.ext 1 (t 13)) 31), [16]), ((w 4 30), [17, 15, 0, 1, 2, 3, 4, 5, 6, 7, 8, 9, 10, 11, 12, 13, 14, 15, 16, 17]), ((w 5 31), [18, 19, 0, 1, 2, 3, 4, 5, 6, 7, 8, 9, 10, 11, 12, 13, 14, 15, 16, 17, 18, 19])]) (.seq (.draw [((o (.call 101 []) 33), []), ((o (.add 3 (t 1)) 34), []), ((o (.load false 1 (t 34)) 35), [1]), ((o (.convI .u64 (t 35)) 36), [2]), ((o (.add 4 (t 1)) 37), []), ((o (.load false 1 (t 37)) 38), [4]), ((o (.convI .u64 (t 38)) 39), [5]), ((o (.add 6 (t 1)) 40), []), ((o (.load false 1 (t 40)) 41), [7]), ((o (.convI .u64 (t 41)) 42), [8]), ((o (.bslice 1 42 3 [zu, zu, zu] [(0, (1, (t 36))), (1, (1, (t 39))), (2, (1, (t 42)))]) 43), [3, 6, 9]), ((o (.call 98 [(t 33), (t 43)]) 44), [0, 10, 0]), ((w 32 44), [11]), ((o (.ext 0 (t 32)) 45), [12]), ((o (.ext 1 (t 32)) 46), [12]), ((w 6 45), [13, 11, 0, 1, 2, 3, 4, 5, 6, 7, 8, 9, 10, 11, 12, 13]), ((w 7 46), [14, 15, 0, 1, 2, 3, 4, 5, 6, 7, 8, 9, 10, 11, 12, 13, 14, 15])]) (.seq (.draw [((w 47 4), []), ((w 48 6), []), ((o (.add 8 (t 1)) 49), []), ((o (.load false 1 (t 49)) 50), [2]), ((o (.bslice 1 42 3 [zu, zu, zu] [(0, (1, (t 47))), (1, (1, (t 48))), (2, (1, (t 50)))]) 51), [0, 1, 3]), ((o (.add 9 (t 1)) 52), []), ((o (.slcA 1 4 (t 52) .none .none) 53), [5]), ((o (.app 36 42 1 8 (t 51) (t 53)) 54), [4, 6]), ((o (.bslice 1 42 1 [zu] [(0, (1, (.const (.int .u64 0))))]) 55), []), ((o (.app 36 42 1 8 (t 54) (t 55)) 56), [7, 8, 7]), ((w 2 56), [9, 9, 0, 1, 2, 3, 4, 5, 6, 7, 8, 9])]) .ret)))))))
theorem f_thing_Put : Fits Tryz.prog 62 1 c_thing_Put [(.tmp 2)] := fits_mk Tryz.func62 (by kernel_rfl) (by kernel_rfl) (by kernel_rfl)
theorem p_thing_Put (F : Nat) (a0 : S_thing_Thing) (r : (List Int)) (h : m_thing_Put F a0 = some r) : PC Tryz.prog 62 [S.agg [.v (.int .i64 a0.xType), .v (.int .i64 a0.xBits), .v (.int .i64 a0.xBase), .v (.int .i64 a0.xSize), .v (.int .i64 a0.xUsed), .v (.int .i64 a0.xFrom), .v (.int .i64 a0.xBadge), .v (.bool a0.xFull), .v (.int .u64 a0.xWord), .v (.int .u64 a0.xData.c0), .v (.int .u64 a0.xData.c1), .v (.int .u64 a0.xData.c2), .v (.int .u64 a0.xData.c3)]] (S.one (.sl (flat e_i_u64 r) r.length)) := by
 unfold m_thing_Put at h
 refine PC_go f_thing_Put rfl rfl ?_
 intro C hP
 unfold c_thing_Put; dsimp
 apply E_seq
 apply E_ops
 refine W1 (does_box rfl rfl rfl rfl) ?_
 apply WM
 apply W_nil
 refine E_keep [1] [1] ?_
 (try dsimp)
 apply E_seq
 apply E_seq
 apply E_ops
 refine WQ (does_loadA_ptr rfl rfl rfl rfl (by decide)) ?_
 obtain ⟨x1, x1h, h⟩ := of_bind h
 refine W1 (does_call1 hP (p_thing_Good F a0 x1 x1h) rfl rfl rfl) ?_
 refine WQ (does_not rfl) ?_
 apply W_nil
 refine E_keep [1, 10] [1] ?_
 (try dsimp)
 refine E_cond rfl (fun hc2 => ?_) (fun hc2 => ?_)
 ·replace h := of_ct h hc2
  apply E_seq
  apply E_ops
  apply WM
  apply W_nil
  refine E_keep [2] [] ?_
  (try dsimp)
  refine E_ghost (Le_nilS (i := 2) rfl).b ?_
  (try dsimp)
  apply E_ret
  cases h
  (try simp only [qt, qb, qn])
  refine fin_mk (xs := _) ⟨_, rfl, rfl⟩ ?_
  rfl
 ·replace h := of_cf h hc2
  apply E_skip
  refine E_keep [1] [1] ?_
  (try dsimp)
  apply E_seq
  apply E_ops
  apply WM
  apply W_nil
  (try dsimp)
  obtain ⟨k4, k4d, h⟩ := of_jn h
  refine E_seqJ (α := Int) (fun (i : Int) => (⟨[(1, S.one (.ptr 1 0)), (3, S.one (.v (.int .u64 i)))], [(1, (⟨true, [.v (.int .i64 a0.xType), .v (.int .i64 a0.xBits), .v (.int .i64 a0.xBase), .v (.int .i64 a0.xSize), .v (.int .i64 a0.xUsed), .v (.int .i64 a0.xFrom), .v (.int .i64 a0.xBadge), .v (.bool a0.xFull), .v (.int .u64 a0.xWord), .v (.int .u64 a0.xData.c0), .v (.int .u64 a0.xData.c1), .v (.int .u64 a0.xData.c2), .v (.int .u64 a0.xData.c3)]⟩ : Reg))]⟩ : St)) (fun i => k4 i = some r) (fun i h => ?_) ?_
  ·let iv := i; change k4 i = some r at h; generalize i = v3 at h ⊢
   rw [k4d] at h; dsimp only at h
   (try dsimp)
   obtain ⟨k6, k6d, h⟩ := of_jn h
   refine E_seqJ (α := Int) (fun (i : Int) => (⟨[(1, S.one (.ptr 1 0)), (4, S.one (.v (.int .u64 i)))], [(1, (⟨true, [.v (.int .i64 a0.xType), .v (.int .i64 a0.xBits), .v (.int .i64 a0.xBase), .v (.int .i64 a0.xSize), .v (.int .i64 a0.xUsed), .v (.int .i64 a0.xFrom), .v (.int .i64 a0.xBadge), .v (.bool a0.xFull), .v (.int .u64 a0.xWord), .v (.int .u64 a0.xData.c0), .v (.int .u64 a0.xData.c1), .v (.int .u64 a0.xData.c2), .v (.int .u64 a0.xData.c3)]⟩ : Reg))]⟩ : St)) (fun i => k6 i = some r) (fun i h => ?_) ?_
   ·let iv := i; change k6 i = some r at h; generalize i = v5 at h ⊢
    rw [k6d] at h; dsimp only at h
    (try dsimp)
    obtain ⟨k8, k8d, h⟩ := of_jn h
    refine E_seqJ (α := Int) (fun (i : Int) => (⟨[(1, S.one (.ptr 1 0)), (4, S.one (.v (.int .u64 v5))), (6, S.one (.v (.int .u64 i)))], [(1, (⟨true, [.v (.int .i64 a0.xType), .v (.int .i64 a0.xBits), .v (.int .i64 a0.xBase), .v (.int .i64 a0.xSize), .v (.int .i64 a0.xUsed), .v (.int .i64 a0.xFrom), .v (.int .i64 a0.xBadge), .v (.bool a0.xFull), .v (.int .u64 a0.xWord), .v (.int .u64 a0.xData.c0), .v (.int .u64 a0.xData.c1), .v (.int .u64 a0.xData.c2), .v (.int .u64 a0.xData.c3)]⟩ : Reg))]⟩ : St)) (fun i => k8 i = some r) (fun i h => ?_) ?_
    ·let iv := i; change k8 i = some r at h; generalize i = v7 at h ⊢
     rw [k8d] at h; dsimp only at h
     (try dsimp)
     obtain ⟨k9, k9d, h⟩ := of_jn h
     refine E_seqJ (α := Unit) (fun (i : Unit) => (⟨[(2, S.one (.own 51 0 ((([v5, v7, a0.xWord] : List Int) ++ ([a0.xData.c0, a0.xData.c1, a0.xData.c2, a0.xData.c3] : List Int)) ++ ([(0 : Int)] : List Int)).length (some (1, 42))))], [(51, (⟨true, flat e_i_u64 ((([v5, v7, a0.xWord] : List Int) ++ ([a0.xData.c0, a0.xData.c1, a0.xData.c2, a0.xData.c3] : List Int)) ++ ([(0 : Int)] : List Int))⟩ : Reg))]⟩ : St)) (fun i => k9 () = some r) (fun i h => ?_) ?_
     ·skip
      rw [k9d] at h; dsimp only at h
      (try dsimp)
      refine E_ghost (Le_frz (r := 51) rfl rfl).b ?_
      (try dsimp)
      apply E_ret
      cases h
      (try simp only [qt, qb, qn])
      refine fin_mk (xs := _) ⟨_, rfl, rfl⟩ ?_
      rfl
     ·
      skip
      obtain ⟨g10, h⟩ := of_gd h
      obtain ⟨g11, h⟩ := of_gd h
      refine E_draw [0, 1, 2, 3, 5, 6] ?_
      refine XQ 0 rfl rfl rfl (does_mv rfl) ?_
      refine XQ 1 rfl rfl rfl (does_mv rfl) ?_
      refine XQ 2 rfl rfl rfl (does_add_ptr rfl rfl) ?_
      refine XQ 3 rfl rfl rfl (does_load1_ptr rfl rfl rfl) ?_
      refine XQ 5 rfl rfl rfl (does_add_ptr rfl rfl) ?_
      refine XQ 6 rfl rfl rfl (does_slcA_ptr rfl rfl rfl rfl (by decide) (by decide) (by decide) (List.cons_ne_nil _ _)) ?_
      refine X2 rfl ?_ ?_
      ·
       refine XK rfl (does_bslice rfl rfl rfl rfl) ?_
       refine X2 rfl ?_ ?_
       ·
        refine XT rfl rfl (Does.ghost (Le_reg (r := 51) (g' := (⟨true, flat e_i_u64 ([v5, v7, a0.xWord] : List Int)⟩ : Reg)) rfl rfl).b (does_appF (e := e_i_u64) rfl rfl (fun _ => rfl) (fun _ => rfl) rfl (Src.part (e := e_i_u64) ([a0.xData.c0, a0.xData.c1, a0.xData.c2, a0.xData.c3] : List Int) rfl (fun _ => rfl) rfl rfl) g10 rfl)) ?_
        refine X1 rfl (XT rfl rfl (does_bslice rfl rfl rfl rfl) ?_)
        refine X1 rfl (XT rfl rfl (does_appF (e := e_i_u64) rfl rfl (fun _ => rfl) (fun _ => rfl) rfl (Src.lit (e := e_i_u64) ([(0 : Int)] : List Int) rfl (fun _ => rfl) rfl rfl) g11 rfl) ?_)
        refine X1 rfl (XT rfl rfl ((does_mv rfl).does) ?_)
        refine X_nil rfl ?_
        refine ⟨(), h, ?_⟩
        exact (Le.b (le_mk ⟨rfl, trivial⟩ ⟨rfl, trivial⟩))
       ·
        refine XK rfl (does_bslice rfl rfl rfl rfl) ?_
        refine X1 rfl (XT rfl rfl (Does.ghost (Le_reg (r := 51) (g' := (⟨true, flat e_i_u64 ([v5, v7, a0.xWord] : List Int)⟩ : Reg)) rfl rfl).b (does_appF (e := e_i_u64) rfl rfl (fun _ => rfl) (fun _ => rfl) rfl (Src.part (e := e_i_u64) ([a0.xData.c0, a0.xData.c1, a0.xData.c2, a0.xData.c3] : List Int) rfl (fun _ => rfl) rfl rfl) g10 rfl)) ?_)
        refine X1 rfl (XT rfl rfl (does_appF (e := e_i_u64) rfl rfl (fun _ => rfl) (fun _ => rfl) rfl (Src.lit (e := e_i_u64) ([(0 : Int)] : List Int) rfl (fun _ => rfl) rfl rfl) g11 rfl) ?_)
        refine X1 rfl (XT rfl rfl ((does_mv rfl).does) ?_)
        refine X_nil rfl ?_
        refine ⟨(), h, ?_⟩
        exact (Le.b (le_mk ⟨rfl, trivial⟩ ⟨rfl, trivial⟩))
      ·
       refine XK rfl (does_bslice rfl rfl rfl rfl) ?_
       refine X1 rfl (XK rfl (does_bslice rfl rfl rfl rfl) ?_)
       refine X1 rfl (XT rfl rfl (Does.ghost (Le_reg (r := 51) (g' := (⟨true, flat e_i_u64 ([v5, v7, a0.xWord] : List Int)⟩ : Reg)) rfl rfl).b (does_appF (e := e_i_u64) rfl rfl (fun _ => rfl) (fun _ => rfl) rfl (Src.part (e := e_i_u64) ([a0.xData.c0, a0.xData.c1, a0.xData.c2, a0.xData.c3] : List Int) rfl (fun _ => rfl) rfl rfl) g10 rfl)) ?_)
       refine X1 rfl (XT rfl rfl (does_appF (e := e_i_u64) rfl rfl (fun _ => rfl) (fun _ => rfl) rfl (Src.lit (e := e_i_u64) ([(0 : Int)] : List Int) rfl (fun _ => rfl) rfl rfl) g11 rfl) ?_)
       refine X1 rfl (XT rfl rfl ((does_mv rfl).does) ?_)
       refine X_nil rfl ?_
       refine ⟨(), h, ?_⟩
       exact (Le.b (le_mk ⟨rfl, trivial⟩ ⟨rfl, trivial⟩))
    ·
     skip
     obtain ⟨x12, x12h, h⟩ := of_bind h
     obtain ⟨x13, x13h, h⟩ := of_bind h
     refine E_draw [1, 2, 3, 4, 5, 6, 7, 8, 9, 12, 13, 14, 15, 16] ?_
     refine XQ 1 rfl rfl rfl (does_add_ptr rfl rfl) ?_
     refine XQ 2 rfl rfl rfl (does_load1_ptr rfl rfl rfl) ?_
     refine XQ 3 rfl rfl rfl (does_convI rfl) ?_
     refine XQ 4 rfl rfl rfl (does_add_ptr rfl rfl) ?_
     refine XQ 5 rfl rfl rfl (does_load1_ptr rfl rfl rfl) ?_
     refine XQ 6 rfl rfl rfl (does_convI rfl) ?_
     refine XQ 7 rfl rfl rfl (does_add_ptr rfl rfl) ?_
     refine XQ 8 rfl rfl rfl (does_load1_ptr rfl rfl rfl) ?_
     refine XQ 9 rfl rfl rfl (does_convI rfl) ?_
     (try dsimp)
     refine X2 rfl ?_ ?_
     ·
      refine XK rfl (does_call1 hP (p_thing_pairs F  x12 x12h) rfl rfl rfl) ?_
      refine X1 rfl (XK rfl (does_bslice rfl rfl rfl rfl) ?_)
      refine X1 rfl (XK rfl (does_callB hP (p_tag_Put F x12 ([(IntKind.u64.wrap a0.xSize), (IntKind.u64.wrap a0.xUsed), (IntKind.u64.wrap a0.xBadge)] : List Int) x13 x13h) rfl rfl) ?_)
      refine XQ 12 rfl rfl rfl (does_mv rfl) ?_
      refine XQ 13 rfl rfl rfl (does_ext rfl rfl) ?_
      refine XQ 14 rfl rfl rfl (does_ext rfl rfl) ?_
      refine XQ 15 rfl rfl rfl (does_mv rfl) ?_
      refine XQ 16 rfl rfl rfl (does_mv rfl) ?_
      refine X_nil rfl ?_
      refine ⟨x13.1, h, ?_⟩
      exact (Le.b (le_mk ⟨rfl, rfl, rfl, trivial⟩ ⟨rfl, trivial⟩))
     ·
      refine XK rfl (does_bslice rfl rfl rfl rfl) ?_
      refine X1 rfl (XK rfl (does_call1 hP (p_thing_pairs F  x12 x12h) rfl rfl rfl) ?_)
      refine X1 rfl (XK rfl (does_callB hP (p_tag_Put F x12 ([(IntKind.u64.wrap a0.xSize), (IntKind.u64.wrap a0.xUsed), (IntKind.u64.wrap a0.xBadge)] : List Int) x13 x13h) rfl rfl) ?_)
      refine XQ 12 rfl rfl rfl (does_mv rfl) ?_
      refine XQ 13 rfl rfl rfl (does_ext rfl rfl) ?_
      refine XQ 14 rfl rfl rfl (does_ext rfl rfl) ?_
      refine XQ 15 rfl rfl rfl (does_mv rfl) ?_
      refine XQ 16 rfl rfl rfl (does_mv rfl) ?_
      refine X_nil rfl ?_
      refine ⟨x13.1, h, ?_⟩
      exact (Le.b (le_mk ⟨rfl, rfl, rfl, trivial⟩ ⟨rfl, trivial⟩))
   ·
    skip
    obtain ⟨x14, x14h, h⟩ := of_bind h
    obtain ⟨x15, x15h, h⟩ := of_bind h
    refine E_draw [1, 2, 3, 4, 5, 6, 7, 8, 9, 10, 11, 12, 13, 16, 17, 18, 19, 20] ?_
    refine XQ 1 rfl rfl rfl (does_add_ptr rfl rfl) ?_
    refine XQ 2 rfl rfl rfl (does_load1_ptr rfl rfl rfl) ?_
    refine XQ 3 rfl rfl rfl (does_convI rfl) ?_
    refine XQ 4 rfl rfl rfl (does_add_ptr rfl rfl) ?_
    refine XQ 5 rfl rfl rfl (does_load1_ptr rfl rfl rfl) ?_
    refine XQ 6 rfl rfl rfl (does_convI rfl) ?_
    refine XQ 7 rfl rfl rfl (does_add_ptr rfl rfl) ?_
    refine XQ 8 rfl rfl rfl (does_load1_ptr rfl rfl rfl) ?_
    refine XQ 9 rfl rfl rfl (does_convI rfl) ?_
    refine XQ 10 rfl rfl rfl (does_mv rfl) ?_
    refine XQ 11 rfl rfl rfl (does_add_ptr rfl rfl) ?_
    refine XQ 12 rfl rfl rfl (does_load1_ptr rfl rfl rfl) ?_
    refine XQ 13 rfl rfl rfl (does_convI rfl) ?_
    (try dsimp)
    refine X2 rfl ?_ ?_
    ·
     refine XK rfl (does_call1 hP (p_thing_bytes F  x14 x14h) rfl rfl rfl) ?_
     refine X1 rfl (XK rfl (does_bslice rfl rfl rfl rfl) ?_)
     refine X1 rfl (XK rfl (does_callB hP (p_tag_Put F x14 ([(IntKind.u64.wrap a0.xType), (IntKind.u64.wrap a0.xBits), (IntKind.u64.wrap a0.xBase), v3, (IntKind.u64.wrap a0.xFrom)] : List Int) x15 x15h) rfl rfl) ?_)
     refine XQ 16 rfl rfl rfl (does_mv rfl) ?_
     refine XQ 17 rfl rfl rfl (does_ext rfl rfl) ?_
     refine XQ 18 rfl rfl rfl (does_ext rfl rfl) ?_
     refine XQ 19 rfl rfl rfl (does_mv rfl) ?_
     refine XQ 20 rfl rfl rfl (does_mv rfl) ?_
     refine X_nil rfl ?_
     refine ⟨x15.1, h, ?_⟩
     exact (Le.b (le_mk ⟨rfl, rfl, trivial⟩ ⟨rfl, trivial⟩))
    ·
     refine XK rfl (does_bslice rfl rfl rfl rfl) ?_
     refine X1 rfl (XK rfl (does_call1 hP (p_thing_bytes F  x14 x14h) rfl rfl rfl) ?_)
     refine X1 rfl (XK rfl (does_callB hP (p_tag_Put F x14 ([(IntKind.u64.wrap a0.xType), (IntKind.u64.wrap a0.xBits), (IntKind.u64.wrap a0.xBase), v3, (IntKind.u64.wrap a0.xFrom)] : List Int) x15 x15h) rfl rfl) ?_)
     refine XQ 16 rfl rfl rfl (does_mv rfl) ?_
     refine XQ 17 rfl rfl rfl (does_ext rfl rfl) ?_
     refine XQ 18 rfl rfl rfl (does_ext rfl rfl) ?_
     refine XQ 19 rfl rfl rfl (does_mv rfl) ?_
     refine XQ 20 rfl rfl rfl (does_mv rfl) ?_
     refine X_nil rfl ?_
     refine ⟨x15.1, h, ?_⟩
     exact (Le.b (le_mk ⟨rfl, rfl, trivial⟩ ⟨rfl, trivial⟩))
  ·
   skip
   apply E_seq
   apply E_ops
   refine WQ (does_add_ptr rfl rfl) ?_
   refine WQ (does_load1_ptr rfl rfl rfl) ?_
   apply W_nil
   refine E_keep [1, 3, 12] [1] ?_
   (try dsimp)
   refine E_cond rfl (fun hc16 => ?_) (fun hc16 => ?_)
   ·replace h := of_ct h hc16
    apply E_ops
    apply WM
    apply W_nil
    refine ⟨(1 : Int), h, ?_⟩
    exact (Le.b (le_mk ⟨rfl, rfl, trivial⟩ ⟨rfl, trivial⟩))
   ·replace h := of_cf h hc16
    apply E_skip
    refine ⟨(0 : Int), h, ?_⟩
    exact (Le.b (le_mk ⟨rfl, rfl, trivial⟩ ⟨rfl, trivial⟩))
/- reeve/image.Put -/
def c_image_Put : VCode := (.seq (.ops [(o (.box 27 (t 0)) 2), (o (.mv cn) 4)]) (.seq (.seq (.ops [(o (.load true 5 (t 2)) 13), (o (.call 55 [(t 13)]) 14), (o (.un .not (t 14)) 15)]) (.cond (t 15) (.seq (.ops [(o (.mv cn) 4)]) .ret) .skip)) (.seq (.ops [(o (.add 0 (t 2)) 16), (o (.load true 3 (t 16)) 17), (o (.newv [zi, zi, zi]) 5), (n_ (.store 3 (t 5) (t 17)))]) (.seq (.ops [(o (.load true 3 (t 5)) 18), (o (.call 56 [(t 18)]) 19), (o (.bin .mul 3 (t 19) (ci 8)) 20), (o (.mk 36 42 1 8 [zu] (t 20) (t 20)) 21), (w 6 21)]) (.seq (.ops [(o (.load true 3 (t 5)) 22), (w 23 1), (o (.build [zi, zi, zi, zu] [(0, (3, (t 22))), (3, (1, (t 23)))]) 24), (o (.call 57 [(t 24)]) 25), (w 7 25)]) (.seq (.ops [(w 26 6), (w 27 7), (o (.copy 1 (t 26) (t 27)) 28)]) (.seq (.ops [(w 29 6), (o (.load true 3 (t 5)) 30), (o (.call 58 [(t 30)]) 31), (o (.slc 1 (t 29) (.some (t 31)) .none .none) 32), (w 33 7), (o (.copy 1 (t 32) (t 33)) 34)]) (.seq (.seq (.ops [(o (.add 3 (t 2)) 35), (o (.load false 1 (t 35)) 36), (o (.len false (t 36)) 37), (o (.mv (ci 0)) 38)]) (.block 0 (.loop (.seq (.ops [(o (.bin .lss 3 (t 38) (t 37)) 39)]) (.seq (.cond (t 39) .skip (.exit 0)) (.seq (.block 1 (.seq (.ops [(w 40 38), (o (.idxS 5 (t 36) (t 38)) 41), (o (.load true 5 (t 41)) 42), (o (.newv [zi, zi, zi, zi, zi]) 9), (w 8 40), (n_ (.store 5 (t 9) (t 42)))]) (.seq (.ops [(o (.load true 3 (t 5)) 43), (w 44 8), (o (.call 59 [(t 43), (t 44)]) 45), (w 10 45)]) (.seq (.ops [(w 47 6), (w 48 10), (o (.add 0 (t 9)) 49), (o (.load true 4 (t 49)) 50), (o (.call 60 [(t 50)]) 51), (w 46 51), (o (.ext 0 (t 46)) 52), (o (.ext 1 (t 46)) 53), (o (.idxS 1 (t 47) (t 48)) 54), (n_ (.store 1 (t 54) (t 52)))]) (.ops [(w 55 6), (w 56 10), (o (.bin .add 3 (t 56) (ci 1)) 57), (o (.add 4 (t 9)) 58), (o (.load false 1 (t 58)) 59), (o (.bin .add 3 (t 59) (ci 1)) 60), (o (.convI .u64 (t 60)) 61), (o (.idxS 1 (t 55) (t 57)) 62), (n_ (.store 1 (t 62) (t 61)))]))))) (.ops [(o (.bin .add 3 (t 38) (ci 1)) 63), (w 38 63)]))))))) (.seq (.seq (.ops [(o (.add 4 (t 2)) 64), (o (.load false 1 (t 64)) 65), (o (.len false (t 65)) 66), (o (.mv (ci 0)) 67)]) (.block 2 (.loop (.seq (.ops [(o (.bin .lss 3 (t 67) (t 66)) 68)]) (.seq (.cond (t 68) .skip (.exit 2)) (.seq (.block 3 (.seq (.ops [(w 69 67), (o (.idxS 13 (t 65) (t 67)) 70), (o (.load true 13 (t 70)) 71), (o (.newv [zi, zi, zi, zi, zi, zi, zi, zb, zu, zu, zu, zu, zu]) 12), (w 11 69), (n_ (.store 13 (t 12) (t 71)))]) (.draw [((w 72 6), []), ((o (.load true 3 (t 5)) 73), []), ((w 74 11), []), ((o (.call 61 [(t 73), (t 74)]) 75), [1, 2]), ((o (.slc 1 (t 72) (.some (t 75)) .none .none) 76), [0, 3]), ((o (.load true 13 (t 12)) 77), []), ((o (.call 62 [(t 77)]) 78), [5, 3]), ((o (.copy 1 (t 76) (t 78)) 79), [4, 6, 6])]))) (.ops [(o (.bin .add 3 (t 67) (ci 1)) 80), (w 67 80)]))))))) (.seq (.ops [(w 81 6), (w 4 81)]) .ret))))))))))
theorem f_image_Put : Fits Tryz.prog 29 2 c_image_Put [(.tmp 4)] := fits_mk Tryz.func29 (by kernel_rfl) (by kernel_rfl) (by kernel_rfl)
theorem p_image_Put (F : Nat) (a0 : S_state_State) (a1 : Int) (r : (List Int)) (h : m_image_Put F a0 a1 = some r) : PC Tryz.prog 29 [S.agg [.v (.int .i64 a0.xGeo.xThreads), .v (.int .i64 a0.xGeo.xSlots), .v (.int .i64 a0.xGeo.xThings), .sl (flat e_S_state_Slot a0.xSlots) a0.xSlots.length, .sl (flat e_S_thing_Thing a0.xThings) a0.xThings.length], S.one (.v (.int .u64 a1))] (S.one (.sl (flat e_i_u64 r) r.length)) := by
 unfold m_image_Put at h
 refine PC_go f_image_Put rfl rfl ?_
 intro C hP
 unfold c_image_Put; dsimp
 apply E_seq
 apply E_ops
 refine W1 (does_box rfl rfl rfl rfl) ?_
 apply WM
 apply W_nil
 refine E_keep [1, 2] [2] ?_
 (try dsimp)
 apply E_seq
 apply E_seq
 apply E_ops
 refine WQ (does_loadA_ptr rfl rfl rfl rfl (by decide)) ?_
 obtain ⟨x1, x1h, h⟩ := of_bind h
 refine W1 (does_call1 hP (p_state_Good F a0 x1 x1h) rfl rfl rfl) ?_
 refine WQ (does_not rfl) ?_
 apply W_nil
 refine E_keep [1, 2, 15] [2] ?_
 (try dsimp)
 refine E_cond rfl (fun hc2 => ?_) (fun hc2 => ?_)
 ·replace h := of_ct h hc2
  apply E_seq
  apply E_ops
  apply WM
  apply W_nil
  refine E_keep [4] [] ?_
  (try dsimp)
  refine E_ghost (Le_nilS (i := 4) rfl).b ?_
  (try dsimp)
  apply E_ret
  cases h
  (try simp only [qt, qb, qn])
  refine fin_mk (xs := _) ⟨_, rfl, rfl⟩ ?_
  rfl
 ·replace h := of_cf h hc2
  apply E_skip
  refine E_keep [1, 2] [2] ?_
  (try dsimp)
  apply E_seq
  apply E_ops
  refine WQ (does_add_ptr rfl rfl) ?_
  refine WQ (does_loadA_ptr rfl rfl rfl rfl (by decide)) ?_
  refine W1 (does_newv rfl rfl) ?_
  refine W1 (does_store rfl rfl rfl rfl rfl (Nat.le_of_ble_eq_true rfl) rfl (by decide)) ?_
  apply W_nil
  refine E_keep [1, 2, 5] [2, 5] ?_
  (try dsimp)
  apply E_seq
  apply E_ops
  refine WQ (does_loadA_ptr rfl rfl rfl rfl (by decide)) ?_
  obtain ⟨x3, x3h, h⟩ := of_bind h
  refine W1 (does_call1 hP (p_geo_Rows F a0.xGeo x3 x3h) rfl rfl rfl) ?_
  obtain ⟨g4, h⟩ := of_gd h
  refine WQ (does_mul rfl rfl g4.1 g4.2) ?_
  obtain ⟨g5, h⟩ := of_gd h
  refine W1 (does_mkF (e := e_i_u64) (0 : Int) rfl rfl rfl (fun _ => rfl) g5.1 g5.2.1 g5.2.2.1 g5.2.2.2 rfl) ?_
  apply WM
  apply W_nil
  refine E_keep [1, 2, 5, 6] [2, 5, 21] ?_
  (try dsimp)
  apply E_seq
  apply E_ops
  refine WQ (does_loadA_ptr rfl rfl rfl rfl (by decide)) ?_
  apply WM
  refine WQ (does_build rfl rfl) ?_
  obtain ⟨x6, x6h, h⟩ := of_bind h
  refine W1 (does_call1 hP (p_super_Put F (⟨a0.xGeo, a1⟩ : S_super_Super) x6 x6h) rfl rfl rfl) ?_
  apply WM
  apply W_nil
  refine E_keep [2, 5, 6, 7] [2, 5, 21] ?_
  (try dsimp)
  apply E_seq
  apply E_ops
  apply WM
  apply WM
  obtain ⟨g7, h⟩ := of_gd h
  refine W1 (does_copyF rfl rfl (fun _ => rfl) (fun _ => rfl) rfl (Src.slF x6 (fun _ => rfl)) g7) ?_
  apply W_nil
  refine E_keep [2, 5, 6, 7] [2, 5, 21] ?_
  (try dsimp)
  apply E_seq
  apply E_ops
  apply WM
  refine WQ (does_loadA_ptr rfl rfl rfl rfl (by decide)) ?_
  obtain ⟨x8, x8h, h⟩ := of_bind h
  refine W1 (does_call1 hP (p_geo_Copy F a0.xGeo x8 x8h) rfl rfl rfl) ?_
  obtain ⟨g9, h⟩ := of_gd h
  refine WQ (does_slc_own rfl rfl rfl rfl g9.1 g9.2.1 g9.2.2) ?_
  apply WM
  obtain ⟨g10, h⟩ := of_gd h
  refine W1 (does_copyF rfl rfl (fun _ => rfl) (fun _ => rfl) rfl (Src.slF x6 (fun _ => rfl)) g10) ?_
  apply W_nil
  refine E_keep [2, 5, 6] [2, 5, 21] ?_
  (try dsimp)
  obtain ⟨k12, k12d, h⟩ := of_jn h
  refine E_seqJ (α := (List Int)) (fun (i : (List Int)) => (⟨[(2, S.one (.ptr 2 0)), (5, S.one (.ptr 5 0)), (6, S.one (.own 21 0 i.length (some (1, 42))))], [(2, (⟨true, [.v (.int .i64 a0.xGeo.xThreads), .v (.int .i64 a0.xGeo.xSlots), .v (.int .i64 a0.xGeo.xThings), .sl (flat e_S_state_Slot a0.xSlots) a0.xSlots.length, .sl (flat e_S_thing_Thing a0.xThings) a0.xThings.length]⟩ : Reg)), (5, (⟨true, [.v (.int .i64 a0.xGeo.xThreads), .v (.int .i64 a0.xGeo.xSlots), .v (.int .i64 a0.xGeo.xThings)]⟩ : Reg)), (21, (⟨true, flat e_i_u64 i⟩ : Reg))]⟩ : St)) (fun i => k12 i = some r) (fun i h => ?_) ?_
  ·let iv := i; change k12 i = some r at h; generalize i = v11 at h ⊢
   rw [k12d] at h; dsimp only at h
   (try dsimp)
   obtain ⟨k14, k14d, h⟩ := of_jn h
   refine E_seqJ (α := (List Int)) (fun (i : (List Int)) => (⟨[(6, S.one (.own 21 0 i.length (some (1, 42))))], [(21, (⟨true, flat e_i_u64 i⟩ : Reg))]⟩ : St)) (fun i => k14 i = some r) (fun i h => ?_) ?_
   ·let iv := i; change k14 i = some r at h; generalize i = v13 at h ⊢
    rw [k14d] at h; dsimp only at h
    (try dsimp)
    apply E_seq
    apply E_ops
    apply WM
    apply WM
    apply W_nil
    refine E_keep [4] [21] ?_
    (try dsimp)
    refine E_ghost (Le_frz (r := 21) rfl rfl).b ?_
    (try dsimp)
    apply E_ret
    cases h
    (try simp only [qt, qb, qn])
    refine fin_mk (xs := _) ⟨_, rfl, rfl⟩ ?_
    rfl
   ·
    skip
    apply E_seq
    apply E_ops
    refine WQ (does_add_ptr rfl rfl) ?_
    refine WQ (does_load1_ptr rfl rfl rfl) ?_
    refine WQ (does_len_sl rfl) ?_
    apply WM
    apply W_nil
    refine E_keep [5, 6, 65, 66, 67] [5, 21] ?_
    (try dsimp)
    apply E_block
    (try dsimp)
    refine E_loopB (α := Int × (List Int)) (fun (i : Int × (List Int)) => (⟨[(5, S.one (.ptr 5 0)), (6, S.one (.own 21 0 i.2.length (some (1, 42)))), (65, S.one (.sl (flat e_S_thing_Thing a0.xThings) a0.xThings.length)), (66, S.one (.v (.int .i64 ((a0.xThings.length : Nat) : Int)))), (67, S.one (.v (.int .i64 i.1)))], [(5, (⟨true, [.v (.int .i64 a0.xGeo.xThreads), .v (.int .i64 a0.xGeo.xSlots), .v (.int .i64 a0.xGeo.xThings)]⟩ : Reg)), (21, (⟨true, flat e_i_u64 i.2⟩ : Reg))]⟩ : St)) (fun n i => m_image_Put_l0 F a0 k14 n i.1 i.2 = some r) F ((0 : Int), v11) h ?_ (fun n i h => ?_)
    ·
     exact (Le.b (le_mk ⟨rfl, rfl, rfl, rfl, rfl, trivial⟩ ⟨rfl, rfl, trivial⟩))
    obtain ⟨v31, v32⟩ := i; dsimp only at h
    cases n with
    | zero => cases h
    | succ n33 =>
     unfold m_image_Put_l0 at h
     (try dsimp)
     apply E_seq
     apply E_ops
     refine WQ (does_int rfl rfl rfl) ?_
     apply W_nil
     (try dsimp)
     apply E_seq
     refine E_cond rfl (fun hc34 => ?_) (fun hc34 => ?_)
     ·replace h := of_ct h hc34
      apply E_skip
      refine E_keep [5, 6, 65, 66, 67] [5, 21] ?_
      (try dsimp)
      apply E_seq
      apply E_block
      apply E_seq
      apply E_ops
      apply WM
      obtain ⟨g35, h⟩ := of_gd h
      refine WQ (does_idx_sl rfl rfl g35.1 g35.2) ?_
      refine WQ (does_loadA_slF (k := 13) rfl (fun _ => rfl) g35 0 rfl rfl rfl) ?_
      refine W1 (does_newv rfl rfl) ?_
      apply WM
      refine W1 (does_store rfl rfl rfl rfl rfl (Nat.le_of_ble_eq_true rfl) rfl (by decide)) ?_
      apply W_nil
      refine E_keep [5, 6, 11, 12, 65, 66, 67] [5, 12, 21] ?_
      (try dsimp)
      obtain ⟨x36, x36h, h⟩ := of_bind h
      obtain ⟨g37, h⟩ := of_gd h
      obtain ⟨x38, x38h, h⟩ := of_bind h
      obtain ⟨g39, h⟩ := of_gd h
      refine E_draw [0, 1, 2, 4, 5] ?_
      refine XQ 0 rfl rfl rfl (does_mv rfl) ?_
      refine XQ 1 rfl rfl rfl (does_loadA_ptr rfl rfl rfl rfl (by decide)) ?_
      refine XQ 2 rfl rfl rfl (does_mv rfl) ?_
      refine XQ 5 rfl rfl rfl (does_loadA_ptr rfl rfl rfl rfl (by decide)) ?_
      refine X1 rfl (XK rfl (does_call1 hP (p_geo_Thing F a0.xGeo v31 x36 x36h) rfl rfl rfl) ?_)
      refine XQ 4 rfl rfl rfl (does_slc_own rfl rfl rfl rfl g37.1 g37.2.1 g37.2.2) ?_
      refine X1 rfl (XK rfl (does_call1 hP (p_thing_Put F (nth a0.xThings v31) x38 x38h) rfl rfl rfl) ?_)
      refine X1 rfl (XT rfl rfl (does_copyF rfl rfl (fun _ => rfl) (fun _ => rfl) rfl (Src.slF x38 (fun _ => rfl)) g39) ?_)
      refine X_nil rfl ?_
      refine E_keep [5, 6, 65, 66, 67] [5, 21] ?_
      (try dsimp)
      apply E_ops
      obtain ⟨g40, h⟩ := of_gd h
      refine WQ (does_add rfl rfl g40.1 g40.2) ?_
      apply WM
      apply W_nil
      refine ⟨n33, ((v31 + (1 : Int)), (cpy v32 (0 + x36.toNat * 1) (((v32.length : Nat) : Int).toNat - x36.toNat) x38)), Nat.lt_succ_self _, h, ?_⟩
      refine LeB_trans (Le_ownlen (i := 6) _ rfl (by simp [setn_length, cpy_length, sortI_length] : v32.length = (cpy v32 (0 + x36.toNat * 1) (((v32.length : Nat) : Int).toNat - x36.toNat) x38).length)).b ?_
      exact (Le.b (le_mk ⟨rfl, rfl, rfl, rfl, rfl, trivial⟩ ⟨rfl, rfl, trivial⟩))
     ·replace h := of_cf h hc34
      apply E_exit
      refine ⟨v32, h, ?_⟩
      exact (Le.b (le_mk ⟨rfl, trivial⟩ ⟨rfl, trivial⟩))
  ·
   skip
   apply E_seq
   apply E_ops
   refine WQ (does_add_ptr rfl rfl) ?_
   refine WQ (does_load1_ptr rfl rfl rfl) ?_
   refine WQ (does_len_sl rfl) ?_
   apply WM
   apply W_nil
   refine E_keep [2, 5, 6, 36, 37, 38] [2, 5, 21] ?_
   (try dsimp)
   apply E_block
   (try dsimp)
   refine E_loopB (α := Int × (List Int)) (fun (i : Int × (List Int)) => (⟨[(2, S.one (.ptr 2 0)), (5, S.one (.ptr 5 0)), (6, S.one (.own 21 0 i.2.length (some (1, 42)))), (36, S.one (.sl (flat e_S_state_Slot a0.xSlots) a0.xSlots.length)), (37, S.one (.v (.int .i64 ((a0.xSlots.length : Nat) : Int)))), (38, S.one (.v (.int .i64 i.1)))], [(2, (⟨true, [.v (.int .i64 a0.xGeo.xThreads), .v (.int .i64 a0.xGeo.xSlots), .v (.int .i64 a0.xGeo.xThings), .sl (flat e_S_state_Slot a0.xSlots) a0.xSlots.length, .sl (flat e_S_thing_Thing a0.xThings) a0.xThings.length]⟩ : Reg)), (5, (⟨true, [.v (.int .i64 a0.xGeo.xThreads), .v (.int .i64 a0.xGeo.xSlots), .v (.int .i64 a0.xGeo.xThings)]⟩ : Reg)), (21, (⟨true, flat e_i_u64 i.2⟩ : Reg))]⟩ : St)) (fun n i => m_image_Put_l1 F a0 k12 n i.1 i.2 = some r) F ((0 : Int), (cpy (cpy (List.replicate (x3 * (8 : Int)).toNat (0 : Int)) 0 ((List.replicate (x3 * (8 : Int)).toNat (0 : Int)).length) x6) (0 + x8.toNat * 1) ((((List.replicate (x3 * (8 : Int)).toNat (0 : Int)).length : Nat) : Int).toNat - x8.toNat) x6)) h ?_ (fun n i h => ?_)
   ·
    refine LeB_trans (Le_ownlen (i := 6) _ rfl (by simp [setn_length, cpy_length, sortI_length] : (List.replicate (x3 * (8 : Int)).toNat (0 : Int)).length = (cpy (cpy (List.replicate (x3 * (8 : Int)).toNat (0 : Int)) 0 ((List.replicate (x3 * (8 : Int)).toNat (0 : Int)).length) x6) (0 + x8.toNat * 1) ((((List.replicate (x3 * (8 : Int)).toNat (0 : Int)).length : Nat) : Int).toNat - x8.toNat) x6).length)).b ?_
    exact (Le.b (le_mk ⟨rfl, rfl, rfl, rfl, rfl, rfl, trivial⟩ ⟨rfl, rfl, rfl, trivial⟩))
   obtain ⟨v61, v62⟩ := i; dsimp only at h
   cases n with
   | zero => cases h
   | succ n63 =>
    unfold m_image_Put_l1 at h
    (try dsimp)
    apply E_seq
    apply E_ops
    refine WQ (does_int rfl rfl rfl) ?_
    apply W_nil
    (try dsimp)
    apply E_seq
    refine E_cond rfl (fun hc64 => ?_) (fun hc64 => ?_)
    ·replace h := of_ct h hc64
     apply E_skip
     refine E_keep [2, 5, 6, 36, 37, 38] [2, 5, 21] ?_
     (try dsimp)
     apply E_seq
     apply E_block
     apply E_seq
     apply E_ops
     apply WM
     obtain ⟨g65, h⟩ := of_gd h
     refine WQ (does_idx_sl rfl rfl g65.1 g65.2) ?_
     refine WQ (does_loadA_slF (k := 5) rfl (fun _ => rfl) g65 0 rfl rfl rfl) ?_
     refine W1 (does_newv rfl rfl) ?_
     apply WM
     refine W1 (does_store rfl rfl rfl rfl rfl (Nat.le_of_ble_eq_true rfl) rfl (by decide)) ?_
     apply W_nil
     refine E_keep [2, 5, 6, 8, 9, 36, 37, 38] [2, 5, 9, 21] ?_
     (try dsimp)
     apply E_seq
     apply E_ops
     refine WQ (does_loadA_ptr rfl rfl rfl rfl (by decide)) ?_
     apply WM
     obtain ⟨x66, x66h, h⟩ := of_bind h
     refine W1 (does_call1 hP (p_geo_Slot F a0.xGeo v61 x66 x66h) rfl rfl rfl) ?_
     apply WM
     apply W_nil
     refine E_keep [2, 5, 6, 9, 10, 36, 37, 38] [2, 5, 9, 21] ?_
     (try dsimp)
     apply E_seq
     apply E_ops
     apply WM
     apply WM
     refine WQ (does_add_ptr rfl rfl) ?_
     refine WQ (does_loadA_ptr rfl rfl rfl rfl (by decide)) ?_
     obtain ⟨x67, x67h, h⟩ := of_bind h
     refine W1 (does_call1 hP (p_cap_Word F ((nth a0.xSlots v61).xCap) x67 x67h) rfl rfl rfl) ?_
     apply WM
     refine WQ (does_ext rfl rfl) ?_
     refine WQ (does_ext rfl rfl) ?_
     obtain ⟨g68, h⟩ := of_gd h
     refine WQ (does_idx_own rfl rfl rfl g68.1 g68.2) ?_
     refine W1 (does_store_rgF (e := e_i_u64) (n := 1) (k := 1) rfl rfl (fun _ => rfl) g68 0 (by omega) rfl rfl rfl (by decide) x67.1 rfl (by decide) rfl) ?_
     apply W_nil
     refine E_keep [2, 5, 6, 9, 10, 36, 37, 38] [2, 5, 9, 21] ?_
     (try dsimp)
     apply E_ops
     apply WM
     apply WM
     obtain ⟨g69, h⟩ := of_gd h
     refine WQ (does_add rfl rfl g69.1 g69.2) ?_
     refine WQ (does_add_ptr rfl rfl) ?_
     refine WQ (does_load1_ptr rfl rfl rfl) ?_
     obtain ⟨g70, h⟩ := of_gd h
     refine WQ (does_add rfl rfl g70.1 g70.2) ?_
     refine WQ (does_convI rfl) ?_
     obtain ⟨g71, h⟩ := of_gd h
     refine WQ (does_idx_own rfl rfl rfl g71.1 g71.2) ?_
     refine W1 (does_store_rgF (e := e_i_u64) (n := 1) (k := 1) rfl rfl (fun _ => rfl) (by first | exact g71 | exact ix_setn.1 g71 | simpa only [ix_setn] using g71) 0 (by omega) rfl rfl rfl (by decide) (IntKind.u64.wrap ((nth a0.xSlots v61).xUp + (1 : Int))) rfl (by decide) rfl) ?_
     apply W_nil
     refine E_keep [2, 5, 6, 36, 37, 38] [2, 5, 21] ?_
     (try dsimp)
     apply E_ops
     obtain ⟨g72, h⟩ := of_gd h
     refine WQ (does_add rfl rfl g72.1 g72.2) ?_
     apply WM
     apply W_nil
     refine ⟨n63, ((v61 + (1 : Int)), (setn (setn v62 x66 x67.1) (x66 + (1 : Int)) (IntKind.u64.wrap ((nth a0.xSlots v61).xUp + (1 : Int))))), Nat.lt_succ_self _, h, ?_⟩
     refine LeB_trans (Le_ownlen (i := 6) _ rfl (by simp [setn_length, cpy_length, sortI_length] : v62.length = (setn (setn v62 x66 x67.1) (x66 + (1 : Int)) (IntKind.u64.wrap ((nth a0.xSlots v61).xUp + (1 : Int)))).length)).b ?_
     exact (Le.b (le_mk ⟨rfl, rfl, rfl, rfl, rfl, rfl, trivial⟩ ⟨rfl, rfl, rfl, trivial⟩))
    ·replace h := of_cf h hc64
     apply E_exit
     refine ⟨v62, h, ?_⟩
     exact (Le.b (le_mk ⟨rfl, rfl, rfl, trivial⟩ ⟨rfl, rfl, rfl, trivial⟩))
/- reeve/nvm.New -/
def c_nvm_New : VCode := (.seq (.ops [(o (.mv cp) 2), (o (.mv (ci 0)) 3)]) (.seq (.seq (.ops [(w 4 0), (o (.bin .lss 3 (t 4) (ci 1)) 5), (w 6 5), (g_ (.mv (t 0)) 7 6 false), (g_ (.bin .gtr 3 (t 7) (ci 4096)) 8 6 false), (o (.pick (t 6) (cb true) (t 8)) 9)]) (.cond (t 9) (.seq (.ops [(o (.mv cp) 2), (o (.mv (ci 1)) 3)]) .ret) .skip)) (.seq (.ops [(w 10 0), (o (.mk 87 86 18 136 [zu, zu, zu, zu, zu, zu, zu, zu, zu, zu, zu, zu, zu, zu, zu, zu, zb, zb] (t 10) (t 10)) 11), (o (.build [.nil, zb, zi, zi, .nil] [(0, (1, (t 11)))]) 12), (o (.box 89 (t 12)) 13), (w 2 13), (o (.mv (ci 0)) 3)]) .ret)))
theorem f_nvm_New : Fits Tryz.prog 28 1 c_nvm_New [(.tmp 2), (.tmp 3)] := fits_mk Tryz.func28 (by kernel_rfl) (by kernel_rfl) (by kernel_rfl)
theorem p_nvm_New (F : Nat) (a0 : Int) (r : Option S_nvm_Mem × Int) (h : m_nvm_New F a0 = some r) : AC Tryz.prog 28 [S.one (.v (.int .i64 a0))] [] (fun x s' => optQ (r.1) (x = S.tup [S.one (.v (.pointer none)), S.one (.v (.int .i64 r.2))] ∧ leSt s' []) (fun G => x = S.tup [S.one (.ptr 13 0), S.one (.v (.int .i64 r.2))] ∧ leSt s' [(11, (⟨true, flat e_S_row_Row G.xl⟩ : Reg)), (13, (⟨false, [.own 11 0 G.xl.length (some (18, 86)), .v (.bool G.xoff), .v (.int .i64 G.xcount), .v (.int .i64 G.xfuse), .sl (flat e_i_i64 G.xkeep) G.xkeep.length]⟩ : Reg))])) := by
 unfold m_nvm_New at h
 refine AC_go f_nvm_New rfl ?_
 intro C hP
 unfold c_nvm_New; dsimp
 apply E_seq
 apply E_ops
 apply WM
 apply WM
 apply W_nil
 refine E_keep [0] [] ?_
 (try dsimp)
 apply E_seq
 apply E_seq
 apply E_ops
 apply WM
 refine WQ (does_int rfl rfl rfl) ?_
 apply WM
 apply W_lazy
 ·rfl
 ·intro hB; (try simp only [hB, bss, ctt]); exact does_mv rfl
 apply W_lazy
 ·rfl
 ·intro hB; (try simp only [hB, bss, ctt]); exact does_int rfl rfl rfl
 refine WQ (does_or rfl rfl rfl) ?_
 apply W_nil
 refine E_keep [0, 9] [] ?_
 (try dsimp)
 refine E_cond rfl (fun hc1 => ?_) (fun hc1 => ?_)
 ·replace h := of_ct h hc1
  apply E_seq
  apply E_ops
  apply WM
  apply WM
  apply W_nil
  refine E_keep [2, 3] [] ?_
  (try dsimp)
  apply E_ret
  cases h
  (try simp only [qt, qb, qn])
  refine fin_mk (xs := _) ⟨_, rfl, ⟨_, rfl, rfl⟩⟩ ?_
  show _ ∧ _
  exact ⟨rfl, trivial⟩
 ·replace h := of_cf h hc1
  apply E_skip
  refine E_keep [0] [] ?_
  (try dsimp)
  apply E_seq
  apply E_ops
  apply WM
  obtain ⟨g2, h⟩ := of_gd h
  refine W1 (does_mkF (e := e_S_row_Row) (⟨(⟨(0 : Int), (0 : Int), (0 : Int), (0 : Int), (0 : Int), (0 : Int), (0 : Int), (0 : Int)⟩ : V8 Int), (⟨(0 : Int), (0 : Int), (0 : Int), (0 : Int), (0 : Int), (0 : Int), (0 : Int), (0 : Int)⟩ : V8 Int), false, false⟩ : S_row_Row) rfl rfl rfl (fun _ => rfl) g2.1 g2.2.1 g2.2.2.1 g2.2.2.2 rfl) ?_
  refine WQ (does_build rfl rfl) ?_
  refine W1 (does_box rfl rfl rfl rfl) ?_
  apply WM
  apply WM
  apply W_nil
  refine E_keep [2, 3] [11, 13] ?_
  (try dsimp)
  refine E_ghost (Le_nilR (q := 13) rfl).b ?_
  (try dsimp)
  apply E_ret
  cases h
  (try simp only [qt, qb, qn])
  refine fin_mk (xs := _) ⟨_, rfl, ⟨_, rfl, rfl⟩⟩ ?_
  show _ ∧ _
  exact ⟨rfl, ⟨(by first | rfl | simp [setn_length, cpy_length, sortI_length]), ⟨(by first | rfl | simp [setn_length, cpy_length, sortI_length]), trivial⟩⟩⟩
/- reeve/nvm.From -/
def c_nvm_From : VCode := (.seq (.ops [(o (.mv cp) 2), (o (.mv (ci 0)) 3)]) (.seq (.ops [(w 10 0), (o (.len false (t 10)) 11), (o (.bin .quo 3 (t 11) (ci 8)) 12), (o (.call 28 [(t 12)]) 13), (w 9 13), (o (.ext 0 (t 9)) 14), (o (.ext 1 (t 9)) 15), (w 4 14), (w 5 15)]) (.seq (.seq (.ops [(w 16 5), (o (.bin .neq 33 (t 16) (ci 0)) 17), (w 18 17), (g_ (.mv (t 0)) 19 18 false), (g_ (.len false (t 19)) 20 18 false), (g_ (.bin .rem 3 (t 20) (ci 8)) 21 18 false), (g_ (.bin .neq 3 (t 21) (ci 0)) 22 18 false), (o (.pick (t 18) (cb true) (t 22)) 23)]) (.cond (t 23) (.seq (.ops [(o (.mv cp) 2), (o (.mv (ci 1)) 3)]) .ret) .skip)) (.seq (.seq (.ops [(w 24 0), (o (.len false (t 24)) 25), (o (.mv (ci 0)) 26)]) (.block 0 (.loop (.seq (.ops [(o (.bin .lss 3 (t 26) (t 25)) 27)]) (.seq (.cond (t 27) .skip (.exit 0)) (.seq (.block 1 (.seq (.ops [(w 28 26), (o (.idxS 1 (t 24) (t 26)) 29), (o (.load false 1 (t 29)) 30), (w 6 28), (w 7 30)]) (.seq (.ops [(w 31 4), (o (.nilchk (t 31)) 32), (o (.add 0 (t 32)) 33), (o (.load false 1 (t 33)) 34), (w 35 6), (o (.bin .quo 3 (t 35) (ci 8)) 36), (o (.idxS 18 (t 34) (t 36)) 37), (w 8 37)]) (.seq (.ops [(w 38 8), (w 39 6), (o (.bin .rem 3 (t 39) (ci 8)) 40), (w 41 7), (o (.nilchk (t 38)) 42), (o (.add 8 (t 42)) 43), (o (.idxA 1 8 (t 43) (t 40)) 44), (n_ (.store 1 (t 44) (t 41)))]) (.ops [(w 45 8), (w 46 6), (o (.bin .rem 3 (t 46) (ci 8)) 47), (w 48 7), (o (.nilchk (t 45)) 49), (o (.add 0 (t 49)) 50), (o (.idxA 1 8 (t 50) (t 47)) 51), (n_ (.store 1 (t 51) (t 48)))]))))) (.ops [(o (.bin .add 3 (t 26) (ci 1)) 52), (w 26 52)]))))))) (.seq (.ops [(w 53 4), (w 2 53), (o (.mv (ci 0)) 3)]) .ret)))))
theorem f_nvm_From : Fits Tryz.prog 8 1 c_nvm_From [(.tmp 2), (.tmp 3)] := fits_mk Tryz.func8 (by kernel_rfl) (by kernel_rfl) (by kernel_rfl)
theorem p_nvm_From (F : Nat) (a0 : (List Int)) (r : Option S_nvm_Mem × Int) (h : m_nvm_From F a0 = some r) : AC Tryz.prog 8 [S.one (.sl (flat e_i_u64 a0) a0.length)] [] (fun x s' => optQ (r.1) (x = S.tup [S.one (.v (.pointer none)), S.one (.v (.int .i64 r.2))] ∧ leSt s' []) (fun G => x = S.tup [S.one (.ptr 7131 0), S.one (.v (.int .i64 r.2))] ∧ leSt s' [(7130, (⟨true, flat e_S_row_Row G.xl⟩ : Reg)), (7131, (⟨false, [.own 7130 0 G.xl.length (some (18, 86)), .v (.bool G.xoff), .v (.int .i64 G.xcount), .v (.int .i64 G.xfuse), .sl (flat e_i_i64 G.xkeep) G.xkeep.length]⟩ : Reg))])) := by
 unfold m_nvm_From at h
 refine AC_go f_nvm_From rfl ?_
 intro C hP
 unfold c_nvm_From; dsimp
 apply E_seq
 apply E_ops
 apply WM
 apply WM
 apply W_nil
 refine E_keep [0] [] ?_
 (try dsimp)
 apply E_seq
 apply E_ops
 apply WM
 refine WQ (does_len_sl rfl) ?_
 refine WQ (does_int rfl rfl rfl) ?_
 obtain ⟨x1, x1h, h⟩ := of_bind h
 rcases of_optc h with ⟨o2e, h⟩ | ⟨o2, o2e, h⟩
 ·
  refine W1 (does_callO [] true hP (AC_none o2e (p_nvm_New F (IntKind.i64.wrap (Int.tdiv ((a0.length : Nat) : Int) 8)) x1 x1h)) rfl trivial rfl rfl rfl rfl rfl (fun h => by first | rfl | cases h) rfl) ?_
  (try dsimp)
  apply WM
  refine WQ (does_ext rfl rfl) ?_
  refine WQ (does_ext rfl rfl) ?_
  apply WM
  apply WM
  apply W_nil
  refine E_keep [0, 4, 5] [] ?_
  (try dsimp)
  apply E_seq
  apply E_seq
  apply E_ops
  apply WM
  refine WQ (does_int rfl rfl rfl) ?_
  apply WM
  apply W_lazy
  ·rfl
  ·intro hB; (try simp only [hB, bss, ctt]); exact does_mv rfl
  apply W_lazy
  ·rfl
  ·intro hB; (try simp only [hB, bss, ctt]); exact does_len_sl rfl
  apply W_lazy
  ·rfl
  ·intro hB; (try simp only [hB, bss, ctt]); exact does_int rfl rfl rfl
  apply W_lazy
  ·rfl
  ·intro hB; (try simp only [hB, bss, ctt]); exact does_int rfl rfl rfl
  refine WQ (does_or rfl rfl rfl) ?_
  apply W_nil
  refine E_keep [0, 4, 23] [] ?_
  (try dsimp)
  refine E_cond rfl (fun hc3 => ?_) (fun hc3 => ?_)
  ·replace h := of_ct h hc3
   apply E_seq
   apply E_ops
   apply WM
   apply WM
   apply W_nil
   refine E_keep [2, 3] [] ?_
   (try dsimp)
   apply E_ret
   cases h
   (try simp only [qt, qb, qn])
   refine fin_mk (xs := _) ⟨_, rfl, ⟨_, rfl, rfl⟩⟩ ?_
   show _ ∧ _
   exact ⟨rfl, trivial⟩
  ·replace h := of_cf h hc3
   apply E_skip
   refine E_keep [0, 4] [] ?_
   (try dsimp)
   obtain ⟨k4, k4d, h⟩ := of_jn h
   refine E_seqJ (α := Unit) (fun (i : Unit) => (⟨[(4, S.one (.v (.pointer none)))], []⟩ : St)) (fun i => k4 () = some r) (fun i h => ?_) ?_
   ·skip
    rw [k4d] at h; dsimp only at h
    (try dsimp)
    apply E_seq
    apply E_ops
    apply WM
    apply WM
    apply WM
    apply W_nil
    refine E_keep [2, 3] [] ?_
    (try dsimp)
    apply E_ret
    cases h
    (try simp only [qt, qb, qn])
    refine fin_mk (xs := _) ⟨_, rfl, ⟨_, rfl, rfl⟩⟩ ?_
    show _ ∧ _
    exact ⟨rfl, trivial⟩
   ·
    skip
    apply E_seq
    apply E_ops
    apply WM
    refine WQ (does_len_sl rfl) ?_
    apply WM
    apply W_nil
    refine E_keep [4, 24, 25, 26] [] ?_
    (try dsimp)
    apply E_block
    (try dsimp)
    refine E_loopB (α := Unit) (fun (i : Unit) => (⟨[(4, S.one (.v (.pointer none))), (24, S.one (.sl (flat e_i_u64 a0) a0.length)), (25, S.one (.v (.int .i64 ((a0.length : Nat) : Int)))), (26, S.one (.v (.int .i64 (0 : Int))))], []⟩ : St)) (fun n i => m_nvm_From_l0 F a0 k4 n () = some r) F () h ?_ (fun n i h => ?_)
    ·
     exact (Le.b (le_mk ⟨rfl, rfl, rfl, rfl, trivial⟩ trivial))
    cases n with
    | zero => cases h
    | succ n7 =>
     unfold m_nvm_From_l0 at h
     (try dsimp)
     apply E_seq
     apply E_ops
     refine WQ (does_int rfl rfl rfl) ?_
     apply W_nil
     (try dsimp)
     apply E_seq
     refine E_cond rfl (fun hc8 => ?_) (fun hc8 => ?_)
     ·replace h := of_ct h hc8
      apply E_skip
      refine E_keep [4, 24, 25, 26] [] ?_
      (try dsimp)
      apply E_seq
      apply E_block
      apply E_seq
      apply E_ops
      apply WM
      obtain ⟨g9, h⟩ := of_gd h
      refine WQ (does_idx_sl rfl rfl g9.1 g9.2) ?_
      refine WQ (does_load1_slF (k := 1) rfl (fun _ => rfl) g9 0 rfl rfl) ?_
      apply WM
      apply WM
      apply W_nil
      refine E_keep [4, 6, 7, 24, 25, 26] [] ?_
      (try dsimp)
      apply E_seq
      apply E_ops
      apply WM
      cases h
     ·replace h := of_cf h hc8
      apply E_exit
      refine ⟨(), h, ?_⟩
      exact (Le.b (le_mk ⟨rfl, trivial⟩ trivial))
 ·
  refine W1 (does_callO [(11, 7130), (13, 7131)] true hP (AC_some o2e (p_nvm_New F (IntKind.i64.wrap (Int.tdiv ((a0.length : Nat) : Int) 8)) x1 x1h)) rfl trivial rfl rfl rfl rfl rfl (fun h => by first | rfl | cases h) rfl) ?_
  (try dsimp)
  apply WM
  refine WQ (does_ext rfl rfl) ?_
  refine WQ (does_ext rfl rfl) ?_
  apply WM
  apply WM
  apply W_nil
  refine E_keep [0, 4, 5] [7130, 7131] ?_
  (try dsimp)
  apply E_seq
  apply E_seq
  apply E_ops
  apply WM
  refine WQ (does_int rfl rfl rfl) ?_
  apply WM
  apply W_lazy
  ·rfl
  ·intro hB; (try simp only [hB, bss, ctt]); exact does_mv rfl
  apply W_lazy
  ·rfl
  ·intro hB; (try simp only [hB, bss, ctt]); exact does_len_sl rfl
  apply W_lazy
  ·rfl
  ·intro hB; (try simp only [hB, bss, ctt]); exact does_int rfl rfl rfl
  apply W_lazy
  ·rfl
  ·intro hB; (try simp only [hB, bss, ctt]); exact does_int rfl rfl rfl
  refine WQ (does_or rfl rfl rfl) ?_
  apply W_nil
  refine E_keep [0, 4, 23] [7130, 7131] ?_
  (try dsimp)
  refine E_cond rfl (fun hc10 => ?_) (fun hc10 => ?_)
  ·replace h := of_ct h hc10
   apply E_seq
   apply E_ops
   apply WM
   apply WM
   apply W_nil
   refine E_keep [2, 3] [] ?_
   (try dsimp)
   apply E_ret
   cases h
   (try simp only [qt, qb, qn])
   refine fin_mk (xs := _) ⟨_, rfl, ⟨_, rfl, rfl⟩⟩ ?_
   show _ ∧ _
   exact ⟨rfl, trivial⟩
  ·replace h := of_cf h hc10
   apply E_skip
   refine E_keep [0, 4] [7130, 7131] ?_
   (try dsimp)
   obtain ⟨k12, k12d, h⟩ := of_jn h
   refine E_seqJ (α := (List S_row_Row)) (fun (i : (List S_row_Row)) => (⟨[(4, S.one (.ptr 7131 0))], [(7130, (⟨true, flat e_S_row_Row i⟩ : Reg)), (7131, (⟨false, [.own 7130 0 i.length (some (18, 86)), .v (.bool o2.xoff), .v (.int .i64 o2.xcount), .v (.int .i64 o2.xfuse), .sl (flat e_i_i64 o2.xkeep) o2.xkeep.length]⟩ : Reg))]⟩ : St)) (fun i => k12 i = some r) (fun i h => ?_) ?_
   ·let iv := i; change k12 i = some r at h; generalize i = v11 at h ⊢
    rw [k12d] at h; dsimp only at h
    (try dsimp)
    apply E_seq
    apply E_ops
    apply WM
    apply WM
    apply WM
    apply W_nil
    refine E_keep [2, 3] [7130, 7131] ?_
    (try dsimp)
    apply E_ret
    cases h
    (try simp only [qt, qb, qn])
    refine fin_mk (xs := _) ⟨_, rfl, ⟨_, rfl, rfl⟩⟩ ?_
    show _ ∧ _
    exact ⟨rfl, ⟨(by first | rfl | simp [setn_length, cpy_length, sortI_length]), ⟨(by first | rfl | simp [setn_length, cpy_length, sortI_length]), trivial⟩⟩⟩
   ·
    skip
    apply E_seq
    apply E_ops
    apply WM
    refine WQ (does_len_sl rfl) ?_
    apply WM
    apply W_nil
    refine E_keep [4, 24, 25, 26] [7130, 7131] ?_
    (try dsimp)
    apply E_block
    (try dsimp)
    refine E_loopB (α := Int × (List S_row_Row)) (fun (i : Int × (List S_row_Row)) => (⟨[(4, S.one (.ptr 7131 0)), (24, S.one (.sl (flat e_i_u64 a0) a0.length)), (25, S.one (.v (.int .i64 ((a0.length : Nat) : Int)))), (26, S.one (.v (.int .i64 i.1)))], [(7130, (⟨true, flat e_S_row_Row i.2⟩ : Reg)), (7131, (⟨false, [.own 7130 0 i.2.length (some (18, 86)), .v (.bool o2.xoff), .v (.int .i64 o2.xcount), .v (.int .i64 o2.xfuse), .sl (flat e_i_i64 o2.xkeep) o2.xkeep.length]⟩ : Reg))]⟩ : St)) (fun n i => m_nvm_From_l1 F a0 k12 n i.1 i.2 = some r) F ((0 : Int), o2.xl) h ?_ (fun n i h => ?_)
    ·
     exact (Le.b (le_mk ⟨rfl, rfl, rfl, rfl, trivial⟩ ⟨rfl, rfl, trivial⟩))
    obtain ⟨v27, v28⟩ := i; dsimp only at h
    cases n with
    | zero => cases h
    | succ n29 =>
     unfold m_nvm_From_l1 at h
     (try dsimp)
     apply E_seq
     apply E_ops
     refine WQ (does_int rfl rfl rfl) ?_
     apply W_nil
     (try dsimp)
     apply E_seq
     refine E_cond rfl (fun hc30 => ?_) (fun hc30 => ?_)
     ·replace h := of_ct h hc30
      apply E_skip
      refine E_keep [4, 24, 25, 26] [7130, 7131] ?_
      (try dsimp)
      apply E_seq
      apply E_block
      apply E_seq
      apply E_ops
      apply WM
      obtain ⟨g31, h⟩ := of_gd h
      refine WQ (does_idx_sl rfl rfl g31.1 g31.2) ?_
      refine WQ (does_load1_slF (k := 1) rfl (fun _ => rfl) g31 0 rfl rfl) ?_
      apply WM
      apply WM
      apply W_nil
      refine E_keep [4, 6, 7, 24, 25, 26] [7130, 7131] ?_
      (try dsimp)
      apply E_seq
      apply E_ops
      apply WM
      refine WQ (does_nilchk_ptr rfl rfl) ?_
      refine WQ (does_add_ptr rfl rfl) ?_
      refine WQ (does_load1_ptr rfl rfl rfl) ?_
      apply WM
      refine WQ (does_int rfl rfl rfl) ?_
      obtain ⟨g32, h⟩ := of_gd h
      refine WQ (does_idx_own rfl rfl rfl g32.1 g32.2) ?_
      apply WM
      apply W_nil
      refine E_keep [4, 6, 7, 8, 24, 25, 26] [7130, 7131] ?_
      (try dsimp)
      apply E_seq
      apply E_ops
      apply WM
      apply WM
      refine WQ (does_int rfl rfl rfl) ?_
      apply WM
      refine WQ (does_nilchk_ptr rfl rfl) ?_
      refine WQ (does_add_ptr rfl rfl) ?_
      obtain ⟨g33, h⟩ := of_gd h
      refine WQ (does_idxA_ptr rfl rfl rfl g33.1 g33.2) ?_
      refine W1 (does_store_rgF (e := e_S_row_Row) (n := 1) (k := 18) rfl rfl (fun _ => rfl) g32 (8 + (Int.tmod v27 8).toNat) (by omega) rfl rfl rfl (by decide) (⟨(nth v28 (IntKind.i64.wrap (Int.tdiv v27 8))).xLasts, (((nth v28 (IntKind.i64.wrap (Int.tdiv v27 8))).xNew).put (Int.tmod v27 8).toNat (nth a0 v27)), (nth v28 (IntKind.i64.wrap (Int.tdiv v27 8))).xOut, (nth v28 (IntKind.i64.wrap (Int.tdiv v27 8))).xSent⟩ : S_row_Row) (dynq (n := 8) (fun j => e_S_row_Row (⟨(nth v28 (IntKind.i64.wrap (Int.tdiv v27 8))).xLasts, (((nth v28 (IntKind.i64.wrap (Int.tdiv v27 8))).xNew).put j (nth a0 v27)), (nth v28 (IntKind.i64.wrap (Int.tdiv v27 8))).xOut, (nth v28 (IntKind.i64.wrap (Int.tdiv v27 8))).xSent⟩ : S_row_Row) = splice (e_S_row_Row (nth v28 (IntKind.i64.wrap (Int.tdiv v27 8)))) (8 + j) [.v (.int .u64 (nth a0 v27))]) g33 (by intro j hj; rcases j with _|_|_|_|_|_|_|_|j <;> first | rfl | omega)) (by omega) rfl) ?_
      apply W_nil
      refine E_keep [4, 6, 7, 8, 24, 25, 26] [7130, 7131] ?_
      (try dsimp)
      apply E_ops
      apply WM
      apply WM
      refine WQ (does_int rfl rfl rfl) ?_
      apply WM
      refine WQ (does_nilchk_ptr rfl rfl) ?_
      refine WQ (does_add_ptr rfl rfl) ?_
      obtain ⟨g34, h⟩ := of_gd h
      refine WQ (does_idxA_ptr rfl rfl rfl g34.1 g34.2) ?_
      refine W1 (does_store_rgS (e := e_S_row_Row) (n := 1) (k := 18) rfl rfl (fun _ => rfl) (by first | exact g32 | exact ix_setn.1 g32 | simpa only [ix_setn] using g32) (0 + (Int.tmod v27 8).toNat) (by omega) rfl rfl rfl (by decide) (⟨(((nth v28 (IntKind.i64.wrap (Int.tdiv v27 8))).xLasts).put (Int.tmod v27 8).toNat (nth a0 v27)), (((nth v28 (IntKind.i64.wrap (Int.tdiv v27 8))).xNew).put (Int.tmod v27 8).toNat (nth a0 v27)), (nth v28 (IntKind.i64.wrap (Int.tdiv v27 8))).xOut, (nth v28 (IntKind.i64.wrap (Int.tdiv v27 8))).xSent⟩ : S_row_Row) (dynq (n := 8) (fun j => e_S_row_Row (⟨(((nth v28 (IntKind.i64.wrap (Int.tdiv v27 8))).xLasts).put j (nth a0 v27)), (((nth v28 (IntKind.i64.wrap (Int.tdiv v27 8))).xNew).put (Int.tmod v27 8).toNat (nth a0 v27)), (nth v28 (IntKind.i64.wrap (Int.tdiv v27 8))).xOut, (nth v28 (IntKind.i64.wrap (Int.tdiv v27 8))).xSent⟩ : S_row_Row) = splice (e_S_row_Row (⟨(nth v28 (IntKind.i64.wrap (Int.tdiv v27 8))).xLasts, (((nth v28 (IntKind.i64.wrap (Int.tdiv v27 8))).xNew).put (Int.tmod v27 8).toNat (nth a0 v27)), (nth v28 (IntKind.i64.wrap (Int.tdiv v27 8))).xOut, (nth v28 (IntKind.i64.wrap (Int.tdiv v27 8))).xSent⟩ : S_row_Row)) (0 + j) [.v (.int .u64 (nth a0 v27))]) g34 (by intro j hj; rcases j with _|_|_|_|_|_|_|_|j <;> first | rfl | omega)) (by omega) rfl) ?_
      apply W_nil
      refine E_keep [4, 24, 25, 26] [7130, 7131] ?_
      (try dsimp)
      apply E_ops
      obtain ⟨g35, h⟩ := of_gd h
      refine WQ (does_add rfl rfl g35.1 g35.2) ?_
      apply WM
      apply W_nil
      refine ⟨n29, ((v27 + (1 : Int)), (setn v28 (IntKind.i64.wrap (Int.tdiv v27 8)) (⟨(((nth v28 (IntKind.i64.wrap (Int.tdiv v27 8))).xLasts).put (Int.tmod v27 8).toNat (nth a0 v27)), (((nth v28 (IntKind.i64.wrap (Int.tdiv v27 8))).xNew).put (Int.tmod v27 8).toNat (nth a0 v27)), (nth v28 (IntKind.i64.wrap (Int.tdiv v27 8))).xOut, (nth v28 (IntKind.i64.wrap (Int.tdiv v27 8))).xSent⟩ : S_row_Row))), Nat.lt_succ_self _, h, ?_⟩
      refine LeB_trans (Le_reg (r := 7131) rfl (by simp [setn_length, cpy_length, sortI_length] : (⟨false, [.own 7130 0 v28.length (some (18, 86)), .v (.bool o2.xoff), .v (.int .i64 o2.xcount), .v (.int .i64 o2.xfuse), .sl (flat e_i_i64 o2.xkeep) o2.xkeep.length]⟩ : Reg) = (⟨false, [.own 7130 0 (setn v28 (IntKind.i64.wrap (Int.tdiv v27 8)) (⟨(((nth v28 (IntKind.i64.wrap (Int.tdiv v27 8))).xLasts).put (Int.tmod v27 8).toNat (nth a0 v27)), (((nth v28 (IntKind.i64.wrap (Int.tdiv v27 8))).xNew).put (Int.tmod v27 8).toNat (nth a0 v27)), (nth v28 (IntKind.i64.wrap (Int.tdiv v27 8))).xOut, (nth v28 (IntKind.i64.wrap (Int.tdiv v27 8))).xSent⟩ : S_row_Row)).length (some (18, 86)), .v (.bool o2.xoff), .v (.int .i64 o2.xcount), .v (.int .i64 o2.xfuse), .sl (flat e_i_i64 o2.xkeep) o2.xkeep.length]⟩ : Reg))).b ?_
      exact (Le.b (le_mk ⟨rfl, rfl, rfl, rfl, trivial⟩ ⟨rfl, rfl, trivial⟩))
     ·replace h := of_cf h hc30
      apply E_exit
      refine ⟨v28, h, ?_⟩
      exact (Le.b (le_mk ⟨rfl, trivial⟩ ⟨rfl, rfl, trivial⟩))
/- reeve/boot.Make -/
def c_boot_Make : VCode := (.seq (.ops [(o (.box 23 (t 0)) 2), (o (.mv cp) 4), (o (.mv (ci 0)) 5)]) (.seq (.ops [(o (.load true 3 (t 2)) 9), (w 10 1), (o (.call 13 [(t 9), (t 10)]) 11), (w 8 11), (o (.ext 0 (t 8)) 12), (o (.ext 1 (t 8)) 13), (o (.newv [zi, zi, zi, .nil, .nil]) 6), (n_ (.store 5 (t 6) (t 12))), (w 7 13)]) (.seq (.seq (.ops [(w 14 7), (o (.bin .neq 33 (t 14) (ci 0)) 15)]) (.cond (t 15) (.seq (.ops [(w 16 7), (o (.mv cp) 4), (w 5 16)]) .ret) .skip)) (.seq (.ops [(o (.load true 5 (t 6)) 17), (o (.call 29 [(t 17), (.const (.int .u64 0))]) 18), (o (.call 8 [(t 18)]) 19), (o (.ext 0 (t 19)) 20), (o (.ext 1 (t 19)) 21), (w 4 20), (w 5 21)]) .ret))))
theorem f_boot_Make : Fits Tryz.prog 12 2 c_boot_Make [(.tmp 4), (.tmp 5)] := fits_mk Tryz.func12 (by kernel_rfl) (by kernel_rfl) (by kernel_rfl)
theorem p_boot_Make (F : Nat) (a0 : S_geo_Geo) (a1 : Int) (r : Option S_nvm_Mem × Int) (h : m_boot_Make F a0 a1 = some r) : AC Tryz.prog 12 [S.agg [.v (.int .i64 a0.xThreads), .v (.int .i64 a0.xSlots), .v (.int .i64 a0.xThings)], S.one (.v (.int .i64 a1))] [] (fun x s' => optQ (r.1) (x = S.tup [S.one (.v (.pointer none)), S.one (.v (.int .i64 r.2))] ∧ leSt s' []) (fun G => x = S.tup [S.one (.ptr 7191 0), S.one (.v (.int .i64 r.2))] ∧ leSt s' [(7190, (⟨true, flat e_S_row_Row G.xl⟩ : Reg)), (7191, (⟨false, [.own 7190 0 G.xl.length (some (18, 86)), .v (.bool G.xoff), .v (.int .i64 G.xcount), .v (.int .i64 G.xfuse), .sl (flat e_i_i64 G.xkeep) G.xkeep.length]⟩ : Reg))])) := by
 unfold m_boot_Make at h
 refine AC_go f_boot_Make rfl ?_
 intro C hP
 unfold c_boot_Make; dsimp
 apply E_seq
 apply E_ops
 refine W1 (does_box rfl rfl rfl rfl) ?_
 apply WM
 apply WM
 apply W_nil
 refine E_keep [1, 2] [2] ?_
 (try dsimp)
 apply E_seq
 apply E_ops
 refine WQ (does_loadA_ptr rfl rfl rfl rfl (by decide)) ?_
 apply WM
 obtain ⟨x1, x1h, h⟩ := of_bind h
 refine W1 (does_call1 hP (p_state_New F a0 a1 x1 x1h) rfl rfl rfl) ?_
 apply WM
 refine WQ (does_ext rfl rfl) ?_
 refine WQ (does_ext rfl rfl) ?_
 refine W1 (does_newv rfl rfl) ?_
 refine W1 (does_store rfl rfl rfl rfl rfl (Nat.le_of_ble_eq_true rfl) rfl (by decide)) ?_
 apply WM
 apply W_nil
 refine E_keep [6, 7] [6] ?_
 (try dsimp)
 apply E_seq
 apply E_seq
 apply E_ops
 apply WM
 refine WQ (does_int rfl rfl rfl) ?_
 apply W_nil
 refine E_keep [6, 7, 15] [6] ?_
 (try dsimp)
 refine E_cond rfl (fun hc2 => ?_) (fun hc2 => ?_)
 ·replace h := of_ct h hc2
  apply E_seq
  apply E_ops
  apply WM
  apply WM
  apply WM
  apply W_nil
  refine E_keep [4, 5] [] ?_
  (try dsimp)
  apply E_ret
  cases h
  (try simp only [qt, qb, qn])
  refine fin_mk (xs := _) ⟨_, rfl, ⟨_, rfl, rfl⟩⟩ ?_
  show _ ∧ _
  exact ⟨rfl, trivial⟩
 ·replace h := of_cf h hc2
  apply E_skip
  refine E_keep [6] [6] ?_
  (try dsimp)
  apply E_seq
  apply E_ops
  refine WQ (does_loadA_ptr rfl rfl rfl rfl (by decide)) ?_
  obtain ⟨x3, x3h, h⟩ := of_bind h
  refine W1 (does_call1 hP (p_image_Put F x1.1 (0 : Int) x3 x3h) rfl rfl rfl) ?_
  obtain ⟨x4, x4h, h⟩ := of_bind h
  rcases of_optc h with ⟨o5e, h⟩ | ⟨o5, o5e, h⟩
  ·
   refine W1 (does_callO [] true hP (AC_none o5e (p_nvm_From F x3 x4 x4h)) rfl trivial rfl rfl rfl rfl rfl (fun h => by first | rfl | cases h) rfl) ?_
   (try dsimp)
   refine WQ (does_ext rfl rfl) ?_
   refine WQ (does_ext rfl rfl) ?_
   apply WM
   apply WM
   apply W_nil
   refine E_keep [4, 5] [] ?_
   (try dsimp)
   apply E_ret
   cases h
   (try simp only [qt, qb, qn])
   refine fin_mk (xs := _) ⟨_, rfl, ⟨_, rfl, rfl⟩⟩ ?_
   show _ ∧ _
   exact ⟨rfl, trivial⟩
  ·
   refine W1 (does_callO [(7130, 7190), (7131, 7191)] true hP (AC_some o5e (p_nvm_From F x3 x4 x4h)) rfl trivial rfl rfl rfl rfl rfl (fun h => by first | rfl | cases h) rfl) ?_
   (try dsimp)
   refine WQ (does_ext rfl rfl) ?_
   refine WQ (does_ext rfl rfl) ?_
   apply WM
   apply WM
   apply W_nil
   refine E_keep [4, 5] [7190, 7191] ?_
   (try dsimp)
   apply E_ret
   cases h
   (try simp only [qt, qb, qn])
   refine fin_mk (xs := _) ⟨_, rfl, ⟨_, rfl, rfl⟩⟩ ?_
   show _ ∧ _
   exact ⟨rfl, ⟨(by first | rfl | simp [setn_length, cpy_length, sortI_length]), ⟨(by first | rfl | simp [setn_length, cpy_length, sortI_length]), trivial⟩⟩⟩
/- (*reeve/nvm.Mem).Off -/
def c_nvm_Mem_Off : VCode := (.seq (.ops [(o (.mv (cb false)) 2)]) (.seq (.ops [(w 3 0), (o (.nilchk (t 3)) 4), (o (.add 1 (t 4)) 5), (o (.load false 1 (t 5)) 6), (w 2 6)]) .ret))
theorem f_nvm_Mem_Off : Fits Tryz.prog 32 1 c_nvm_Mem_Off [(.tmp 2)] := fits_mk Tryz.func32 (by kernel_rfl) (by kernel_rfl) (by kernel_rfl)
theorem p_nvm_Mem_Off (F : Nat) (a0 : S_nvm_Mem) (r : Bool) (h : m_nvm_Mem_Off F a0 = some r) : AC Tryz.prog 32 [S.one (.ptr 100900 0)] [(100900, (⟨false, [.own 100901 0 a0.xl.length (some (18, 86)), .v (.bool a0.xoff), .v (.int .i64 a0.xcount), .v (.int .i64 a0.xfuse), .sl (flat e_i_i64 a0.xkeep) a0.xkeep.length]⟩ : Reg)), (100901, (⟨true, flat e_S_row_Row a0.xl⟩ : Reg))] (fun x s' => x = S.one (.v (.bool r)) ∧ leSt s' [(100900, (⟨false, [.own 100901 0 a0.xl.length (some (18, 86)), .v (.bool a0.xoff), .v (.int .i64 a0.xcount), .v (.int .i64 a0.xfuse), .sl (flat e_i_i64 a0.xkeep) a0.xkeep.length]⟩ : Reg)), (100901, (⟨true, flat e_S_row_Row a0.xl⟩ : Reg))]) := by
 unfold m_nvm_Mem_Off at h
 refine AC_go f_nvm_Mem_Off rfl ?_
 intro C hP
 unfold c_nvm_Mem_Off; dsimp
 apply E_seq
 apply E_ops
 apply WM
 apply W_nil
 refine E_keep [0] [100900, 100901] ?_
 (try dsimp)
 apply E_seq
 apply E_ops
 apply WM
 refine WQ (does_nilchk_ptr rfl rfl) ?_
 refine WQ (does_add_ptr rfl rfl) ?_
 refine WQ (does_load1_ptr rfl rfl rfl) ?_
 apply WM
 apply W_nil
 refine E_keep [2] [100900, 100901] ?_
 (try dsimp)
 apply E_ret
 cases h
 (try simp only [qt, qb, qn])
 refine fin_mk (xs := _) ⟨_, rfl, rfl⟩ ?_
 show _ ∧ _
 exact ⟨rfl, ⟨(by first | rfl | simp [setn_length, cpy_length, sortI_length]), ⟨(by first | rfl | simp [setn_length, cpy_length, sortI_length]), trivial⟩⟩⟩
/- (*reeve/nvm.Mem).Words -/
def c_nvm_Mem_Words : VCode := (.seq (.ops [(o (.mv cn) 2)]) (.seq (.ops [(w 6 0), (o (.nilchk (t 6)) 7), (o (.add 0 (t 7)) 8), (o (.load false 1 (t 8)) 9), (o (.len false (t 9)) 10), (o (.bin .mul 3 (t 10) (ci 8)) 11), (o (.mk 36 42 1 8 [zu] (ci 0) (t 11)) 12), (w 3 12)]) (.seq (.seq (.ops [(w 13 0), (o (.nilchk (t 13)) 14), (o (.add 0 (t 14)) 15), (o (.load false 1 (t 15)) 16), (o (.len false (t 16)) 17), (o (.mv (ci 0)) 18)]) (.block 0 (.loop (.seq (.ops [(o (.bin .lss 3 (t 18) (t 17)) 19)]) (.seq (.cond (t 19) .skip (.exit 0)) (.seq (.block 1 (.seq (.ops [(o (.idxS 18 (t 16) (t 18)) 20), (o (.load true 18 (t 20)) 21), (o (.newv [zu, zu, zu, zu, zu, zu, zu, zu, zu, zu, zu, zu, zu, zu, zu, zu, zb, zb]) 5), (n_ (.store 18 (t 5) (t 21)))]) (.ops [(w 22 3), (o (.add 8 (t 5)) 23), (o (.slcA 1 8 (t 23) .none .none) 24), (o (.app 36 42 1 8 (t 22) (t 24)) 25), (w 3 25)]))) (.ops [(o (.bin .add 3 (t 18) (ci 1)) 26), (w 18 26)]))))))) (.seq (.ops [(w 27 3), (w 2 27)]) .ret))))
theorem f_nvm_Mem_Words : Fits Tryz.prog 11 1 c_nvm_Mem_Words [(.tmp 2)] := fits_mk Tryz.func11 (by kernel_rfl) (by kernel_rfl) (by kernel_rfl)
theorem p_nvm_Mem_Words (F : Nat) (a0 : S_nvm_Mem) (r : (List Int)) (h : m_nvm_Mem_Words F a0 = some r) : AC Tryz.prog 11 [S.one (.ptr 100900 0)] [(100900, (⟨false, [.own 100901 0 a0.xl.length (some (18, 86)), .v (.bool a0.xoff), .v (.int .i64 a0.xcount), .v (.int .i64 a0.xfuse), .sl (flat e_i_i64 a0.xkeep) a0.xkeep.length]⟩ : Reg)), (100901, (⟨true, flat e_S_row_Row a0.xl⟩ : Reg))] (fun x s' => x = S.one (.sl (flat e_i_u64 r) r.length) ∧ leSt s' [(100900, (⟨false, [.own 100901 0 a0.xl.length (some (18, 86)), .v (.bool a0.xoff), .v (.int .i64 a0.xcount), .v (.int .i64 a0.xfuse), .sl (flat e_i_i64 a0.xkeep) a0.xkeep.length]⟩ : Reg)), (100901, (⟨true, flat e_S_row_Row a0.xl⟩ : Reg))]) := by
 unfold m_nvm_Mem_Words at h
 refine AC_go f_nvm_Mem_Words rfl ?_
 intro C hP
 unfold c_nvm_Mem_Words; dsimp
 apply E_seq
 apply E_ops
 apply WM
 apply W_nil
 refine E_keep [0] [100900, 100901] ?_
 (try dsimp)
 apply E_seq
 apply E_ops
 apply WM
 refine WQ (does_nilchk_ptr rfl rfl) ?_
 refine WQ (does_add_ptr rfl rfl) ?_
 refine WQ (does_load1_ptr rfl rfl rfl) ?_
 refine WQ (does_len_own rfl rfl) ?_
 obtain ⟨g1, h⟩ := of_gd h
 refine WQ (does_mul rfl rfl g1.1 g1.2) ?_
 obtain ⟨g2, h⟩ := of_gd h
 refine W1 (does_mkF (e := e_i_u64) (0 : Int) rfl rfl rfl (fun _ => rfl) g2.1 g2.2.1 g2.2.2.1 g2.2.2.2 rfl) ?_
 apply WM
 apply W_nil
 refine E_keep [0, 3] [12, 100900, 100901] ?_
 (try dsimp)
 obtain ⟨k4, k4d, h⟩ := of_jn h
 refine E_seqJ (α := (List Int)) (fun (i : (List Int)) => (⟨[(3, S.one (.own 12 0 i.length (some (1, 42))))], [(12, (⟨true, flat e_i_u64 i⟩ : Reg)), (100900, (⟨false, [.own 100901 0 a0.xl.length (some (18, 86)), .v (.bool a0.xoff), .v (.int .i64 a0.xcount), .v (.int .i64 a0.xfuse), .sl (flat e_i_i64 a0.xkeep) a0.xkeep.length]⟩ : Reg)), (100901, (⟨true, flat e_S_row_Row a0.xl⟩ : Reg))]⟩ : St)) (fun i => k4 i = some r) (fun i h => ?_) ?_
 ·let iv := i; change k4 i = some r at h; generalize i = v3 at h ⊢
  rw [k4d] at h; dsimp only at h
  (try dsimp)
  apply E_seq
  apply E_ops
  apply WM
  apply WM
  apply W_nil
  refine E_keep [2] [12, 100900, 100901] ?_
  (try dsimp)
  refine E_ghost (Le_frz (r := 12) rfl rfl).b ?_
  (try dsimp)
  apply E_ret
  cases h
  (try simp only [qt, qb, qn])
  refine fin_mk (xs := _) ⟨_, rfl, rfl⟩ ?_
  show _ ∧ _
  exact ⟨rfl, ⟨(by first | rfl | simp [setn_length, cpy_length, sortI_length]), ⟨(by first | rfl | simp [setn_length, cpy_length, sortI_length]), trivial⟩⟩⟩
 ·
  skip
  apply E_seq
  apply E_ops
  apply WM
  refine WQ (does_nilchk_ptr rfl rfl) ?_
  refine WQ (does_add_ptr rfl rfl) ?_
  refine WQ (does_load1_ptr rfl rfl rfl) ?_
  refine WQ (does_len_own rfl rfl) ?_
  apply WM
  apply W_nil
  refine E_keep [3, 16, 17, 18] [12, 100900, 100901] ?_
  (try dsimp)
  apply E_block
  (try dsimp)
  refine E_loopB (α := Int × (List Int)) (fun (i : Int × (List Int)) => (⟨[(3, S.one (.own 12 0 i.2.length (some (1, 42)))), (16, S.one (.own 100901 0 a0.xl.length (some (18, 86)))), (17, S.one (.v (.int .i64 ((a0.xl.length : Nat) : Int)))), (18, S.one (.v (.int .i64 i.1)))], [(12, (⟨true, flat e_i_u64 i.2⟩ : Reg)), (100900, (⟨false, [.own 100901 0 a0.xl.length (some (18, 86)), .v (.bool a0.xoff), .v (.int .i64 a0.xcount), .v (.int .i64 a0.xfuse), .sl (flat e_i_i64 a0.xkeep) a0.xkeep.length]⟩ : Reg)), (100901, (⟨true, flat e_S_row_Row a0.xl⟩ : Reg))]⟩ : St)) (fun n i => m_nvm_Mem_Words_l0 F a0 k4 n i.1 i.2 = some r) F ((0 : Int), (List.replicate (0 : Int).toNat (0 : Int))) h ?_ (fun n i h => ?_)
  ·
   exact (Le.b (le_mk ⟨rfl, rfl, rfl, rfl, trivial⟩ ⟨rfl, rfl, rfl, trivial⟩))
  obtain ⟨v15, v16⟩ := i; dsimp only at h
  cases n with
  | zero => cases h
  | succ n17 =>
   unfold m_nvm_Mem_Words_l0 at h
   (try dsimp)
   apply E_seq
   apply E_ops
   refine WQ (does_int rfl rfl rfl) ?_
   apply W_nil
   (try dsimp)
   apply E_seq
   refine E_cond rfl (fun hc18 => ?_) (fun hc18 => ?_)
   ·replace h := of_ct h hc18
    apply E_skip
    refine E_keep [3, 16, 17, 18] [12, 100900, 100901] ?_
    (try dsimp)
    apply E_seq
    apply E_block
    apply E_seq
    apply E_ops
    obtain ⟨g19, h⟩ := of_gd h
    refine WQ (does_idx_own rfl rfl rfl g19.1 g19.2) ?_
    refine WQ (does_loadA_rgF (k := 18) rfl rfl (fun _ => rfl) g19 0 (by omega) rfl rfl (by decide)) ?_
    refine W1 (does_newv rfl rfl) ?_
    refine W1 (does_store rfl rfl rfl rfl rfl (Nat.le_of_ble_eq_true rfl) rfl (by decide)) ?_
    apply W_nil
    refine E_keep [3, 5, 16, 17, 18] [5, 12, 100900, 100901] ?_
    (try dsimp)
    apply E_ops
    apply WM
    refine WQ (does_add_ptr rfl rfl) ?_
    refine WQ (does_slcA_ptr rfl rfl rfl rfl (by decide) (by decide) (by decide) (List.cons_ne_nil _ _)) ?_
    obtain ⟨g20, h⟩ := of_gd h
    refine W1 (does_appF (e := e_i_u64) rfl rfl (fun _ => rfl) (fun _ => rfl) rfl (Src.part (e := e_i_u64) ([(nth a0.xl v15).xNew.c0, (nth a0.xl v15).xNew.c1, (nth a0.xl v15).xNew.c2, (nth a0.xl v15).xNew.c3, (nth a0.xl v15).xNew.c4, (nth a0.xl v15).xNew.c5, (nth a0.xl v15).xNew.c6, (nth a0.xl v15).xNew.c7] : List Int) rfl (fun _ => rfl) rfl rfl) g20 rfl) ?_
    apply WM
    apply W_nil
    refine E_keep [3, 16, 17, 18] [12, 100900, 100901] ?_
    (try dsimp)
    apply E_ops
    obtain ⟨g21, h⟩ := of_gd h
    refine WQ (does_add rfl rfl g21.1 g21.2) ?_
    apply WM
    apply W_nil
    refine ⟨n17, ((v15 + (1 : Int)), (v16 ++ ([(nth a0.xl v15).xNew.c0, (nth a0.xl v15).xNew.c1, (nth a0.xl v15).xNew.c2, (nth a0.xl v15).xNew.c3, (nth a0.xl v15).xNew.c4, (nth a0.xl v15).xNew.c5, (nth a0.xl v15).xNew.c6, (nth a0.xl v15).xNew.c7] : List Int))), Nat.lt_succ_self _, h, ?_⟩
    exact (Le.b (le_mk ⟨rfl, rfl, rfl, rfl, trivial⟩ ⟨rfl, rfl, rfl, trivial⟩))
   ·replace h := of_cf h hc18
    apply E_exit
    refine ⟨v16, h, ?_⟩
    exact (Le.b (le_mk ⟨rfl, trivial⟩ ⟨rfl, rfl, rfl, trivial⟩))
/- slices.Equal[[]uint64,uint64] -/
def c_slices_Equal_uint64 : VCode := (.seq (.ops [(o (.mv (cb false)) 4)]) (.seq (.seq (.ops [(w 6 0), (o (.len false (t 6)) 7), (w 8 1), (o (.len false (t 8)) 9), (o (.bin .neq 3 (t 7) (t 9)) 10)]) (.cond (t 10) (.seq (.ops [(o (.mv (cb false)) 4)]) .ret) .skip)) (.seq (.seq (.ops [(w 11 0), (o (.len false (t 11)) 12), (o (.mv (ci 0)) 13)]) (.block 0 (.loop (.seq (.ops [(o (.bin .lss 3 (t 13) (t 12)) 14)]) (.seq (.cond (t 14) .skip (.exit 0)) (.seq (.block 1 (.seq (.ops [(w 15 13), (w 5 15)]) (.seq (.draw [((w 16 0), []), ((w 17 5), []), ((o (.idxS 1 (t 16) (t 17)) 18), [0, 1]), ((o (.load false 1 (t 18)) 19), [2]), ((w 20 1), []), ((w 21 5), []), ((o (.idxS 1 (t 20) (t 21)) 22), [4, 5]), ((o (.load false 1 (t 22)) 23), [6]), ((o (.bin .neq 42 (t 19) (t 23)) 24), [3, 7])]) (.cond (t 24) (.seq (.ops [(o (.mv (cb false)) 4)]) .ret) .skip)))) (.ops [(o (.bin .add 3 (t 13) (ci 1)) 25), (w 13 25)]))))))) (.seq (.ops [(o (.mv (cb true)) 4)]) .ret))))
theorem f_slices_Equal_uint64 : Fits Tryz.prog 105 2 c_slices_Equal_uint64 [(.tmp 4)] := fits_mk Tryz.func105 (by kernel_rfl) (by kernel_rfl) (by kernel_rfl)
theorem p_slices_Equal_uint64 (F : Nat) (a0 : (List Int)) (a1 : (List Int)) (r : Bool) (h : m_slices_Equal_uint64 F a0 a1 = some r) : PC Tryz.prog 105 [S.one (.sl (flat e_i_u64 a0) a0.length), S.one (.sl (flat e_i_u64 a1) a1.length)] (S.one (.v (.bool r))) := by
 unfold m_slices_Equal_uint64 at h
 refine PC_go f_slices_Equal_uint64 rfl rfl ?_
 intro C hP
 unfold c_slices_Equal_uint64; dsimp
 apply E_seq
 apply E_ops
 apply WM
 apply W_nil
 refine E_keep [0, 1] [] ?_
 (try dsimp)
 apply E_seq
 apply E_seq
 apply E_ops
 apply WM
 refine WQ (does_len_sl rfl) ?_
 apply WM
 refine WQ (does_len_sl rfl) ?_
 refine WQ (does_int rfl rfl rfl) ?_
 apply W_nil
 refine E_keep [0, 1, 10] [] ?_
 (try dsimp)
 refine E_cond rfl (fun hc1 => ?_) (fun hc1 => ?_)
 ·replace h := of_ct h hc1
  apply E_seq
  apply E_ops
  apply WM
  apply W_nil
  refine E_keep [4] [] ?_
  (try dsimp)
  apply E_ret
  cases h
  (try simp only [qt, qb, qn])
  refine fin_mk (xs := _) ⟨_, rfl, rfl⟩ ?_
  rfl
 ·replace h := of_cf h hc1
  apply E_skip
  refine E_keep [0, 1] [] ?_
  (try dsimp)
  obtain ⟨k2, k2d, h⟩ := of_jn h
  refine E_seqJ (α := Unit) (fun (i : Unit) => (⟨[], []⟩ : St)) (fun i => k2 () = some r) (fun i h => ?_) ?_
  ·skip
   rw [k2d] at h; dsimp only at h
   (try dsimp)
   apply E_seq
   apply E_ops
   apply WM
   apply W_nil
   (try dsimp)
   apply E_ret
   cases h
   (try simp only [qt, qb, qn])
   refine fin_mk (xs := _) ⟨_, rfl, rfl⟩ ?_
   rfl
  ·
   skip
   apply E_seq
   apply E_ops
   apply WM
   refine WQ (does_len_sl rfl) ?_
   apply WM
   apply W_nil
   refine E_keep [0, 1, 12, 13] [] ?_
   (try dsimp)
   apply E_block
   (try dsimp)
   refine E_loopB (α := Int) (fun (i : Int) => (⟨[(0, S.one (.sl (flat e_i_u64 a0) a0.length)), (1, S.one (.sl (flat e_i_u64 a1) a1.length)), (12, S.one (.v (.int .i64 ((a0.length : Nat) : Int)))), (13, S.one (.v (.int .i64 i)))], []⟩ : St)) (fun n i => m_slices_Equal_uint64_l0 F a0 a1 k2 n i = some r) F (0 : Int) h ?_ (fun n i h => ?_)
   ·
    exact (Le.b (le_mk ⟨rfl, rfl, rfl, rfl, trivial⟩ trivial))
   generalize i = v14 at h ⊢
   cases n with
   | zero => cases h
   | succ n15 =>
    unfold m_slices_Equal_uint64_l0 at h
    (try dsimp)
    apply E_seq
    apply E_ops
    refine WQ (does_int rfl rfl rfl) ?_
    apply W_nil
    (try dsimp)
    apply E_seq
    refine E_cond rfl (fun hc16 => ?_) (fun hc16 => ?_)
    ·replace h := of_ct h hc16
     apply E_skip
     refine E_keep [0, 1, 12, 13] [] ?_
     (try dsimp)
     apply E_seq
     apply E_block
     apply E_seq
     apply E_ops
     apply WM
     apply WM
     apply W_nil
     refine E_keep [0, 1, 5, 12, 13] [] ?_
     (try dsimp)
     apply E_seq
     obtain ⟨g17, h⟩ := of_gd h
     obtain ⟨g18, h⟩ := of_gd h
     refine E_draw [0, 1, 2, 3, 4, 5, 6, 7, 8] ?_
     refine XQ 0 rfl rfl rfl (does_mv rfl) ?_
     refine XQ 1 rfl rfl rfl (does_mv rfl) ?_
     refine XQ 2 rfl rfl rfl (does_idx_sl rfl rfl g17.1 g17.2) ?_
     refine XQ 3 rfl rfl rfl (does_load1_slF (k := 1) rfl (fun _ => rfl) g17 0 rfl rfl) ?_
     refine XQ 4 rfl rfl rfl (does_mv rfl) ?_
     refine XQ 5 rfl rfl rfl (does_mv rfl) ?_
     refine XQ 6 rfl rfl rfl (does_idx_sl rfl rfl g18.1 g18.2) ?_
     refine XQ 7 rfl rfl rfl (does_load1_slF (k := 1) rfl (fun _ => rfl) g18 0 rfl rfl) ?_
     refine XQ 8 rfl rfl rfl (does_int rfl rfl rfl) ?_
     refine X_nil rfl ?_
     refine E_keep [0, 1, 12, 13, 24] [] ?_
     (try dsimp)
     refine E_cond rfl (fun hc19 => ?_) (fun hc19 => ?_)
     ·replace h := of_ct h hc19
      apply E_seq
      apply E_ops
      apply WM
      apply W_nil
      refine E_keep [4] [] ?_
      (try dsimp)
      apply E_ret
      cases h
      (try simp only [qt, qb, qn])
      refine fin_mk (xs := _) ⟨_, rfl, rfl⟩ ?_
      rfl
     ·replace h := of_cf h hc19
      apply E_skip
      refine E_keep [0, 1, 12, 13] [] ?_
      (try dsimp)
      apply E_ops
      obtain ⟨g20, h⟩ := of_gd h
      refine WQ (does_add rfl rfl g20.1 g20.2) ?_
      apply WM
      apply W_nil
      refine ⟨n15, (v14 + (1 : Int)), Nat.lt_succ_self _, h, ?_⟩
      exact (Le.b (le_mk ⟨rfl, rfl, rfl, rfl, trivial⟩ trivial))
    ·replace h := of_cf h hc16
     apply E_exit
     refine ⟨(), h, ?_⟩
     exact (Le.b (le_mk trivial trivial))
/- reeve/super.Get -/
def c_super_Get : VCode := (.seq (.ops [(o (.newv [zi, zi, zi, zu]) 2), (o (.mv (cb false)) 3)]) (.seq (.seq (.draw [((w 5 0), []), ((o (.len false (t 5)) 6), [0]), ((o (.bin .neq 3 (t 6) (ci 8)) 7), [1]), ((w 8 7), [2]), ((g_ (.mv (t 0)) 9 8 false), [3]), ((g_ (.idxS 1 (t 9) (ci 1)) 10 8 false), [4, 3]), ((g_ (.load false 1 (t 10)) 11 8 false), [5, 3]), ((g_ (.mv (t 0)) 12 8 false), [3]), ((g_ (.idxS 1 (t 12) (ci 2)) 13 8 false), [7, 3]), ((g_ (.load false 1 (t 13)) 14 8 false), [8, 3]), ((g_ (.mv (t 0)) 15 8 false), [3]), ((g_ (.idxS 1 (t 15) (ci 3)) 16 8 false), [10, 3]), ((g_ (.load false 1 (t 16)) 17 8 false), [11, 3]), ((g_ (.bi .max #[42, 42, 42] 42 #[false, false, false] [(t 11), (t 14), (t 17)]) 18 8 false), [6, 9, 12, 3]), ((g_ (.bin .gtr 42 (t 18) (.const (.int .u64 4096))) 19 8 false), [13, 3]), ((o (.pick (t 8) (cb true) (t 19)) 20), [3, 14])]) (.cond (t 20) (.seq (.ops [(o (.build [zi, zi, zi, zu] []) 21), (n_ (.store 4 (t 2) (t 21))), (o (.mv (cb false)) 3)]) .ret) .skip)) (.seq (.draw [((w 22 0), []), ((o (.idxS 1 (t 22) (ci 1)) 23), [0]), ((o (.load false 1 (t 23)) 24), [1]), ((o (.convI .i64 (t 24)) 25), [2]), ((w 26 0), []), ((o (.idxS 1 (t 26) (ci 2)) 27), [4]), ((o (.load false 1 (t 27)) 28), [5]), ((o (.convI .i64 (t 28)) 29), [6]), ((w 30 0), []), ((o (.idxS 1 (t 30) (ci 3)) 31), [8]), ((o (.load false 1 (t 31)) 32), [9]), ((o (.convI .i64 (t 32)) 33), [10]), ((o (.build [zi, zi, zi] [(0, (1, (t 25))), (1, (1, (t 29))), (2, (1, (t 33)))]) 34), [3, 7, 11]), ((w 35 0), []), ((o (.idxS 1 (t 35) (ci 4)) 36), [13]), ((o (.load false 1 (t 36)) 37), [14]), ((o (.build [zi, zi, zi, zu] [(0, (3, (t 34))), (3, (1, (t 37)))]) 38), [12, 15]), ((o (.newv [zi, zi, zi, zu]) 4), []), ((n_ (.store 4 (t 4) (t 38))), [17, 16, 0, 1, 2, 3, 4, 5, 6, 7, 8, 9, 10, 11, 12, 13, 14, 15, 16, 17])]) (.seq (.seq (.ops [(o (.load true 4 (t 4)) 39), (o (.call 57 [(t 39)]) 40), (w 41 0), (o (.call 105 [(t 40), (t 41)]) 42), (o (.un .not (t 42)) 43)]) (.cond (t 43) (.seq (.ops [(o (.build [zi, zi, zi, zu] []) 44), (n_ (.store 4 (t 2) (t 44))), (o (.mv (cb false)) 3)]) .ret) .skip)) (.seq (.ops [(o (.load true 4 (t 4)) 45), (n_ (.store 4 (t 2) (t 45))), (o (.mv (cb true)) 3)]) .ret)))))
theorem f_super_Get : Fits Tryz.prog 67 1 c_super_Get [(.cell true 4 2), (.tmp 3)] := fits_mk Tryz.func67 (by kernel_rfl) (by kernel_rfl) (by kernel_rfl)
theorem p_super_Get (F : Nat) (a0 : (List Int)) (r : S_super_Super × Bool) (h : m_super_Get F a0 = some r) : PC Tryz.prog 67 [S.one (.sl (flat e_i_u64 a0) a0.length)] (S.tup [S.agg [.v (.int .i64 r.1.xGeo.xThreads), .v (.int .i64 r.1.xGeo.xSlots), .v (.int .i64 r.1.xGeo.xThings), .v (.int .u64 r.1.xBoot)], S.one (.v (.bool r.2))]) := by
 unfold m_super_Get at h
 refine PC_go f_super_Get rfl rfl ?_
 intro C hP
 unfold c_super_Get; dsimp
 apply E_seq
 apply E_ops
 refine W1 (does_newv rfl rfl) ?_
 apply WM
 apply W_nil
 refine E_keep [0, 2] [2] ?_
 (try dsimp)
 apply E_seq
 apply E_seq
 obtain ⟨g1, h⟩ := of_gd h
 obtain ⟨g2, h⟩ := of_gd h
 obtain ⟨g3, h⟩ := of_gd h
 obtain ⟨x4, x4h, h⟩ := of_bind h
 refine E_draw [0, 1, 2, 3, 4, 5, 6, 7, 8, 9, 10, 11, 12, 13, 14, 15] ?_
 refine XQ 0 rfl rfl rfl (does_mv rfl) ?_
 refine XQ 1 rfl rfl rfl (does_len_sl rfl) ?_
 refine XQ 2 rfl rfl rfl (does_int rfl rfl rfl) ?_
 refine XQ 3 rfl rfl rfl (does_mv rfl) ?_
 apply XQ_lazy 4
 ·rfl
 ·rfl
 ·rfl
 ·rfl
 ·intro hB; (try simp only [hB, bss, ctt]); exact does_mv rfl
 apply XQ_lazy 5
 ·rfl
 ·rfl
 ·rfl
 ·rfl
 ·intro hB; (try simp only [hB, bss, ctt]); exact does_idx_sl rfl rfl (g1 hB).1 (g1 hB).2
 apply XQ_lazy 6
 ·rfl
 ·rfl
 ·rfl
 ·rfl
 ·intro hB; (try simp only [hB, bss, ctt]); exact does_load1_slF (k := 1) rfl (fun _ => rfl) (g1 hB) 0 rfl rfl
 apply XQ_lazy 7
 ·rfl
 ·rfl
 ·rfl
 ·rfl
 ·intro hB; (try simp only [hB, bss, ctt]); exact does_mv rfl
 apply XQ_lazy 8
 ·rfl
 ·rfl
 ·rfl
 ·rfl
 ·intro hB; (try simp only [hB, bss, ctt]); exact does_idx_sl rfl rfl (g2 hB).1 (g2 hB).2
 apply XQ_lazy 9
 ·rfl
 ·rfl
 ·rfl
 ·rfl
 ·intro hB; (try simp only [hB, bss, ctt]); exact does_load1_slF (k := 1) rfl (fun _ => rfl) (g2 hB) 0 rfl rfl
 apply XQ_lazy 10
 ·rfl
 ·rfl
 ·rfl
 ·rfl
 ·intro hB; (try simp only [hB, bss, ctt]); exact does_mv rfl
 apply XQ_lazy 11
 ·rfl
 ·rfl
 ·rfl
 ·rfl
 ·intro hB; (try simp only [hB, bss, ctt]); exact does_idx_sl rfl rfl (g3 hB).1 (g3 hB).2
 apply XQ_lazy 12
 ·rfl
 ·rfl
 ·rfl
 ·rfl
 ·intro hB; (try simp only [hB, bss, ctt]); exact does_load1_slF (k := 1) rfl (fun _ => rfl) (g3 hB) 0 rfl rfl
 apply XQ_lazy 13
 ·rfl
 ·rfl
 ·rfl
 ·rfl
 ·intro hB; (try simp only [hB, bss, ctt]); exact does_bu (vs := [(.int .u64 (nth a0 (1 : Int))), (.int .u64 (nth a0 (2 : Int))), (.int .u64 (nth a0 (3 : Int)))]) hP rfl (X_i (of_lz x4h (bt hB))) rfl
 apply XQ_lazy 14
 ·rfl
 ·rfl
 ·rfl
 ·rfl
 ·intro hB; (try simp only [hB, bss, ctt]); exact does_int rfl rfl rfl
 refine XQ 15 rfl rfl rfl (does_or rfl rfl rfl) ?_
 refine X_nil rfl ?_
 refine E_keep [0, 2, 20] [2] ?_
 (try dsimp)
 refine E_cond rfl (fun hc5 => ?_) (fun hc5 => ?_)
 ·replace h := of_ct h hc5
  apply E_seq
  apply E_ops
  refine WQ (does_build rfl rfl) ?_
  refine W1 (does_store rfl rfl rfl rfl rfl (Nat.le_of_ble_eq_true rfl) rfl (by decide)) ?_
  apply WM
  apply W_nil
  refine E_keep [2, 3] [2] ?_
  (try dsimp)
  apply E_ret
  cases h
  (try simp only [qt, qb, qn])
  refine fin_mk (xs := _) ⟨_, _, at_whole rfl (by simp), rfl, rfl, ⟨_, rfl, rfl⟩⟩ ?_
  rfl
 ·replace h := of_cf h hc5
  apply E_skip
  refine E_keep [0, 2] [2] ?_
  (try dsimp)
  apply E_seq
  obtain ⟨g6, h⟩ := of_gd h
  obtain ⟨g7, h⟩ := of_gd h
  obtain ⟨g8, h⟩ := of_gd h
  obtain ⟨g9, h⟩ := of_gd h
  refine E_draw [0, 1, 2, 3, 4, 5, 6, 7, 8, 9, 10, 11, 12, 13, 14, 15, 16] ?_
  refine XQ 0 rfl rfl rfl (does_mv rfl) ?_
  refine XQ 1 rfl rfl rfl (does_idx_sl rfl rfl g6.1 g6.2) ?_
  refine XQ 2 rfl rfl rfl (does_load1_slF (k := 1) rfl (fun _ => rfl) g6 0 rfl rfl) ?_
  refine XQ 3 rfl rfl rfl (does_convI rfl) ?_
  refine XQ 4 rfl rfl rfl (does_mv rfl) ?_
  refine XQ 5 rfl rfl rfl (does_idx_sl rfl rfl g7.1 g7.2) ?_
  refine XQ 6 rfl rfl rfl (does_load1_slF (k := 1) rfl (fun _ => rfl) g7 0 rfl rfl) ?_
  refine XQ 7 rfl rfl rfl (does_convI rfl) ?_
  refine XQ 8 rfl rfl rfl (does_mv rfl) ?_
  refine XQ 9 rfl rfl rfl (does_idx_sl rfl rfl g8.1 g8.2) ?_
  refine XQ 10 rfl rfl rfl (does_load1_slF (k := 1) rfl (fun _ => rfl) g8 0 rfl rfl) ?_
  refine XQ 11 rfl rfl rfl (does_convI rfl) ?_
  refine XQ 12 rfl rfl rfl (does_build rfl rfl) ?_
  refine XQ 13 rfl rfl rfl (does_mv rfl) ?_
  refine XQ 14 rfl rfl rfl (does_idx_sl rfl rfl g9.1 g9.2) ?_
  refine XQ 15 rfl rfl rfl (does_load1_slF (k := 1) rfl (fun _ => rfl) g9 0 rfl rfl) ?_
  refine XQ 16 rfl rfl rfl (does_build rfl rfl) ?_
  (try dsimp)
  refine X1 rfl (XK rfl (does_newv rfl rfl) ?_)
  refine X1 rfl (XT rfl rfl (does_store rfl rfl rfl rfl rfl (Nat.le_of_ble_eq_true rfl) rfl (by decide)) ?_)
  refine X_nil rfl ?_
  refine E_keep [0, 2, 4] [2, 4] ?_
  (try dsimp)
  apply E_seq
  apply E_seq
  apply E_ops
  refine WQ (does_loadA_ptr rfl rfl rfl rfl (by decide)) ?_
  obtain ⟨x10, x10h, h⟩ := of_bind h
  refine W1 (does_call1 hP (p_super_Put F (⟨(⟨(IntKind.i64.wrap (nth a0 (1 : Int))), (IntKind.i64.wrap (nth a0 (2 : Int))), (IntKind.i64.wrap (nth a0 (3 : Int)))⟩ : S_geo_Geo), (nth a0 (4 : Int))⟩ : S_super_Super) x10 x10h) rfl rfl rfl) ?_
  apply WM
  obtain ⟨x11, x11h, h⟩ := of_bind h
  refine W1 (does_call1 hP (p_slices_Equal_uint64 F x10 a0 x11 x11h) rfl rfl rfl) ?_
  refine WQ (does_not rfl) ?_
  apply W_nil
  refine E_keep [2, 4, 43] [2, 4] ?_
  (try dsimp)
  refine E_cond rfl (fun hc12 => ?_) (fun hc12 => ?_)
  ·replace h := of_ct h hc12
   apply E_seq
   apply E_ops
   refine WQ (does_build rfl rfl) ?_
   refine W1 (does_store rfl rfl rfl rfl rfl (Nat.le_of_ble_eq_true rfl) rfl (by decide)) ?_
   apply WM
   apply W_nil
   refine E_keep [2, 3] [2] ?_
   (try dsimp)
   apply E_ret
   cases h
   (try simp only [qt, qb, qn])
   refine fin_mk (xs := _) ⟨_, _, at_whole rfl (by simp), rfl, rfl, ⟨_, rfl, rfl⟩⟩ ?_
   rfl
  ·replace h := of_cf h hc12
   apply E_skip
   refine E_keep [2, 4] [2, 4] ?_
   (try dsimp)
   apply E_seq
   apply E_ops
   refine WQ (does_loadA_ptr rfl rfl rfl rfl (by decide)) ?_
   refine W1 (does_store rfl rfl rfl rfl rfl (Nat.le_of_ble_eq_true rfl) rfl (by decide)) ?_
   apply WM
   apply W_nil
   refine E_keep [2, 3] [2] ?_
   (try dsimp)
   apply E_ret
   cases h
   (try simp only [qt, qb, qn])
   refine fin_mk (xs := _) ⟨_, _, at_whole rfl (by simp), rfl, rfl, ⟨_, rfl, rfl⟩⟩ ?_
   rfl
/- reeve/super.Find -/
def c_super_Find : VCode := (.seq (.ops [(o (.newv [zi, zi, zi, zu]) 2), (o (.mv (cb false)) 3), (o (.mv (cb false)) 4)]) (.seq (.ops [(w 7 0), (o (.len false (t 7)) 8), (w 5 8)]) (.seq (.seq (.ops [(w 9 5), (o (.bin .lss 3 (t 9) (ci 8)) 10), (w 11 10), (g_ (.mv (t 5)) 12 11 false), (g_ (.bin .rem 3 (t 12) (ci 8)) 13 11 false), (g_ (.bin .neq 3 (t 13) (ci 0)) 14 11 false), (o (.pick (t 11) (cb true) (t 14)) 15)]) (.cond (t 15) (.seq (.ops [(o (.build [zi, zi, zi, zu] []) 16), (n_ (.store 4 (t 2) (t 16))), (o (.mv (cb false)) 3), (o (.mv (cb false)) 4)]) .ret) .skip)) (.seq (.ops [(w 18 0), (o (.slc 1 (t 18) .none (.some (ci 8)) .none) 19), (o (.call 67 [(t 19)]) 20), (w 17 20), (o (.ext 0 (t 17)) 21), (o (.ext 1 (t 17)) 22), (n_ (.store 4 (t 2) (t 21))), (w 3 22)]) (.seq (.ops [(w 23 3), (w 24 23), (g_ (.add 0 (t 2)) 25 24 true), (g_ (.load true 3 (t 25)) 26 24 true), (g_ (.call 56 [(t 26)]) 27 24 true), (g_ (.mv (t 5)) 28 24 true), (g_ (.bin .quo 3 (t 28) (ci 8)) 29 24 true), (g_ (.bin .eql 3 (t 27) (t 29)) 30 24 true), (o (.pick (t 24) (t 30) (cb false)) 31), (w 3 31)]) (.seq (.ops [(w 33 0), (w 34 5), (o (.bin .sub 3 (t 34) (ci 8)) 35), (o (.slc 1 (t 33) (.some (t 35)) .none .none) 36), (o (.call 67 [(t 36)]) 37), (w 32 37), (o (.ext 0 (t 32)) 38), (o (.ext 1 (t 32)) 39), (o (.newv [zi, zi, zi, zu]) 6), (n_ (.store 4 (t 6) (t 38))), (w 4 39)]) (.seq (.ops [(w 40 4), (w 41 40), (g_ (.add 0 (t 6)) 42 41 true), (g_ (.load true 3 (t 42)) 43 41 true), (g_ (.call 56 [(t 43)]) 44 41 true), (g_ (.mv (t 5)) 45 41 true), (g_ (.bin .quo 3 (t 45) (ci 8)) 46 41 true), (g_ (.bin .eql 3 (t 44) (t 46)) 47 41 true), (o (.pick (t 41) (t 47) (cb false)) 48), (w 4 48)]) (.seq (.block 0 (.seq (.ops [(w 50 3), (w 49 50)]) (.cond (t 49) (.seq (.ops [(o (.load true 4 (t 2)) 51), (w 52 3), (w 53 4), (n_ (.store 4 (t 2) (t 51))), (w 3 52), (w 4 53)]) .ret) (.seq (.ops [(w 55 4), (w 54 55)]) (.cond (t 54) (.seq (.ops [(o (.load true 4 (t 6)) 56), (w 57 3), (w 58 4), (n_ (.store 4 (t 2) (t 56))), (w 3 57), (w 4 58)]) .ret) .skip))))) (.seq (.ops [(o (.build [zi, zi, zi, zu] []) 59), (n_ (.store 4 (t 2) (t 59))), (o (.mv (cb false)) 3), (o (.mv (cb false)) 4)]) .ret)))))))))
theorem f_super_Find : Fits Tryz.prog 66 1 c_super_Find [(.cell true 4 2), (.tmp 3), (.tmp 4)] := fits_mk Tryz.func66 (by kernel_rfl) (by kernel_rfl) (by kernel_rfl)
theorem p_super_Find (F : Nat) (a0 : (List Int)) (r : S_super_Super × Bool × Bool) (h : m_super_Find F a0 = some r) : PC Tryz.prog 66 [S.one (.sl (flat e_i_u64 a0) a0.length)] (S.tup [S.agg [.v (.int .i64 r.1.xGeo.xThreads), .v (.int .i64 r.1.xGeo.xSlots), .v (.int .i64 r.1.xGeo.xThings), .v (.int .u64 r.1.xBoot)], S.one (.v (.bool r.2.1)), S.one (.v (.bool r.2.2))]) := by
 unfold m_super_Find at h
 refine PC_go f_super_Find rfl rfl ?_
 intro C hP
 unfold c_super_Find; dsimp
 apply E_seq
 apply E_ops
 refine W1 (does_newv rfl rfl) ?_
 apply WM
 apply WM
 apply W_nil
 refine E_keep [0, 2] [2] ?_
 (try dsimp)
 apply E_seq
 apply E_ops
 apply WM
 refine WQ (does_len_sl rfl) ?_
 apply WM
 apply W_nil
 refine E_keep [0, 2, 5] [2] ?_
 (try dsimp)
 apply E_seq
 apply E_seq
 apply E_ops
 apply WM
 refine WQ (does_int rfl rfl rfl) ?_
 apply WM
 apply W_lazy
 ·rfl
 ·intro hB; (try simp only [hB, bss, ctt]); exact does_mv rfl
 apply W_lazy
 ·rfl
 ·intro hB; (try simp only [hB, bss, ctt]); exact does_int rfl rfl rfl
 apply W_lazy
 ·rfl
 ·intro hB; (try simp only [hB, bss, ctt]); exact does_int rfl rfl rfl
 refine WQ (does_or rfl rfl rfl) ?_
 apply W_nil
 refine E_keep [0, 2, 5, 15] [2] ?_
 (try dsimp)
 refine E_cond rfl (fun hc1 => ?_) (fun hc1 => ?_)
 ·replace h := of_ct h hc1
  apply E_seq
  apply E_ops
  refine WQ (does_build rfl rfl) ?_
  refine W1 (does_store rfl rfl rfl rfl rfl (Nat.le_of_ble_eq_true rfl) rfl (by decide)) ?_
  apply WM
  apply WM
  apply W_nil
  refine E_keep [2, 3, 4] [2] ?_
  (try dsimp)
  apply E_ret
  cases h
  (try simp only [qt, qb, qn])
  refine fin_mk (xs := _) ⟨_, _, at_whole rfl (by simp), rfl, rfl, ⟨_, rfl, ⟨_, rfl, rfl⟩⟩⟩ ?_
  rfl
 ·replace h := of_cf h hc1
  apply E_skip
  refine E_keep [0, 2, 5] [2] ?_
  (try dsimp)
  apply E_seq
  apply E_ops
  apply WM
  obtain ⟨g2, h⟩ := of_gd h
  refine WQ (does_slc_slF rfl (fun _ => rfl) rfl rfl g2.1 g2.2.1 g2.2.2) ?_
  obtain ⟨x3, x3h, h⟩ := of_bind h
  refine W1 (does_call1 hP (p_super_Get F (cut a0 (0 : Int) (8 : Int)) x3 x3h) rfl rfl rfl) ?_
  apply WM
  refine WQ (does_ext rfl rfl) ?_
  refine WQ (does_ext rfl rfl) ?_
  refine W1 (does_store rfl rfl rfl rfl rfl (Nat.le_of_ble_eq_true rfl) rfl (by decide)) ?_
  apply WM
  apply W_nil
  refine E_keep [0, 2, 3, 5] [2] ?_
  (try dsimp)
  apply E_seq
  apply E_ops
  apply WM
  apply WM
  apply W_lazy
  ·rfl
  ·intro hB; (try simp only [hB, bss, ctt]); exact does_add_ptr rfl rfl
  apply W_lazy
  ·rfl
  ·intro hB; (try simp only [hB, bss, ctt]); exact does_loadA_ptr rfl rfl rfl rfl (by decide)
  obtain ⟨x4, x4h, h⟩ := of_bind h
  apply W_lazyD
  ·rfl
  ·intro hB; (try simp only [hB, bss, ctt]); exact does_call1 hP (p_geo_Rows F x3.1.xGeo x4 (of_lz x4h (bt hB))) rfl rfl rfl
  apply W_lazy
  ·rfl
  ·intro hB; (try simp only [hB, bss, ctt]); exact does_mv rfl
  apply W_lazy
  ·rfl
  ·intro hB; (try simp only [hB, bss, ctt]); exact does_int rfl rfl rfl
  apply W_lazy
  ·rfl
  ·intro hB; (try simp only [hB, bss, ctt]); exact does_int rfl rfl rfl
  refine WQ (does_and rfl rfl rfl) ?_
  apply WM
  apply W_nil
  refine E_keep [0, 2, 3, 5] [2] ?_
  (try dsimp)
  apply E_seq
  apply E_ops
  apply WM
  apply WM
  obtain ⟨g5, h⟩ := of_gd h
  refine WQ (does_sub rfl rfl g5.1 g5.2) ?_
  obtain ⟨g6, h⟩ := of_gd h
  refine WQ (does_slc_slF rfl (fun _ => rfl) rfl rfl g6.1 g6.2.1 g6.2.2) ?_
  obtain ⟨x7, x7h, h⟩ := of_bind h
  refine W1 (does_call1 hP (p_super_Get F (cut a0 (((a0.length : Nat) : Int) - (8 : Int)) ((a0.length : Nat) : Int)) x7 x7h) rfl rfl rfl) ?_
  apply WM
  refine WQ (does_ext rfl rfl) ?_
  refine WQ (does_ext rfl rfl) ?_
  refine W1 (does_newv rfl rfl) ?_
  refine W1 (does_store rfl rfl rfl rfl rfl (Nat.le_of_ble_eq_true rfl) rfl (by decide)) ?_
  apply WM
  apply W_nil
  refine E_keep [2, 3, 4, 5, 6] [2, 6] ?_
  (try dsimp)
  apply E_seq
  apply E_ops
  apply WM
  apply WM
  apply W_lazy
  ·rfl
  ·intro hB; (try simp only [hB, bss, ctt]); exact does_add_ptr rfl rfl
  apply W_lazy
  ·rfl
  ·intro hB; (try simp only [hB, bss, ctt]); exact does_loadA_ptr rfl rfl rfl rfl (by decide)
  obtain ⟨x8, x8h, h⟩ := of_bind h
  apply W_lazyD
  ·rfl
  ·intro hB; (try simp only [hB, bss, ctt]); exact does_call1 hP (p_geo_Rows F x7.1.xGeo x8 (of_lz x8h (bt hB))) rfl rfl rfl
  apply W_lazy
  ·rfl
  ·intro hB; (try simp only [hB, bss, ctt]); exact does_mv rfl
  apply W_lazy
  ·rfl
  ·intro hB; (try simp only [hB, bss, ctt]); exact does_int rfl rfl rfl
  apply W_lazy
  ·rfl
  ·intro hB; (try simp only [hB, bss, ctt]); exact does_int rfl rfl rfl
  refine WQ (does_and rfl rfl rfl) ?_
  apply WM
  apply W_nil
  refine E_keep [2, 3, 4, 6] [2, 6] ?_
  (try dsimp)
  apply E_seq
  apply E_block
  apply E_seq
  apply E_ops
  apply WM
  apply WM
  apply W_nil
  refine E_keep [2, 3, 4, 6, 49] [2, 6] ?_
  (try dsimp)
  refine E_cond rfl (fun hc9 => ?_) (fun hc9 => ?_)
  ·replace h := of_ct h hc9
   apply E_seq
   apply E_ops
   refine WQ (does_loadA_ptr rfl rfl rfl rfl (by decide)) ?_
   apply WM
   apply WM
   refine W1 (does_store rfl rfl rfl rfl rfl (Nat.le_of_ble_eq_true rfl) rfl (by decide)) ?_
   apply WM
   apply WM
   apply W_nil
   refine E_keep [2, 3, 4] [2] ?_
   (try dsimp)
   apply E_ret
   cases h
   (try simp only [qt, qb, qn])
   refine fin_mk (xs := _) ⟨_, _, at_whole rfl (by simp), rfl, rfl, ⟨_, rfl, ⟨_, rfl, rfl⟩⟩⟩ ?_
   rfl
  ·replace h := of_cf h hc9
   apply E_seq
   apply E_ops
   apply WM
   apply WM
   apply W_nil
   refine E_keep [2, 3, 4, 6, 54] [2, 6] ?_
   (try dsimp)
   refine E_cond rfl (fun hc10 => ?_) (fun hc10 => ?_)
   ·replace h := of_ct h hc10
    apply E_seq
    apply E_ops
    refine WQ (does_loadA_ptr rfl rfl rfl rfl (by decide)) ?_
    apply WM
    apply WM
    refine W1 (does_store rfl rfl rfl rfl rfl (Nat.le_of_ble_eq_true rfl) rfl (by decide)) ?_
    apply WM
    apply WM
    apply W_nil
    refine E_keep [2, 3, 4] [2] ?_
    (try dsimp)
    apply E_ret
    cases h
    (try simp only [qt, qb, qn])
    refine fin_mk (xs := _) ⟨_, _, at_whole rfl (by simp), rfl, rfl, ⟨_, rfl, ⟨_, rfl, rfl⟩⟩⟩ ?_
    rfl
   ·replace h := of_cf h hc10
    apply E_skip
    refine E_keep [2] [2] ?_
    (try dsimp)
    apply E_seq
    apply E_ops
    refine WQ (does_build rfl rfl) ?_
    refine W1 (does_store rfl rfl rfl rfl rfl (Nat.le_of_ble_eq_true rfl) rfl (by decide)) ?_
    apply WM
    apply WM
    apply W_nil
    refine E_keep [2, 3, 4] [2] ?_
    (try dsimp)
    apply E_ret
    cases h
    (try simp only [qt, qb, qn])
    refine fin_mk (xs := _) ⟨_, _, at_whole rfl (by simp), rfl, rfl, ⟨_, rfl, ⟨_, rfl, rfl⟩⟩⟩ ?_
    rfl
/- reeve/geo.Desc -/
def c_geo_Desc : VCode := (.seq (.ops [(o (.box 23 (t 0)) 2), (o (.mv (ci 0)) 4), (o (.mv (ci 0)) 5)]) (.seq (.seq (.ops [(o (.load true 3 (t 2)) 6), (o (.call 38 [(t 6)]) 7), (o (.un .not (t 7)) 8), (w 9 8), (g_ (.mv (t 1)) 10 9 false), (g_ (.add 0 (t 2)) 11 9 false), (g_ (.load false 1 (t 11)) 12 9 false), (g_ (.bin .sub 3 (t 12) (ci 1)) 13 9 false), (g_ (.call 63 [(t 10), (ci 0), (t 13)]) 14 9 false), (g_ (.un .not (t 14)) 15 9 false), (o (.pick (t 9) (cb true) (t 15)) 16)]) (.cond (t 16) (.seq (.ops [(o (.mv (ci 0)) 4), (o (.mv (ci 0)) 5)]) .ret) .skip)) (.seq (.ops [(w 17 1), (o (.bin .mul 3 (t 17) (ci 1208)) 18), (o (.bin .add 3 (ci 16) (t 18)) 19), (w 4 19), (o (.mv (ci 1208)) 5)]) .ret)))
theorem f_geo_Desc : Fits Tryz.prog 30 2 c_geo_Desc [(.tmp 4), (.tmp 5)] := fits_mk Tryz.func30 (by kernel_rfl) (by kernel_rfl) (by kernel_rfl)
theorem p_geo_Desc (F : Nat) (a0 : S_geo_Geo) (a1 : Int) (r : Int × Int) (h : m_geo_Desc F a0 a1 = some r) : PC Tryz.prog 30 [S.agg [.v (.int .i64 a0.xThreads), .v (.int .i64 a0.xSlots), .v (.int .i64 a0.xThings)], S.one (.v (.int .i64 a1))] (S.tup [S.one (.v (.int .i64 r.1)), S.one (.v (.int .i64 r.2))]) := by
 unfold m_geo_Desc at h
 refine PC_go f_geo_Desc rfl rfl ?_
 intro C hP
 unfold c_geo_Desc; dsimp
 apply E_seq
 apply E_ops
 refine W1 (does_box rfl rfl rfl rfl) ?_
 apply WM
 apply WM
 apply W_nil
 refine E_keep [1, 2] [2] ?_
 (try dsimp)
 apply E_seq
 apply E_seq
 apply E_ops
 refine WQ (does_loadA_ptr rfl rfl rfl rfl (by decide)) ?_
 obtain ⟨x1, x1h, h⟩ := of_bind h
 refine W1 (does_call1 hP (p_geo_Good F a0 x1 x1h) rfl rfl rfl) ?_
 refine WQ (does_not rfl) ?_
 apply WM
 apply W_lazy
 ·rfl
 ·intro hB; (try simp only [hB, bss, ctt]); exact does_mv rfl
 apply W_lazy
 ·rfl
 ·intro hB; (try simp only [hB, bss, ctt]); exact does_add_ptr rfl rfl
 apply W_lazy
 ·rfl
 ·intro hB; (try simp only [hB, bss, ctt]); exact does_load1_ptr rfl rfl rfl
 obtain ⟨g2, h⟩ := of_gd h
 apply W_lazy
 ·rfl
 ·intro hB; (try simp only [hB, bss, ctt]); exact does_sub rfl rfl (g2 hB).1 (g2 hB).2
 obtain ⟨x3, x3h, h⟩ := of_bind h
 apply W_lazyD
 ·rfl
 ·intro hB; (try simp only [hB, bss, ctt]); exact does_call1 hP (p_geo_in F a1 (0 : Int) (a0.xThreads - (1 : Int)) x3 (of_lz x3h (bt hB))) rfl rfl rfl
 apply W_lazy
 ·rfl
 ·intro hB; (try simp only [hB, bss, ctt]); exact does_not rfl
 refine WQ (does_or rfl rfl rfl) ?_
 apply W_nil
 refine E_keep [1, 16] [] ?_
 (try dsimp)
 refine E_cond rfl (fun hc4 => ?_) (fun hc4 => ?_)
 ·replace h := of_ct h hc4
  apply E_seq
  apply E_ops
  apply WM
  apply WM
  apply W_nil
  refine E_keep [4, 5] [] ?_
  (try dsimp)
  apply E_ret
  cases h
  (try simp only [qt, qb, qn])
  refine fin_mk (xs := _) ⟨_, rfl, ⟨_, rfl, rfl⟩⟩ ?_
  rfl
 ·replace h := of_cf h hc4
  apply E_skip
  refine E_keep [1] [] ?_
  (try dsimp)
  apply E_seq
  apply E_ops
  apply WM
  obtain ⟨g5, h⟩ := of_gd h
  refine WQ (does_mul rfl rfl g5.1 g5.2) ?_
  obtain ⟨g6, h⟩ := of_gd h
  refine WQ (does_add rfl rfl g6.1 g6.2) ?_
  apply WM
  apply WM
  apply W_nil
  refine E_keep [4, 5] [] ?_
  (try dsimp)
  apply E_ret
  cases h
  (try simp only [qt, qb, qn])
  refine fin_mk (xs := _) ⟨_, rfl, ⟨_, rfl, rfl⟩⟩ ?_
  rfl
/- reeve/opd.fields -/
def c_opd_fields : VCode := (.seq (.ops [(o (.mv cn) 0)]) (.seq (.ops [(o (.build [zi, zi] [(0, (1, (ci 0))), (1, (1, (ci 8)))]) 1), (o (.build [zi, zi] [(0, (1, (ci 8))), (1, (1, (ci 8)))]) 2), (o (.build [zi, zi] [(0, (1, (ci 16))), (1, (1, (ci 16)))]) 3), (o (.build [zi, zi] [(0, (1, (ci 32))), (1, (1, (ci 32)))]) 4), (o (.bslice 2 221 4 [zi, zi, zi, zi, zi, zi, zi, zi] [(0, (2, (t 1))), (2, (2, (t 2))), (4, (2, (t 3))), (6, (2, (t 4)))]) 5), (w 0 5)]) .ret))
theorem f_opd_fields : Fits Tryz.prog 103 0 c_opd_fields [(.tmp 0)] := fits_mk Tryz.func103 (by kernel_rfl) (by kernel_rfl) (by kernel_rfl)
theorem p_opd_fields (F : Nat)  (r : (List S_tag_Field)) (h : m_opd_fields F  = some r) : PC Tryz.prog 103 [] (S.one (.sl (flat e_S_tag_Field r) r.length)) := by
 unfold m_opd_fields at h
 refine PC_go f_opd_fields rfl rfl ?_
 intro C hP
 unfold c_opd_fields; dsimp
 apply E_seq
 apply E_ops
 apply WM
 apply W_nil
 refine E_keep [] [] ?_
 (try dsimp)
 apply E_seq
 apply E_ops
 refine WQ (does_build rfl rfl) ?_
 refine WQ (does_build rfl rfl) ?_
 refine WQ (does_build rfl rfl) ?_
 refine WQ (does_build rfl rfl) ?_
 refine W1 (does_bslice rfl rfl rfl rfl) ?_
 apply WM
 apply W_nil
 refine E_keep [0] [5] ?_
 (try dsimp)
 refine E_ghost (Le_reg (r := 5) (g' := (⟨true, flat e_S_tag_Field ([(⟨(0 : Int), (8 : Int)⟩ : S_tag_Field), (⟨(8 : Int), (8 : Int)⟩ : S_tag_Field), (⟨(16 : Int), (16 : Int)⟩ : S_tag_Field), (⟨(32 : Int), (32 : Int)⟩ : S_tag_Field)] : List S_tag_Field)⟩ : Reg)) rfl rfl).b ?_
 (try dsimp)
 obtain ⟨g1, h⟩ := of_gd h
 refine E_ghost (Le_ownlen (i := 0) _ rfl g1).b ?_
 (try dsimp)
 refine E_ghost (Le_frz (r := 5) rfl rfl).b ?_
 (try dsimp)
 apply E_ret
 cases h
 (try simp only [qt, qb, qn])
 refine fin_mk (xs := _) ⟨_, rfl, rfl⟩ ?_
 rfl
/- reeve/tag.Get -/
def c_tag_Get : VCode := (.seq (.ops [(o (.mv cn) 4)]) (.seq (.seq (.ops [(w 8 1), (o (.call 139 [(t 8)]) 9), (o (.un .not (t 9)) 10)]) (.cond (t 10) (.seq (.ops [(o (.mv cn) 4)]) .ret) .skip)) (.seq (.ops [(w 11 1), (o (.len false (t 11)) 12), (o (.mk 36 42 1 8 [zu] (ci 0) (t 12)) 13), (w 5 13)]) (.seq (.seq (.ops [(w 14 1), (o (.len false (t 14)) 15), (o (.mv (ci 0)) 16)]) (.block 0 (.loop (.seq (.ops [(o (.bin .lss 3 (t 16) (t 15)) 17)]) (.seq (.cond (t 17) .skip (.exit 0)) (.seq (.block 1 (.seq (.ops [(o (.idxS 2 (t 14) (t 16)) 18), (o (.load true 2 (t 18)) 19), (o (.newv [zi, zi]) 7), (n_ (.store 2 (t 7) (t 19)))]) (.draw [((w 20 5), []), ((w 21 0), []), ((o (.load true 2 (t 7)) 22), []), ((o (.call 140 [(t 22)]) 23), [2]), ((o (.bin .and 42 (t 21) (t 23)) 24), [1, 3]), ((o (.add 0 (t 7)) 25), []), ((o (.load false 1 (t 25)) 26), [5]), ((o (.bin .shr 42 (t 24) (t 26)) 27), [4, 6]), ((o (.bslice 1 42 1 [zu] [(0, (1, (t 27)))]) 28), [7]), ((o (.app 36 42 1 8 (t 20) (t 28)) 29), [0, 8, 3]), ((w 5 29), [9, 9, 0, 1, 2, 3, 4, 5, 6, 7, 8, 9])]))) (.ops [(o (.bin .add 3 (t 16) (ci 1)) 30), (w 16 30)]))))))) (.seq (.ops [(w 31 5), (w 4 31)]) .ret)))))
theorem f_tag_Get : Fits Tryz.prog 106 2 c_tag_Get [(.tmp 4)] := fits_mk Tryz.func106 (by kernel_rfl) (by kernel_rfl) (by kernel_rfl)
theorem p_tag_Get (F : Nat) (a0 : Int) (a1 : (List S_tag_Field)) (r : (List Int)) (h : m_tag_Get F a0 a1 = some r) : PC Tryz.prog 106 [S.one (.v (.int .u64 a0)), S.one (.sl (flat e_S_tag_Field a1) a1.length)] (S.one (.sl (flat e_i_u64 r) r.length)) := by
 unfold m_tag_Get at h
 refine PC_go f_tag_Get rfl rfl ?_
 intro C hP
 unfold c_tag_Get; dsimp
 apply E_seq
 apply E_ops
 apply WM
 apply W_nil
 refine E_keep [0, 1] [] ?_
 (try dsimp)
 apply E_seq
 apply E_seq
 apply E_ops
 apply WM
 obtain ⟨x1, x1h, h⟩ := of_bind h
 refine W1 (does_call1 hP (p_tag_Good F a1 x1 x1h) rfl rfl rfl) ?_
 refine WQ (does_not rfl) ?_
 apply W_nil
 refine E_keep [0, 1, 10] [] ?_
 (try dsimp)
 refine E_cond rfl (fun hc2 => ?_) (fun hc2 => ?_)
 ·replace h := of_ct h hc2
  apply E_seq
  apply E_ops
  apply WM
  apply W_nil
  refine E_keep [4] [] ?_
  (try dsimp)
  refine E_ghost (Le_nilS (i := 4) rfl).b ?_
  (try dsimp)
  apply E_ret
  cases h
  (try simp only [qt, qb, qn])
  refine fin_mk (xs := _) ⟨_, rfl, rfl⟩ ?_
  rfl
 ·replace h := of_cf h hc2
  apply E_skip
  refine E_keep [0, 1] [] ?_
  (try dsimp)
  apply E_seq
  apply E_ops
  apply WM
  refine WQ (does_len_sl rfl) ?_
  obtain ⟨g3, h⟩ := of_gd h
  refine W1 (does_mkF (e := e_i_u64) (0 : Int) rfl rfl rfl (fun _ => rfl) g3.1 g3.2.1 g3.2.2.1 g3.2.2.2 rfl) ?_
  apply WM
  apply W_nil
  refine E_keep [0, 1, 5] [13] ?_
  (try dsimp)
  obtain ⟨k5, k5d, h⟩ := of_jn h
  refine E_seqJ (α := (List Int)) (fun (i : (List Int)) => (⟨[(5, S.one (.own 13 0 i.length (some (1, 42))))], [(13, (⟨true, flat e_i_u64 i⟩ : Reg))]⟩ : St)) (fun i => k5 i = some r) (fun i h => ?_) ?_
  ·let iv := i; change k5 i = some r at h; generalize i = v4 at h ⊢
   rw [k5d] at h; dsimp only at h
   (try dsimp)
   apply E_seq
   apply E_ops
   apply WM
   apply WM
   apply W_nil
   refine E_keep [4] [13] ?_
   (try dsimp)
   refine E_ghost (Le_frz (r := 13) rfl rfl).b ?_
   (try dsimp)
   apply E_ret
   cases h
   (try simp only [qt, qb, qn])
   refine fin_mk (xs := _) ⟨_, rfl, rfl⟩ ?_
   rfl
  ·
   skip
   apply E_seq
   apply E_ops
   apply WM
   refine WQ (does_len_sl rfl) ?_
   apply WM
   apply W_nil
   refine E_keep [0, 5, 14, 15, 16] [13] ?_
   (try dsimp)
   apply E_block
   (try dsimp)
   refine E_loopB (α := Int × (List Int)) (fun (i : Int × (List Int)) => (⟨[(0, S.one (.v (.int .u64 a0))), (5, S.one (.own 13 0 i.2.length (some (1, 42)))), (14, S.one (.sl (flat e_S_tag_Field a1) a1.length)), (15, S.one (.v (.int .i64 ((a1.length : Nat) : Int)))), (16, S.one (.v (.int .i64 i.1)))], [(13, (⟨true, flat e_i_u64 i.2⟩ : Reg))]⟩ : St)) (fun n i => m_tag_Get_l0 F a0 a1 k5 n i.1 i.2 = some r) F ((0 : Int), (List.replicate (0 : Int).toNat (0 : Int))) h ?_ (fun n i h => ?_)
   ·
    exact (Le.b (le_mk ⟨rfl, rfl, rfl, rfl, rfl, trivial⟩ ⟨rfl, trivial⟩))
   obtain ⟨v20, v21⟩ := i; dsimp only at h
   cases n with
   | zero => cases h
   | succ n22 =>
    unfold m_tag_Get_l0 at h
    (try dsimp)
    apply E_seq
    apply E_ops
    refine WQ (does_int rfl rfl rfl) ?_
    apply W_nil
    (try dsimp)
    apply E_seq
    refine E_cond rfl (fun hc23 => ?_) (fun hc23 => ?_)
    ·replace h := of_ct h hc23
     apply E_skip
     refine E_keep [0, 5, 14, 15, 16] [13] ?_
     (try dsimp)
     apply E_seq
     apply E_block
     apply E_seq
     apply E_ops
     obtain ⟨g24, h⟩ := of_gd h
     refine WQ (does_idx_sl rfl rfl g24.1 g24.2) ?_
     refine WQ (does_loadA_slF (k := 2) rfl (fun _ => rfl) g24 0 rfl rfl rfl) ?_
     refine W1 (does_newv rfl rfl) ?_
     refine W1 (does_store rfl rfl rfl rfl rfl (Nat.le_of_ble_eq_true rfl) rfl (by decide)) ?_
     apply W_nil
     refine E_keep [0, 5, 7, 14, 15, 16] [7, 13] ?_
     (try dsimp)
     obtain ⟨x25, x25h, h⟩ := of_bind h
     obtain ⟨g26, h⟩ := of_gd h
     obtain ⟨g27, h⟩ := of_gd h
     refine E_draw [0, 1, 2, 4, 5, 6, 7] ?_
     refine XQ 0 rfl rfl rfl (does_mv rfl) ?_
     refine XQ 1 rfl rfl rfl (does_mv rfl) ?_
     refine XQ 2 rfl rfl rfl (does_loadA_ptr rfl rfl rfl rfl (by decide)) ?_
     refine XQ 5 rfl rfl rfl (does_add_ptr rfl rfl) ?_
     refine XQ 6 rfl rfl rfl (does_load1_ptr rfl rfl rfl) ?_
     refine X1 rfl (XK rfl (does_call1 hP (p_tag_Field_mask F (nth a1 v20) x25 x25h) rfl rfl rfl) ?_)
     refine XQ 4 rfl rfl rfl (does_int rfl rfl rfl) ?_
     refine XQ 7 rfl rfl rfl (does_shr rfl rfl g26) ?_
     refine X1 rfl (XK rfl (does_bslice rfl rfl rfl rfl) ?_)
     refine X1 rfl (XT rfl rfl (does_appF (e := e_i_u64) rfl rfl (fun _ => rfl) (fun _ => rfl) rfl (Src.lit (e := e_i_u64) ([(ishr .u64 (iand .u64 a0 x25) ((nth a1 v20).xFrom))] : List Int) rfl (fun _ => rfl) rfl rfl) g27 rfl) ?_)
     refine X1 rfl (XT rfl rfl ((does_mv rfl).does) ?_)
     refine X_nil rfl ?_
     refine E_keep [0, 5, 14, 15, 16] [13] ?_
     (try dsimp)
     apply E_ops
     obtain ⟨g28, h⟩ := of_gd h
     refine WQ (does_add rfl rfl g28.1 g28.2) ?_
     apply WM
     apply W_nil
     refine ⟨n22, ((v20 + (1 : Int)), (v21 ++ ([(ishr .u64 (iand .u64 a0 x25) ((nth a1 v20).xFrom))] : List Int))), Nat.lt_succ_self _, h, ?_⟩
     exact (Le.b (le_mk ⟨rfl, rfl, rfl, rfl, rfl, trivial⟩ ⟨rfl, trivial⟩))
    ·replace h := of_cf h hc23
     apply E_exit
     refine ⟨v21, h, ?_⟩
     exact (Le.b (le_mk ⟨rfl, trivial⟩ ⟨rfl, trivial⟩))
/- reeve/wset.Good -/
def c_wset_Good : VCode := (.seq (.ops [(o (.box 23 (t 0)) 2), (o (.mv (cb false)) 4)]) (.seq (.seq (.ops [(o (.load true 3 (t 2)) 8), (o (.call 38 [(t 8)]) 9), (o (.un .not (t 9)) 10), (w 11 10), (g_ (.mv (t 1)) 12 11 false), (g_ (.len false (t 12)) 13 11 false), (g_ (.bin .gtr 3 (t 13) (ci 600)) 14 11 false), (o (.pick (t 11) (cb true) (t 14)) 15)]) (.cond (t 15) (.seq (.ops [(o (.mv (cb false)) 4)]) .ret) .skip)) (.seq (.ops [(o (.load true 3 (t 2)) 16), (o (.call 59 [(t 16), (ci 0)]) 17), (o (.bin .sub 3 (t 17) (ci 1)) 18), (w 5 18)]) (.seq (.seq (.ops [(w 19 1), (o (.len false (t 19)) 20), (o (.mv (ci 0)) 21)]) (.block 0 (.loop (.seq (.ops [(o (.bin .lss 3 (t 21) (t 20)) 22)]) (.seq (.cond (t 22) .skip (.exit 0)) (.seq (.block 1 (.seq (.ops [(o (.idxS 2 (t 19) (t 21)) 23), (o (.load true 2 (t 23)) 24), (o (.newv [zi, zu]) 7), (n_ (.store 2 (t 7) (t 24)))]) (.seq (.seq (.draw [((o (.add 0 (t 7)) 25), []), ((o (.load false 1 (t 25)) 26), [0]), ((w 27 5), []), ((o (.bin .leq 3 (t 26) (t 27)) 28), [1, 2]), ((w 29 28), [3]), ((g_ (.add 0 (t 7)) 30 29 false), [4]), ((g_ (.load false 1 (t 30)) 31 29 false), [5, 4]), ((g_ (.load true 3 (t 2)) 32 29 false), [4]), ((g_ (.call 58 [(t 32)]) 33 29 false), [7, 4, 4]), ((g_ (.bin .geq 3 (t 31) (t 33)) 34 29 false), [6, 8, 4]), ((o (.pick (t 29) (cb true) (t 34)) 35), [4, 9])]) (.cond (t 35) (.seq (.ops [(o (.mv (cb false)) 4)]) .ret) .skip)) (.ops [(o (.add 0 (t 7)) 36), (o (.load false 1 (t 36)) 37), (w 5 37)])))) (.ops [(o (.bin .add 3 (t 21) (ci 1)) 38), (w 21 38)]))))))) (.seq (.ops [(o (.mv (cb true)) 4)]) .ret)))))
theorem f_wset_Good : Fits Tryz.prog 102 2 c_wset_Good [(.tmp 4)] := fits_mk Tryz.func102 (by kernel_rfl) (by kernel_rfl) (by kernel_rfl)
theorem p_wset_Good (F : Nat) (a0 : S_geo_Geo) (a1 : (List S_wset_Write)) (r : Bool) (h : m_wset_Good F a0 a1 = some r) : PC Tryz.prog 102 [S.agg [.v (.int .i64 a0.xThreads), .v (.int .i64 a0.xSlots), .v (.int .i64 a0.xThings)], S.one (.sl (flat e_S_wset_Write a1) a1.length)] (S.one (.v (.bool r))) := by
 unfold m_wset_Good at h
 refine PC_go f_wset_Good rfl rfl ?_
 intro C hP
 unfold c_wset_Good; dsimp
 apply E_seq
 apply E_ops
 refine W1 (does_box rfl rfl rfl rfl) ?_
 apply WM
 apply W_nil
 refine E_keep [1, 2] [2] ?_
 (try dsimp)
 apply E_seq
 apply E_seq
 apply E_ops
 refine WQ (does_loadA_ptr rfl rfl rfl rfl (by decide)) ?_
 obtain ⟨x1, x1h, h⟩ := of_bind h
 refine W1 (does_call1 hP (p_geo_Good F a0 x1 x1h) rfl rfl rfl) ?_
 refine WQ (does_not rfl) ?_
 apply WM
 apply W_lazy
 ·rfl
 ·intro hB; (try simp only [hB, bss, ctt]); exact does_mv rfl
 apply W_lazy
 ·rfl
 ·intro hB; (try simp only [hB, bss, ctt]); exact does_len_sl rfl
 apply W_lazy
 ·rfl
 ·intro hB; (try simp only [hB, bss, ctt]); exact does_int rfl rfl rfl
 refine WQ (does_or rfl rfl rfl) ?_
 apply W_nil
 refine E_keep [1, 2, 15] [2] ?_
 (try dsimp)
 refine E_cond rfl (fun hc2 => ?_) (fun hc2 => ?_)
 ·replace h := of_ct h hc2
  apply E_seq
  apply E_ops
  apply WM
  apply W_nil
  refine E_keep [4] [] ?_
  (try dsimp)
  apply E_ret
  cases h
  (try simp only [qt, qb, qn])
  refine fin_mk (xs := _) ⟨_, rfl, rfl⟩ ?_
  rfl
 ·replace h := of_cf h hc2
  apply E_skip
  refine E_keep [1, 2] [2] ?_
  (try dsimp)
  apply E_seq
  apply E_ops
  refine WQ (does_loadA_ptr rfl rfl rfl rfl (by decide)) ?_
  obtain ⟨x3, x3h, h⟩ := of_bind h
  refine W1 (does_call1 hP (p_geo_Slot F a0 (0 : Int) x3 x3h) rfl rfl rfl) ?_
  obtain ⟨g4, h⟩ := of_gd h
  refine WQ (does_sub rfl rfl g4.1 g4.2) ?_
  apply WM
  apply W_nil
  refine E_keep [1, 2, 5] [2] ?_
  (try dsimp)
  obtain ⟨k5, k5d, h⟩ := of_jn h
  refine E_seqJ (α := Unit) (fun (i : Unit) => (⟨[], []⟩ : St)) (fun i => k5 () = some r) (fun i h => ?_) ?_
  ·skip
   rw [k5d] at h; dsimp only at h
   (try dsimp)
   apply E_seq
   apply E_ops
   apply WM
   apply W_nil
   (try dsimp)
   apply E_ret
   cases h
   (try simp only [qt, qb, qn])
   refine fin_mk (xs := _) ⟨_, rfl, rfl⟩ ?_
   rfl
  ·
   skip
   apply E_seq
   apply E_ops
   apply WM
   refine WQ (does_len_sl rfl) ?_
   apply WM
   apply W_nil
   refine E_keep [2, 5, 19, 20, 21] [2] ?_
   (try dsimp)
   apply E_block
   (try dsimp)
   refine E_loopB (α := Int × Int) (fun (i : Int × Int) => (⟨[(2, S.one (.ptr 2 0)), (5, S.one (.v (.int .i64 i.1))), (19, S.one (.sl (flat e_S_wset_Write a1) a1.length)), (20, S.one (.v (.int .i64 ((a1.length : Nat) : Int)))), (21, S.one (.v (.int .i64 i.2)))], [(2, (⟨true, [.v (.int .i64 a0.xThreads), .v (.int .i64 a0.xSlots), .v (.int .i64 a0.xThings)]⟩ : Reg))]⟩ : St)) (fun n i => m_wset_Good_l0 F a0 a1 k5 n i.1 i.2 = some r) F ((x3 - (1 : Int)), (0 : Int)) h ?_ (fun n i h => ?_)
   ·
    exact (Le.b (le_mk ⟨rfl, rfl, rfl, rfl, rfl, trivial⟩ ⟨rfl, trivial⟩))
   obtain ⟨v18, v19⟩ := i; dsimp only at h
   cases n with
   | zero => cases h
   | succ n20 =>
    unfold m_wset_Good_l0 at h
    (try dsimp)
    apply E_seq
    apply E_ops
    refine WQ (does_int rfl rfl rfl) ?_
    apply W_nil
    (try dsimp)
    apply E_seq
    refine E_cond rfl (fun hc21 => ?_) (fun hc21 => ?_)
    ·replace h := of_ct h hc21
     apply E_skip
     refine E_keep [2, 5, 19, 20, 21] [2] ?_
     (try dsimp)
     apply E_seq
     apply E_block
     apply E_seq
     apply E_ops
     obtain ⟨g22, h⟩ := of_gd h
     refine WQ (does_idx_sl rfl rfl g22.1 g22.2) ?_
     refine WQ (does_loadA_slF (k := 2) rfl (fun _ => rfl) g22 0 rfl rfl rfl) ?_
     refine W1 (does_newv rfl rfl) ?_
     refine W1 (does_store rfl rfl rfl rfl rfl (Nat.le_of_ble_eq_true rfl) rfl (by decide)) ?_
     apply W_nil
     refine E_keep [2, 5, 7, 19, 20, 21] [2, 7] ?_
     (try dsimp)
     apply E_seq
     apply E_seq
     obtain ⟨x23, x23h, h⟩ := of_bind h
     refine E_draw [0, 1, 2, 3, 4, 5, 6, 7, 9, 10] ?_
     refine XQ 0 rfl rfl rfl (does_add_ptr rfl rfl) ?_
     refine XQ 1 rfl rfl rfl (does_load1_ptr rfl rfl rfl) ?_
     refine XQ 2 rfl rfl rfl (does_mv rfl) ?_
     refine XQ 3 rfl rfl rfl (does_int rfl rfl rfl) ?_
     refine XQ 4 rfl rfl rfl (does_mv rfl) ?_
     apply XQ_lazy 5
     ·rfl
     ·rfl
     ·rfl
     ·rfl
     ·intro hB; (try simp only [hB, bss, ctt]); exact does_add_ptr rfl rfl
     apply XQ_lazy 6
     ·rfl
     ·rfl
     ·rfl
     ·rfl
     ·intro hB; (try simp only [hB, bss, ctt]); exact does_load1_ptr rfl rfl rfl
     apply XQ_lazy 7
     ·rfl
     ·rfl
     ·rfl
     ·rfl
     ·intro hB; (try simp only [hB, bss, ctt]); exact does_loadA_ptr rfl rfl rfl rfl (by decide)
     (try dsimp)
     refine X1 rfl ?_
     apply XK_lazy
     ·rfl
     ·rfl
     ·intro hB; (try simp only [hB, bss, ctt]); exact does_call1 hP (p_geo_Copy F a0 x23 (of_lz x23h (bt hB))) rfl rfl rfl
     apply XQ_lazy 9
     ·rfl
     ·rfl
     ·rfl
     ·rfl
     ·intro hB; (try simp only [hB, bss, ctt]); exact does_int rfl rfl rfl
     refine XQ 10 rfl rfl rfl (does_or rfl rfl rfl) ?_
     refine X_nil rfl ?_
     refine E_keep [2, 7, 19, 20, 21, 35] [2, 7] ?_
     (try dsimp)
     refine E_cond rfl (fun hc24 => ?_) (fun hc24 => ?_)
     ·replace h := of_ct h hc24
      apply E_seq
      apply E_ops
      apply WM
      apply W_nil
      refine E_keep [4] [] ?_
      (try dsimp)
      apply E_ret
      cases h
      (try simp only [qt, qb, qn])
      refine fin_mk (xs := _) ⟨_, rfl, rfl⟩ ?_
      rfl
     ·replace h := of_cf h hc24
      apply E_skip
      refine E_keep [2, 7, 19, 20, 21] [2, 7] ?_
      (try dsimp)
      apply E_ops
      refine WQ (does_add_ptr rfl rfl) ?_
      refine WQ (does_load1_ptr rfl rfl rfl) ?_
      apply WM
      apply W_nil
      refine E_keep [2, 5, 19, 20, 21] [2] ?_
      (try dsimp)
      apply E_ops
      obtain ⟨g25, h⟩ := of_gd h
      refine WQ (does_add rfl rfl g25.1 g25.2) ?_
      apply WM
      apply W_nil
      refine ⟨n20, ((nth a1 v19).xAt, (v19 + (1 : Int))), Nat.lt_succ_self _, h, ?_⟩
      exact (Le.b (le_mk ⟨rfl, rfl, rfl, rfl, rfl, trivial⟩ ⟨rfl, trivial⟩))
    ·replace h := of_cf h hc21
     apply E_exit
     refine ⟨(), h, ?_⟩
     exact (Le.b (le_mk trivial trivial))
/- reeve/opd.Good -/
def c_opd_Good : VCode := (.seq (.ops [(o (.box 23 (t 0)) 2), (o (.box 57 (t 1)) 3), (o (.mv (cb false)) 4)]) (.seq (.ops [(o (.add 6 (t 3)) 7), (o (.load true 3 (t 7)) 8), (o (.build [zi, zu, zi] []) 9), (o (.eqA false 54 (t 8) (t 9)) 10), (w 11 10), (g_ (.add 9 (t 3)) 12 11 true), (g_ (.load false 1 (t 12)) 13 11 true), (g_ (.len false (t 13)) 14 11 true), (g_ (.bin .eql 3 (t 14) (ci 0)) 15 11 true), (o (.pick (t 11) (t 15) (cb false)) 16), (w 5 16)]) (.seq (.ops [(o (.add 6 (t 3)) 17), (o (.load true 3 (t 17)) 18), (o (.newv [zi, zu, zi]) 6), (n_ (.store 3 (t 6) (t 18)))]) (.seq (.seq (.ops [(o (.load true 3 (t 2)) 19), (o (.add 9 (t 3)) 20), (o (.load false 1 (t 20)) 21), (o (.call 102 [(t 19), (t 21)]) 22), (o (.un .not (t 22)) 23), (w 24 23), (g_ (.add 0 (t 6)) 25 24 false), (g_ (.load false 1 (t 25)) 26 24 false), (g_ (.bin .lss 33 (t 26) (ci 0)) 27 24 false), (o (.pick (t 24) (cb true) (t 27)) 28), (w 29 28), (g_ (.add 0 (t 6)) 30 29 false), (g_ (.load false 1 (t 30)) 31 29 false), (g_ (.bin .gtr 33 (t 31) (ci 255)) 32 29 false), (o (.pick (t 29) (cb true) (t 32)) 33), (w 34 33), (g_ (.add 2 (t 6)) 35 34 false), (g_ (.load false 1 (t 35)) 36 34 false), (g_ (.bin .lss 3 (t 36) (ci 0)) 37 34 false), (o (.pick (t 34) (cb true) (t 37)) 38), (w 39 38), (g_ (.add 2 (t 6)) 40 39 false), (g_ (.load false 1 (t 40)) 41 39 false), (g_ (.bin .gtr 3 (t 41) (ci 2147483647)) 42 39 false), (o (.pick (t 39) (cb true) (t 42)) 43)]) (.cond (t 43) (.seq (.ops [(o (.mv (cb false)) 4)]) .ret) .skip)) (.seq (.seq (.ops [(o (.add 0 (t 3)) 44), (o (.load false 1 (t 44)) 45)]) (.block 0 (.seq (.ops [(o (.bin .eql 3 (t 45) (ci 0)) 47), (w 46 47)]) (.cond (t 46) (.seq (.ops [(w 48 5), (w 49 48), (g_ (.add 1 (t 3)) 50 49 true), (g_ (.load false 1 (t 50)) 51 49 true), (g_ (.bin .eql 42 (t 51) (.const (.int .u64 0))) 52 49 true), (o (.pick (t 49) (t 52) (cb false)) 53), (w 54 53), (g_ (.add 2 (t 3)) 55 54 true), (g_ (.load true 4 (t 55)) 56 54 true), (g_ (.build [zu, zu, zu, zu] []) 57 54 true), (g_ (.eqA false 52 (t 56) (t 57)) 58 54 true), (o (.pick (t 54) (t 58) (cb false)) 59), (w 4 59)]) .ret) (.seq (.seq (.ops [(o (.bin .eql 3 (t 45) (ci 1)) 61), (w 60 61)]) (.cond (t 60) .skip (.ops [(o (.bin .eql 3 (t 45) (ci 4)) 62), (w 60 62)]))) (.cond (t 60) (.seq (.ops [(w 63 5), (w 64 63), (g_ (.add 1 (t 3)) 65 64 true), (g_ (.load false 1 (t 65)) 66 64 true), (g_ (.bin .geq 42 (t 66) (.const (.int .u64 1))) 67 64 true), (o (.pick (t 64) (t 67) (cb false)) 68), (w 69 68), (g_ (.add 1 (t 3)) 70 69 true), (g_ (.load false 1 (t 70)) 71 69 true), (g_ (.bin .leq 42 (t 71) (.const (.int .u64 4294967295))) 72 69 true), (o (.pick (t 69) (t 72) (cb false)) 73), (w 4 73)]) .ret) (.seq (.seq (.ops [(o (.bin .eql 3 (t 45) (ci 2)) 75), (w 74 75)]) (.cond (t 74) .skip (.ops [(o (.bin .eql 3 (t 45) (ci 3)) 76), (w 74 76)]))) (.cond (t 74) (.seq (.ops [(o (.add 1 (t 3)) 77), (o (.load false 1 (t 77)) 78), (o (.bin .geq 42 (t 78) (.const (.int .u64 1))) 79), (w 80 79), (g_ (.add 1 (t 3)) 81 80 true), (g_ (.load false 1 (t 81)) 82 80 true), (g_ (.bin .leq 42 (t 82) (.const (.int .u64 4294967295))) 83 80 true), (o (.pick (t 80) (t 83) (cb false)) 84), (w 4 84)]) .ret) .skip)))))))) (.seq (.ops [(o (.mv (cb false)) 4)]) .ret))))))
theorem f_opd_Good : Fits Tryz.prog 64 2 c_opd_Good [(.tmp 4)] := fits_mk Tryz.func64 (by kernel_rfl) (by kernel_rfl) (by kernel_rfl)
theorem p_opd_Good (F : Nat) (a0 : S_geo_Geo) (a1 : S_opd_Desc) (r : Bool) (h : m_opd_Good F a0 a1 = some r) : PC Tryz.prog 64 [S.agg [.v (.int .i64 a0.xThreads), .v (.int .i64 a0.xSlots), .v (.int .i64 a0.xThings)], S.agg [.v (.int .i64 a1.xStatus), .v (.int .u64 a1.xSeq), .v (.int .u64 a1.xL.c0), .v (.int .u64 a1.xL.c1), .v (.int .u64 a1.xL.c2), .v (.int .u64 a1.xL.c3), .v (.int .i64 a1.xReply.xErr), .v (.int .u64 a1.xReply.xW), .v (.int .i64 a1.xReply.xN), .sl (flat e_S_wset_Write a1.xW) a1.xW.length]] (S.one (.v (.bool r))) := by
 unfold m_opd_Good at h
 refine PC_go f_opd_Good rfl rfl ?_
 intro C hP
 unfold c_opd_Good; dsimp
 apply E_seq
 apply E_ops
 refine W1 (does_box rfl rfl rfl rfl) ?_
 refine W1 (does_box rfl rfl rfl rfl) ?_
 apply WM
 apply W_nil
 refine E_keep [2, 3] [2, 3] ?_
 (try dsimp)
 apply E_seq
 apply E_ops
 refine WQ (does_add_ptr rfl rfl) ?_
 refine WQ (does_loadA_ptr rfl rfl rfl rfl (by decide)) ?_
 refine WQ (does_build rfl rfl) ?_
 refine WQ (does_eqA hP eqok54 rfl rfl rfl rfl ⟨rfl, ⟨rfl, ⟨rfl, trivial⟩⟩⟩) ?_
 apply WM
 apply W_lazy
 ·rfl
 ·intro hB; (try simp only [hB, bss, ctt]); exact does_add_ptr rfl rfl
 apply W_lazy
 ·rfl
 ·intro hB; (try simp only [hB, bss, ctt]); exact does_load1_ptr rfl rfl rfl
 apply W_lazy
 ·rfl
 ·intro hB; (try simp only [hB, bss, ctt]); exact does_len_sl rfl
 apply W_lazy
 ·rfl
 ·intro hB; (try simp only [hB, bss, ctt]); exact does_int rfl rfl rfl
 refine WQ (does_and rfl rfl rfl) ?_
 apply WM
 apply W_nil
 refine E_keep [2, 3, 5] [2, 3] ?_
 (try dsimp)
 apply E_seq
 apply E_ops
 refine WQ (does_add_ptr rfl rfl) ?_
 refine WQ (does_loadA_ptr rfl rfl rfl rfl (by decide)) ?_
 refine W1 (does_newv rfl rfl) ?_
 refine W1 (does_store rfl rfl rfl rfl rfl (Nat.le_of_ble_eq_true rfl) rfl (by decide)) ?_
 apply W_nil
 refine E_keep [2, 3, 5, 6] [2, 3, 6] ?_
 (try dsimp)
 apply E_seq
 apply E_seq
 apply E_ops
 refine WQ (does_loadA_ptr rfl rfl rfl rfl (by decide)) ?_
 refine WQ (does_add_ptr rfl rfl) ?_
 refine WQ (does_load1_ptr rfl rfl rfl) ?_
 obtain ⟨x1, x1h, h⟩ := of_bind h
 refine W1 (does_call1 hP (p_wset_Good F a0 a1.xW x1 x1h) rfl rfl rfl) ?_
 refine WQ (does_not rfl) ?_
 apply WM
 apply W_lazy
 ·rfl
 ·intro hB; (try simp only [hB, bss, ctt]); exact does_add_ptr rfl rfl
 apply W_lazy
 ·rfl
 ·intro hB; (try simp only [hB, bss, ctt]); exact does_load1_ptr rfl rfl rfl
 apply W_lazy
 ·rfl
 ·intro hB; (try simp only [hB, bss, ctt]); exact does_int rfl rfl rfl
 refine WQ (does_or rfl rfl rfl) ?_
 apply WM
 apply W_lazy
 ·rfl
 ·intro hB; (try simp only [hB, bss, ctt]); exact does_add_ptr rfl rfl
 apply W_lazy
 ·rfl
 ·intro hB; (try simp only [hB, bss, ctt]); exact does_load1_ptr rfl rfl rfl
 apply W_lazy
 ·rfl
 ·intro hB; (try simp only [hB, bss, ctt]); exact does_int rfl rfl rfl
 refine WQ (does_or rfl rfl rfl) ?_
 apply WM
 apply W_lazy
 ·rfl
 ·intro hB; (try simp only [hB, bss, ctt]); exact does_add_ptr rfl rfl
 apply W_lazy
 ·rfl
 ·intro hB; (try simp only [hB, bss, ctt]); exact does_load1_ptr rfl rfl rfl
 apply W_lazy
 ·rfl
 ·intro hB; (try simp only [hB, bss, ctt]); exact does_int rfl rfl rfl
 refine WQ (does_or rfl rfl rfl) ?_
 apply WM
 apply W_lazy
 ·rfl
 ·intro hB; (try simp only [hB, bss, ctt]); exact does_add_ptr rfl rfl
 apply W_lazy
 ·rfl
 ·intro hB; (try simp only [hB, bss, ctt]); exact does_load1_ptr rfl rfl rfl
 apply W_lazy
 ·rfl
 ·intro hB; (try simp only [hB, bss, ctt]); exact does_int rfl rfl rfl
 refine WQ (does_or rfl rfl rfl) ?_
 apply W_nil
 refine E_keep [3, 5, 43] [3] ?_
 (try dsimp)
 refine E_cond rfl (fun hc2 => ?_) (fun hc2 => ?_)
 ·replace h := of_ct h hc2
  apply E_seq
  apply E_ops
  apply WM
  apply W_nil
  refine E_keep [4] [] ?_
  (try dsimp)
  apply E_ret
  cases h
  (try simp only [qt, qb, qn])
  refine fin_mk (xs := _) ⟨_, rfl, rfl⟩ ?_
  rfl
 ·replace h := of_cf h hc2
  apply E_skip
  refine E_keep [3, 5] [3] ?_
  (try dsimp)
  apply E_seq
  apply E_seq
  apply E_ops
  refine WQ (does_add_ptr rfl rfl) ?_
  refine WQ (does_load1_ptr rfl rfl rfl) ?_
  apply W_nil
  refine E_keep [3, 5, 45] [3] ?_
  (try dsimp)
  apply E_block
  apply E_seq
  apply E_ops
  refine WQ (does_int rfl rfl rfl) ?_
  apply WM
  apply W_nil
  refine E_keep [3, 5, 45, 46] [3] ?_
  (try dsimp)
  refine E_cond rfl (fun hc3 => ?_) (fun hc3 => ?_)
  ·replace h := of_ct h hc3
   apply E_seq
   apply E_ops
   apply WM
   apply WM
   apply W_lazy
   ·rfl
   ·intro hB; (try simp only [hB, bss, ctt]); exact does_add_ptr rfl rfl
   apply W_lazy
   ·rfl
   ·intro hB; (try simp only [hB, bss, ctt]); exact does_load1_ptr rfl rfl rfl
   apply W_lazy
   ·rfl
   ·intro hB; (try simp only [hB, bss, ctt]); exact does_int rfl rfl rfl
   refine WQ (does_and rfl rfl rfl) ?_
   apply WM
   apply W_lazy
   ·rfl
   ·intro hB; (try simp only [hB, bss, ctt]); exact does_add_ptr rfl rfl
   apply W_lazy
   ·rfl
   ·intro hB; (try simp only [hB, bss, ctt]); exact does_loadA_ptr rfl rfl rfl rfl (by decide)
   apply W_lazy
   ·rfl
   ·intro hB; (try simp only [hB, bss, ctt]); exact does_build rfl rfl
   apply W_lazy
   ·rfl
   ·intro hB; (try simp only [hB, bss, ctt]); exact does_eqA hP eqok52 rfl rfl rfl rfl ⟨rfl, ⟨rfl, ⟨rfl, ⟨rfl, trivial⟩⟩⟩⟩
   refine WQ (does_and rfl rfl rfl) ?_
   apply WM
   apply W_nil
   refine E_keep [4] [] ?_
   (try dsimp)
   apply E_ret
   cases h
   (try simp only [qt, qb, qn])
   refine fin_mk (xs := _) ⟨_, rfl, rfl⟩ ?_
   rfl
  ·replace h := of_cf h hc3
   obtain ⟨k5, k5d, h⟩ := of_jn h
   refine E_seqJ (α := Bool) (fun (i : Bool) => (⟨[(3, S.one (.ptr 3 0)), (5, S.one (.v (.bool (((a1.xReply.xErr == (0 : Int)) && ((a1.xReply.xW == (0 : Int)) && ((a1.xReply.xN == (0 : Int)) && true))) && (((a1.xW.length : Nat) : Int) == (0 : Int)))))), (45, S.one (.v (.int .i64 a1.xStatus))), (60, S.one (.v (.bool i)))], [(3, (⟨true, [.v (.int .i64 a1.xStatus), .v (.int .u64 a1.xSeq), .v (.int .u64 a1.xL.c0), .v (.int .u64 a1.xL.c1), .v (.int .u64 a1.xL.c2), .v (.int .u64 a1.xL.c3), .v (.int .i64 a1.xReply.xErr), .v (.int .u64 a1.xReply.xW), .v (.int .i64 a1.xReply.xN), .sl (flat e_S_wset_Write a1.xW) a1.xW.length]⟩ : Reg))]⟩ : St)) (fun i => k5 i = some r) (fun i h => ?_) ?_
   ·let iv := i; change k5 i = some r at h; generalize i = v4 at h ⊢
    rw [k5d] at h; dsimp only at h
    (try dsimp)
    refine E_cond rfl (fun hc6 => ?_) (fun hc6 => ?_)
    ·replace h := of_ct h hc6
     apply E_seq
     apply E_ops
     apply WM
     apply WM
     apply W_lazy
     ·rfl
     ·intro hB; (try simp only [hB, bss, ctt]); exact does_add_ptr rfl rfl
     apply W_lazy
     ·rfl
     ·intro hB; (try simp only [hB, bss, ctt]); exact does_load1_ptr rfl rfl rfl
     apply W_lazy
     ·rfl
     ·intro hB; (try simp only [hB, bss, ctt]); exact does_int rfl rfl rfl
     refine WQ (does_and rfl rfl rfl) ?_
     apply WM
     apply W_lazy
     ·rfl
     ·intro hB; (try simp only [hB, bss, ctt]); exact does_add_ptr rfl rfl
     apply W_lazy
     ·rfl
     ·intro hB; (try simp only [hB, bss, ctt]); exact does_load1_ptr rfl rfl rfl
     apply W_lazy
     ·rfl
     ·intro hB; (try simp only [hB, bss, ctt]); exact does_int rfl rfl rfl
     refine WQ (does_and rfl rfl rfl) ?_
     apply WM
     apply W_nil
     refine E_keep [4] [] ?_
     (try dsimp)
     apply E_ret
     cases h
     (try simp only [qt, qb, qn])
     refine fin_mk (xs := _) ⟨_, rfl, rfl⟩ ?_
     rfl
    ·replace h := of_cf h hc6
     obtain ⟨k8, k8d, h⟩ := of_jn h
     refine E_seqJ (α := Bool) (fun (i : Bool) => (⟨[(3, S.one (.ptr 3 0)), (74, S.one (.v (.bool i)))], [(3, (⟨true, [.v (.int .i64 a1.xStatus), .v (.int .u64 a1.xSeq), .v (.int .u64 a1.xL.c0), .v (.int .u64 a1.xL.c1), .v (.int .u64 a1.xL.c2), .v (.int .u64 a1.xL.c3), .v (.int .i64 a1.xReply.xErr), .v (.int .u64 a1.xReply.xW), .v (.int .i64 a1.xReply.xN), .sl (flat e_S_wset_Write a1.xW) a1.xW.length]⟩ : Reg))]⟩ : St)) (fun i => k8 i = some r) (fun i h => ?_) ?_
     ·let iv := i; change k8 i = some r at h; generalize i = v7 at h ⊢
      rw [k8d] at h; dsimp only at h
      (try dsimp)
      refine E_cond rfl (fun hc9 => ?_) (fun hc9 => ?_)
      ·replace h := of_ct h hc9
       apply E_seq
       apply E_ops
       refine WQ (does_add_ptr rfl rfl) ?_
       refine WQ (does_load1_ptr rfl rfl rfl) ?_
       refine WQ (does_int rfl rfl rfl) ?_
       apply WM
       apply W_lazy
       ·rfl
       ·intro hB; (try simp only [hB, bss, ctt]); exact does_add_ptr rfl rfl
       apply W_lazy
       ·rfl
       ·intro hB; (try simp only [hB, bss, ctt]); exact does_load1_ptr rfl rfl rfl
       apply W_lazy
       ·rfl
       ·intro hB; (try simp only [hB, bss, ctt]); exact does_int rfl rfl rfl
       refine WQ (does_and rfl rfl rfl) ?_
       apply WM
       apply W_nil
       refine E_keep [4] [] ?_
       (try dsimp)
       apply E_ret
       cases h
       (try simp only [qt, qb, qn])
       refine fin_mk (xs := _) ⟨_, rfl, rfl⟩ ?_
       rfl
      ·replace h := of_cf h hc9
       apply E_skip
       refine E_keep [] [] ?_
       (try dsimp)
       apply E_seq
       apply E_ops
       apply WM
       apply W_nil
       (try dsimp)
       apply E_ret
       cases h
       (try simp only [qt, qb, qn])
       refine fin_mk (xs := _) ⟨_, rfl, rfl⟩ ?_
       rfl
     ·
      skip
      apply E_seq
      apply E_ops
      refine WQ (does_int rfl rfl rfl) ?_
      apply WM
      apply W_nil
      refine E_keep [3, 45, 74] [3] ?_
      (try dsimp)
      refine E_cond rfl (fun hc10 => ?_) (fun hc10 => ?_)
      ·replace h := of_ct h hc10
       apply E_skip
       refine ⟨(a1.xStatus == (2 : Int)), h, ?_⟩
       exact (Le.b (le_mk ⟨rfl, rfl, trivial⟩ ⟨rfl, trivial⟩))
      ·replace h := of_cf h hc10
       apply E_ops
       refine WQ (does_int rfl rfl rfl) ?_
       apply WM
       apply W_nil
       refine ⟨(a1.xStatus == (3 : Int)), h, ?_⟩
       exact (Le.b (le_mk ⟨rfl, rfl, trivial⟩ ⟨rfl, trivial⟩))
   ·
    skip
    apply E_seq
    apply E_ops
    refine WQ (does_int rfl rfl rfl) ?_
    apply WM
    apply W_nil
    refine E_keep [3, 5, 45, 60] [3] ?_
    (try dsimp)
    refine E_cond rfl (fun hc11 => ?_) (fun hc11 => ?_)
    ·replace h := of_ct h hc11
     apply E_skip
     refine ⟨(a1.xStatus == (1 : Int)), h, ?_⟩
     exact (Le.b (le_mk ⟨rfl, rfl, rfl, rfl, trivial⟩ ⟨rfl, trivial⟩))
    ·replace h := of_cf h hc11
     apply E_ops
     refine WQ (does_int rfl rfl rfl) ?_
     apply WM
     apply W_nil
     refine ⟨(a1.xStatus == (4 : Int)), h, ?_⟩
     exact (Le.b (le_mk ⟨rfl, rfl, rfl, rfl, trivial⟩ ⟨rfl, trivial⟩))
end Go.V.P
