/- Models of the program's functions: what each comes to, in plain Lean. Printed by mg.py. No premises. -/
import Derived.Test.YteocabneaenpeaaGreatVS
import Derived.Test.YteocabneaenpeaaGreatTS
import Derived.Test.YteocabneaenpeaaGreatProg
set_option linter.unusedVariables false
set_option linter.unusedSimpArgs false
set_option maxRecDepth 20000
set_option maxHeartbeats 4000000
namespace Go.V.P
open Go.V Go.Proofs
section
structure V2 (α : Type) where
  c0 : α
  c1 : α
  deriving Inhabited, DecidableEq
def V2.get {α : Type} (v : V2 α) (i : Nat) : α := match i with
  | 0 => v.c0
  | _ => v.c1
def V2.put {α : Type} (v : V2 α) (i : Nat) (x : α) : V2 α := match i with
  | 0 => { v with c0 := x }
  | _ => { v with c1 := x }
structure V4 (α : Type) where
  c0 : α
  c1 : α
  c2 : α
  c3 : α
  deriving Inhabited, DecidableEq
def V4.get {α : Type} (v : V4 α) (i : Nat) : α := match i with
  | 0 => v.c0
  | 1 => v.c1
  | 2 => v.c2
  | _ => v.c3
def V4.put {α : Type} (v : V4 α) (i : Nat) (x : α) : V4 α := match i with
  | 0 => { v with c0 := x }
  | 1 => { v with c1 := x }
  | 2 => { v with c2 := x }
  | _ => { v with c3 := x }
structure V8 (α : Type) where
  c0 : α
  c1 : α
  c2 : α
  c3 : α
  c4 : α
  c5 : α
  c6 : α
  c7 : α
  deriving Inhabited, DecidableEq
def V8.get {α : Type} (v : V8 α) (i : Nat) : α := match i with
  | 0 => v.c0
  | 1 => v.c1
  | 2 => v.c2
  | 3 => v.c3
  | 4 => v.c4
  | 5 => v.c5
  | 6 => v.c6
  | _ => v.c7
def V8.put {α : Type} (v : V8 α) (i : Nat) (x : α) : V8 α := match i with
  | 0 => { v with c0 := x }
  | 1 => { v with c1 := x }
  | 2 => { v with c2 := x }
  | 3 => { v with c3 := x }
  | 4 => { v with c4 := x }
  | 5 => { v with c5 := x }
  | 6 => { v with c6 := x }
  | _ => { v with c7 := x }
def sortI (l : List Int) : List Int := l.mergeSort fun x y => decide (x ≤ y)
theorem sortI_length (l : List Int) : (sortI l).length = l.length := List.length_mergeSort l
def compI (l : List Int) : List Int := Go.Lib.compact l
noncomputable def iand (k : IntKind) (a b : Int) : Int := k.wrap ((BitVec.ofInt k.bits a &&& BitVec.ofInt k.bits b).toNat)
noncomputable def ior (k : IntKind) (a b : Int) : Int := k.wrap ((BitVec.ofInt k.bits a ||| BitVec.ofInt k.bits b).toNat)
noncomputable def ixor (k : IntKind) (a b : Int) : Int := k.wrap ((BitVec.ofInt k.bits a ^^^ BitVec.ofInt k.bits b).toNat)
noncomputable def iandn (k : IntKind) (a b : Int) : Int := k.wrap ((BitVec.ofInt k.bits a &&& ~~~ BitVec.ofInt k.bits b).toNat)
noncomputable def ishl (k : IntKind) (a b : Int) : Int := k.wrap (a * 2 ^ (min b.toNat k.bits))
noncomputable def ishr (k : IntKind) (a b : Int) : Int := a.fdiv (2 ^ (min b.toNat k.bits))
structure S_geo_Geo where
  xThreads : Int
  xSlots : Int
  xThings : Int
  deriving Inhabited, DecidableEq
structure S_thing_Thing where
  xType : Int
  xBits : Int
  xBase : Int
  xSize : Int
  xUsed : Int
  xFrom : Int
  xBadge : Int
  xFull : Bool
  xWord : Int
  xData : (V4 Int)
  deriving Inhabited, DecidableEq
structure S_cap_Cap where
  xType : Int
  xThing : Int
  xRights : Int
  xBadge : Int
  deriving Inhabited, DecidableEq
structure S_state_Slot where
  xCap : S_cap_Cap
  xUp : Int
  deriving Inhabited, DecidableEq
structure S_state_State where
  xGeo : S_geo_Geo
  xSlots : (List S_state_Slot)
  xThings : (List S_thing_Thing)
  deriving Inhabited, DecidableEq
structure S_forest_Forest where
  xUp : (List Int)
  deriving Inhabited, DecidableEq
structure S_super_Super where
  xGeo : S_geo_Geo
  xBoot : Int
  deriving Inhabited, DecidableEq
structure S_tag_Field where
  xFrom : Int
  xLen : Int
  deriving Inhabited, DecidableEq
structure S_row_Row where
  xLasts : (V8 Int)
  xNew : (V8 Int)
  xOut : Bool
  xSent : Bool
  deriving Inhabited, DecidableEq
structure S_nvm_Mem where
  xl : (List S_row_Row)
  xoff : Bool
  xcount : Int
  xfuse : Int
  xkeep : (List Int)
  deriving Inhabited, DecidableEq
structure S_wset_Write where
  xAt : Int
  xV : Int
  deriving Inhabited, DecidableEq
structure S_state_Reply where
  xErr : Int
  xW : Int
  xN : Int
  deriving Inhabited, DecidableEq
structure S_opd_Desc where
  xStatus : Int
  xSeq : Int
  xL : (V4 Int)
  xReply : S_state_Reply
  xW : (List S_wset_Write)
  deriving Inhabited, DecidableEq
structure S_boot_plan where
  xs : S_state_State
  xwas : (List S_opd_Desc)
  xboot : Int
  xfirst : Bool
  deriving Inhabited, DecidableEq
structure S_gear_op where
  xkind : Int
  xat : Int
  xv : Int
  deriving Inhabited, DecidableEq
structure S_gear_work where
  xphase : Int
  xd : S_opd_Desc
  xl : (List S_gear_op)
  deriving Inhabited, DecidableEq
structure S_gear_Gear where
  xm : S_nvm_Mem
  xgeo : S_geo_Geo
  xw : (List S_gear_work)
  xorder : (List Int)
  xdead : Bool
  deriving Inhabited, DecidableEq
noncomputable def e_S_state_Slot (x : S_state_Slot) : List T := [.v (.int .i64 x.xCap.xType), .v (.int .i64 x.xCap.xThing), .v (.int .i64 x.xCap.xRights), .v (.int .i64 x.xCap.xBadge), .v (.int .i64 x.xUp)]
noncomputable def e_S_thing_Thing (x : S_thing_Thing) : List T := [.v (.int .i64 x.xType), .v (.int .i64 x.xBits), .v (.int .i64 x.xBase), .v (.int .i64 x.xSize), .v (.int .i64 x.xUsed), .v (.int .i64 x.xFrom), .v (.int .i64 x.xBadge), .v (.bool x.xFull), .v (.int .u64 x.xWord), .v (.int .u64 x.xData.c0), .v (.int .u64 x.xData.c1), .v (.int .u64 x.xData.c2), .v (.int .u64 x.xData.c3)]
noncomputable def e_i_i64 (x : Int) : List T := [.v (.int .i64 x)]
noncomputable def e_bool (x : Bool) : List T := [.v (.bool x)]
noncomputable def e_i_u64 (x : Int) : List T := [.v (.int .u64 x)]
noncomputable def e_S_tag_Field (x : S_tag_Field) : List T := [.v (.int .i64 x.xFrom), .v (.int .i64 x.xLen)]
noncomputable def e_S_row_Row (x : S_row_Row) : List T := [.v (.int .u64 x.xLasts.c0), .v (.int .u64 x.xLasts.c1), .v (.int .u64 x.xLasts.c2), .v (.int .u64 x.xLasts.c3), .v (.int .u64 x.xLasts.c4), .v (.int .u64 x.xLasts.c5), .v (.int .u64 x.xLasts.c6), .v (.int .u64 x.xLasts.c7), .v (.int .u64 x.xNew.c0), .v (.int .u64 x.xNew.c1), .v (.int .u64 x.xNew.c2), .v (.int .u64 x.xNew.c3), .v (.int .u64 x.xNew.c4), .v (.int .u64 x.xNew.c5), .v (.int .u64 x.xNew.c6), .v (.int .u64 x.xNew.c7), .v (.bool x.xOut), .v (.bool x.xSent)]
noncomputable def e_S_wset_Write (x : S_wset_Write) : List T := [.v (.int .i64 x.xAt), .v (.int .u64 x.xV)]
noncomputable def e_S_opd_Desc (x : S_opd_Desc) : List T := [.v (.int .i64 x.xStatus), .v (.int .u64 x.xSeq), .v (.int .u64 x.xL.c0), .v (.int .u64 x.xL.c1), .v (.int .u64 x.xL.c2), .v (.int .u64 x.xL.c3), .v (.int .i64 x.xReply.xErr), .v (.int .u64 x.xReply.xW), .v (.int .i64 x.xReply.xN), .sl (flat e_S_wset_Write x.xW) x.xW.length]
noncomputable def e_L_S_wset_Write (x : (List S_wset_Write)) : List T := [.sl (flat e_S_wset_Write x) x.length]
noncomputable def e_S_gear_op (x : S_gear_op) : List T := [.v (.int .i64 x.xkind), .v (.int .i64 x.xat), .v (.int .u64 x.xv)]
noncomputable def e_S_gear_work (x : S_gear_work) : List T := [.v (.int .i64 x.xphase), .v (.int .i64 x.xd.xStatus), .v (.int .u64 x.xd.xSeq), .v (.int .u64 x.xd.xL.c0), .v (.int .u64 x.xd.xL.c1), .v (.int .u64 x.xd.xL.c2), .v (.int .u64 x.xd.xL.c3), .v (.int .i64 x.xd.xReply.xErr), .v (.int .u64 x.xd.xReply.xW), .v (.int .i64 x.xd.xReply.xN), .sl (flat e_S_wset_Write x.xd.xW) x.xd.xW.length, .sl (flat e_S_gear_op x.xl) x.xl.length]
noncomputable def m_geo_Plain (F : Nat)  : Option (S_geo_Geo) :=
  some (⟨(2 : Int), (32 : Int), (16 : Int)⟩ : S_geo_Geo)
noncomputable def m_thing_own (F : Nat) (a0 : S_thing_Thing) : Option (S_thing_Thing) :=
  (bif (a0.xType == (1 : Int)) then some (⟨a0.xType, (0 : Int), (0 : Int), a0.xSize, a0.xUsed, (0 : Int), (0 : Int), false, (0 : Int), (⟨(0 : Int), (0 : Int), (0 : Int), (0 : Int)⟩ : V4 Int)⟩ : S_thing_Thing) else (bif (a0.xType == (2 : Int)) then some (⟨a0.xType, a0.xBits, a0.xBase, (0 : Int), (0 : Int), (0 : Int), (0 : Int), false, (0 : Int), (⟨(0 : Int), (0 : Int), (0 : Int), (0 : Int)⟩ : V4 Int)⟩ : S_thing_Thing) else (bif (a0.xType == (3 : Int)) then (bif (!a0.xFull) then some (⟨a0.xType, (0 : Int), (0 : Int), (0 : Int), (0 : Int), (0 : Int), (0 : Int), false, (0 : Int), (⟨(0 : Int), (0 : Int), (0 : Int), (0 : Int)⟩ : V4 Int)⟩ : S_thing_Thing) else some (⟨a0.xType, (0 : Int), (0 : Int), (0 : Int), (0 : Int), a0.xFrom, a0.xBadge, true, a0.xWord, (⟨(0 : Int), (0 : Int), (0 : Int), (0 : Int)⟩ : V4 Int)⟩ : S_thing_Thing)) else (bif (a0.xType == (4 : Int)) then some (⟨a0.xType, (0 : Int), (0 : Int), (0 : Int), (0 : Int), (0 : Int), (0 : Int), false, a0.xWord, (⟨(0 : Int), (0 : Int), (0 : Int), (0 : Int)⟩ : V4 Int)⟩ : S_thing_Thing) else (bif (a0.xType == (5 : Int)) then some (⟨a0.xType, (0 : Int), (0 : Int), (0 : Int), (0 : Int), (0 : Int), (0 : Int), false, (0 : Int), a0.xData⟩ : S_thing_Thing) else some (⟨(0 : Int), (0 : Int), (0 : Int), (0 : Int), (0 : Int), (0 : Int), (0 : Int), false, (0 : Int), (⟨(0 : Int), (0 : Int), (0 : Int), (0 : Int)⟩ : V4 Int)⟩ : S_thing_Thing))))))
noncomputable def m_thing_in (F : Nat) (a0 : Int) (a1 : Int) (a2 : Int) : Option (Bool) :=
  some ((decide (a1 ≤ a0)) && (decide (a0 ≤ a2)))
noncomputable def m_thing_Good (F : Nat) (a0 : S_thing_Thing) : Option (Bool) :=
  (m_thing_own F a0).bind fun x1 => (bif (!((x1.xType == a0.xType) && ((x1.xBits == a0.xBits) && ((x1.xBase == a0.xBase) && ((x1.xSize == a0.xSize) && ((x1.xUsed == a0.xUsed) && ((x1.xFrom == a0.xFrom) && ((x1.xBadge == a0.xBadge) && ((x1.xFull == a0.xFull) && ((x1.xWord == a0.xWord) && ((x1.xData.c0 == a0.xData.c0) && ((x1.xData.c1 == a0.xData.c1) && ((x1.xData.c2 == a0.xData.c2) && ((x1.xData.c3 == a0.xData.c3) && true)))))))))))))) then some false else (bif (a0.xType == (1 : Int)) then (m_thing_in F a0.xSize (1 : Int) (4096 : Int)).bind fun x4 => (lz ((x4 == true)) (m_thing_in F a0.xUsed (0 : Int) a0.xSize)).bind fun x5 => some (x4 && x5) else (bif (a0.xType == (2 : Int)) then (m_thing_in F a0.xBits (1 : Int) (4 : Int)).bind fun x7 => gd (x7 = true → 0 ≤ a0.xBits) (gd (x7 = true → inI ((96 : Int) - (ishl .i64 (1 : Int) a0.xBits))) ((lz ((x7 == true)) (m_thing_in F a0.xBase (0 : Int) ((96 : Int) - (ishl .i64 (1 : Int) a0.xBits)))).bind fun x10 => some (x7 && x10))) else (bif (a0.xType == (3 : Int)) then (m_thing_in F a0.xBadge (0 : Int) (65535 : Int)).bind fun x12 => (lz ((x12 == true)) (m_thing_in F a0.xFrom (0 : Int) (96 : Int))).bind fun x13 => some (x12 && x13) else some true))))
noncomputable def m_thing_New (F : Nat) (a0 : Int) (a1 : Int) (a2 : Int) : Option (S_thing_Thing × Bool) :=
  (jn (fun (v1 : Int) (v2 : Int) (v3 : Int) => (m_thing_Good F (⟨a0, v1, v2, v3, (0 : Int), (0 : Int), (0 : Int), false, (0 : Int), (⟨(0 : Int), (0 : Int), (0 : Int), (0 : Int)⟩ : V4 Int)⟩ : S_thing_Thing)).bind fun x5 => (bif (!x5) then some ((⟨(0 : Int), (0 : Int), (0 : Int), (0 : Int), (0 : Int), (0 : Int), (0 : Int), false, (0 : Int), (⟨(0 : Int), (0 : Int), (0 : Int), (0 : Int)⟩ : V4 Int)⟩ : S_thing_Thing), false) else some ((⟨a0, v1, v2, v3, (0 : Int), (0 : Int), (0 : Int), false, (0 : Int), (⟨(0 : Int), (0 : Int), (0 : Int), (0 : Int)⟩ : V4 Int)⟩ : S_thing_Thing), true))) fun k4 => (bif (a0 == (1 : Int)) then k4 (0 : Int) (0 : Int) a1 else (bif (a0 == (2 : Int)) then k4 a1 a2 (0 : Int) else (jn (fun (v9 : Bool) => (bif v9 then k4 (0 : Int) (0 : Int) (0 : Int) else some ((⟨(0 : Int), (0 : Int), (0 : Int), (0 : Int), (0 : Int), (0 : Int), (0 : Int), false, (0 : Int), (⟨(0 : Int), (0 : Int), (0 : Int), (0 : Int)⟩ : V4 Int)⟩ : S_thing_Thing), false))) fun k10 => (bif (a0 == (3 : Int)) then k10 (a0 == (3 : Int)) else (bif (a0 == (4 : Int)) then k10 (a0 == (4 : Int)) else k10 (a0 == (5 : Int))))))))
noncomputable def m_geo_in (F : Nat) (a0 : Int) (a1 : Int) (a2 : Int) : Option (Bool) :=
  some ((decide (a1 ≤ a0)) && (decide (a0 ≤ a2)))
noncomputable def m_geo_Good (F : Nat) (a0 : S_geo_Geo) : Option (Bool) :=
  (m_geo_in F a0.xThreads (1 : Int) (4 : Int)).bind fun x1 => gd (x1 = true → inI ((8 : Int) * a0.xThreads)) ((lz ((x1 == true)) (m_geo_in F a0.xSlots ((8 : Int) * a0.xThreads) (96 : Int))).bind fun x3 => gd (((x1 && x3) && ((Int.tmod a0.xSlots 8) == (0 : Int))) = true → inI (a0.xThreads + (2 : Int))) ((lz ((((x1 && x3) && ((Int.tmod a0.xSlots 8) == (0 : Int))) == true)) (m_geo_in F a0.xThings (a0.xThreads + (2 : Int)) (48 : Int))).bind fun x5 => some (((x1 && x3) && ((Int.tmod a0.xSlots 8) == (0 : Int))) && x5)))
noncomputable def m_geo_Root (F : Nat) (a0 : S_geo_Geo) (a1 : Int) : Option (Int) :=
  (m_geo_Good F a0).bind fun x1 => gd ((!x1) = false → inI (a0.xThreads - (1 : Int))) ((lz (((!x1) == false)) (m_geo_in F a1 (0 : Int) (a0.xThreads - (1 : Int)))).bind fun x3 => (bif ((!x1) || (!x3)) then some (0 : Int) else gd (inI ((8 : Int) * a1)) (some ((8 : Int) * a1))))
noncomputable def m_state_New_l0 (F : Nat) (a0 : S_geo_Geo) (x10 : (Int)) (k14 : (List S_thing_Thing) → (List S_state_Slot) → Option (S_state_State × Int)) : Nat → Int → (List S_thing_Thing) → (List S_state_Slot) → Option (S_state_State × Int)
  | 0, _, _, _ => none
  | n46 + 1, v43, v44, v45 => (bif (decide (v43 < a0.xThreads)) then (m_geo_Root F a0 v43).bind fun x48 => (jn (fun (v49 : (List S_thing_Thing)) => gd (inI (x48 + (1 : Int))) (gd (inI (x10 + (1 : Int))) (gd (ix v45 (x48 + (1 : Int))) (gd (inI (v43 + (1 : Int))) (m_state_New_l0 F a0 x10 k14 n46 (v43 + (1 : Int)) v49 (setn v45 (x48 + (1 : Int)) (⟨(⟨(3 : Int), (1 : Int), (7 : Int), (0 : Int)⟩ : S_cap_Cap), (x10 + (1 : Int))⟩ : S_state_Slot))))))) fun k50 => gd (inI ((2 : Int) + v43)) ((m_thing_New F (2 : Int) (3 : Int) x48).bind fun x56 => gd (ix v44 ((2 : Int) + v43)) (k50 (setn v44 ((2 : Int) + v43) x56.1)))) else k14 v44 v45)
noncomputable def m_state_New_l1 (F : Nat) (a0 : S_geo_Geo) (k6 : (List S_state_Slot) → Option (S_state_State × Int)) : Nat → Int → (List S_state_Slot) → Option (S_state_State × Int)
  | 0, _, _ => none
  | n70 + 1, v68, v69 => (bif (decide (v68 < (((List.replicate a0.xSlots.toNat (⟨(⟨(0 : Int), (0 : Int), (0 : Int), (0 : Int)⟩ : S_cap_Cap), (0 : Int)⟩ : S_state_Slot)).length : Nat) : Int))) then gd (ix v69 v68) (gd (inI (v68 + (1 : Int))) (m_state_New_l1 F a0 k6 n70 (v68 + (1 : Int)) (setn v69 v68 (⟨(nth v69 v68).xCap, (-1 : Int)⟩ : S_state_Slot)))) else k6 v69)
noncomputable def m_state_New (F : Nat) (a0 : S_geo_Geo) (a1 : Int) : Option (S_state_State × Int) :=
  (m_thing_New F (1 : Int) a1 (0 : Int)).bind fun x1 => (m_geo_Good F a0).bind fun x2 => (bif ((!x2) || (!x1.2)) then some ((⟨(⟨(0 : Int), (0 : Int), (0 : Int)⟩ : S_geo_Geo), ([] : (List S_state_Slot)), ([] : (List S_thing_Thing))⟩ : S_state_State), (1 : Int)) else (jn (fun (_ : Unit) => (jn (fun (v5 : (List S_state_Slot)) => gd (ix (List.replicate a0.xThings.toNat (⟨(0 : Int), (0 : Int), (0 : Int), (0 : Int), (0 : Int), (0 : Int), (0 : Int), false, (0 : Int), (⟨(0 : Int), (0 : Int), (0 : Int), (0 : Int)⟩ : V4 Int)⟩ : S_thing_Thing)) (0 : Int)) ((jn (fun (v8 : (List S_thing_Thing)) => (m_geo_Root F a0 (0 : Int)).bind fun x10 => gd (ix v5 x10) ((jn (fun (v12 : (List S_thing_Thing)) (v13 : (List S_state_Slot)) => gd (inI (x10 + (1 : Int))) (gd (ix v13 (x10 + (1 : Int))) (gd (v13.length = (setn v13 (x10 + (1 : Int)) (⟨(nth v13 (x10 + (1 : Int))).xCap, (-1 : Int)⟩ : S_state_Slot)).length) (some ((⟨a0, (setn v13 (x10 + (1 : Int)) (⟨(nth v13 (x10 + (1 : Int))).xCap, (-1 : Int)⟩ : S_state_Slot)), v12⟩ : S_state_State), (0 : Int)))))) fun k14 => m_state_New_l0 F a0 x10 k14 F (0 : Int) v8 (setn v5 x10 (⟨(⟨(1 : Int), (0 : Int), (7 : Int), (0 : Int)⟩ : S_cap_Cap), (nth v5 x10).xUp⟩ : S_state_Slot))))) fun k9 => (m_thing_New F (3 : Int) (0 : Int) (0 : Int)).bind fun x58 => gd (ix (List.replicate a0.xThings.toNat (⟨(0 : Int), (0 : Int), (0 : Int), (0 : Int), (0 : Int), (0 : Int), (0 : Int), false, (0 : Int), (⟨(0 : Int), (0 : Int), (0 : Int), (0 : Int)⟩ : V4 Int)⟩ : S_thing_Thing)) (1 : Int)) (k9 (setn (setn (List.replicate a0.xThings.toNat (⟨(0 : Int), (0 : Int), (0 : Int), (0 : Int), (0 : Int), (0 : Int), (0 : Int), false, (0 : Int), (⟨(0 : Int), (0 : Int), (0 : Int), (0 : Int)⟩ : V4 Int)⟩ : S_thing_Thing)) (0 : Int) x1.1) (1 : Int) x58.1))))) fun k6 => m_state_New_l1 F a0 k6 F (0 : Int) (List.replicate a0.xSlots.toNat (⟨(⟨(0 : Int), (0 : Int), (0 : Int), (0 : Int)⟩ : S_cap_Cap), (0 : Int)⟩ : S_state_Slot)))) fun k4 => gd (0 ≤ a0.xSlots ∧ a0.xSlots ≤ a0.xSlots ∧ 40 * a0.xSlots ≤ 281474976710656 ∧ a0.xSlots ≤ 9223372036854775807) (gd (0 ≤ a0.xThings ∧ a0.xThings ≤ a0.xThings ∧ 104 * a0.xThings ≤ 281474976710656 ∧ a0.xThings ≤ 9223372036854775807) (k4 ()))))
noncomputable def m_cap_None (F : Nat) (a0 : S_cap_Cap) : Option (Bool) :=
  some ((a0.xType == (0 : Int)) && ((a0.xThing == (0 : Int)) && ((a0.xRights == (0 : Int)) && ((a0.xBadge == (0 : Int)) && true))))
noncomputable def m_cap_in (F : Nat) (a0 : Int) (a1 : Int) (a2 : Int) : Option (Bool) :=
  some ((decide (a1 ≤ a0)) && (decide (a0 ≤ a2)))
noncomputable def m_right_Good (F : Nat) (a0 : Int) : Option (Bool) :=
  some ((decide ((0 : Int) ≤ a0)) && (decide (a0 ≤ (7 : Int))))
noncomputable def m_right_Badge (F : Nat) (a0 : Int) : Option (Bool) :=
  some ((decide ((0 : Int) ≤ a0)) && (decide (a0 ≤ (65535 : Int))))
noncomputable def m_cap_badged (F : Nat) (a0 : Int) : Option (Bool) :=
  some ((a0 == (3 : Int)) || (a0 == (4 : Int)))
noncomputable def m_cap_Good (F : Nat) (a0 : S_cap_Cap) : Option (Bool) :=
  (m_cap_None F a0).bind fun x1 => (bif x1 then some true else (m_cap_in F a0.xType (1 : Int) (5 : Int)).bind fun x3 => (lz ((x3 == true)) (m_cap_in F a0.xThing (0 : Int) (47 : Int))).bind fun x4 => (lz (((x3 && x4) == true)) (m_right_Good F a0.xRights)).bind fun x5 => (lz ((((x3 && x4) && x5) == true)) (m_right_Badge F a0.xBadge)).bind fun x6 => (lz (((((x3 && x4) && x5) && x6) == true) && ((a0.xBadge == (0 : Int)) == false)) (m_cap_badged F a0.xType)).bind fun x7 => some ((((x3 && x4) && x5) && x6) && ((a0.xBadge == (0 : Int)) || x7)))
noncomputable def m_state_State_there (F : Nat) (a0 : S_state_State) (a1 : Int) : Option (Bool) :=
  gd (((decide ((0 : Int) ≤ a1)) && (decide (a1 < ((a0.xThings.length : Nat) : Int)))) = true → ix a0.xThings a1) (some (((decide ((0 : Int) ≤ a1)) && (decide (a1 < ((a0.xThings.length : Nat) : Int)))) && ((nth a0.xThings a1).xType != (0 : Int))))
noncomputable def m_state_State_caps_l0 (F : Nat) (a0 : S_state_State) (k1 : Unit → Option (Bool)) : Nat → Int → Option (Bool)
  | 0, _ => none
  | n34 + 1, v33 => (bif (decide (v33 < ((a0.xSlots.length : Nat) : Int))) then gd (ix a0.xSlots v33) ((m_cap_Good F ((nth a0.xSlots v33).xCap)).bind fun x37 => (bif (!x37) then some false else (jn (fun (v39 : Bool) => (bif v39 then some false else (m_cap_None F ((nth a0.xSlots v33).xCap)).bind fun x42 => (lz (((!x42) == true)) (m_state_State_there F a0 ((nth a0.xSlots v33).xCap.xThing))).bind fun x43 => gd (((!x42) == true) = true → (!x43) = false → ix a0.xThings ((nth a0.xSlots v33).xCap.xThing)) ((bif ((!x42) && ((!x43) || ((nth a0.xThings ((nth a0.xSlots v33).xCap.xThing)).xType != (nth a0.xSlots v33).xCap.xType))) then some false else gd (inI (v33 + (1 : Int))) (m_state_State_caps_l0 F a0 k1 n34 (v33 + (1 : Int))))))) fun k40 => (m_cap_None F ((nth a0.xSlots v33).xCap)).bind fun x47 => (bif (x47 && ((nth a0.xSlots v33).xUp != (-1 : Int))) then k40 (x47 && ((nth a0.xSlots v33).xUp != (-1 : Int))) else (m_cap_None F ((nth a0.xSlots v33).xCap)).bind fun x49 => k40 ((!x49) && (decide ((nth a0.xSlots v33).xUp < (-1 : Int)))))))) else k1 ())
noncomputable def m_state_State_caps (F : Nat) (a0 : S_state_State) : Option (Bool) :=
  (jn (fun (_ : Unit) => some true) fun k1 => m_state_State_caps_l0 F a0 k1 F (0 : Int))
noncomputable def m_state_State_holders_l0 (F : Nat) (a0 : S_state_State) (a1 : Int) (k2 : (List Int) → Option ((List Int))) : Nat → Int → (List Int) → Option ((List Int))
  | 0, _, _ => none
  | n23 + 1, v21, v22 => (bif (decide (v21 < ((a0.xSlots.length : Nat) : Int))) then (jn (fun (v25 : (List Int)) => gd (inI (v21 + (1 : Int))) (m_state_State_holders_l0 F a0 a1 k2 n23 (v21 + (1 : Int)) v25)) fun k26 => gd (ix a0.xSlots v21) ((m_cap_None F ((nth a0.xSlots v21).xCap)).bind fun x29 => (bif ((!x29) && ((nth a0.xSlots v21).xCap.xThing == a1)) then gd ((v22.length + ([v21] : List Int).length) * 8 ≤ 140737488355328) (k26 (v22 ++ ([v21] : List Int))) else k26 v22))) else k2 v22)
noncomputable def m_state_State_holders (F : Nat) (a0 : S_state_State) (a1 : Int) : Option ((List Int)) :=
  (jn (fun (v1 : (List Int)) => some v1) fun k2 => m_state_State_holders_l0 F a0 a1 k2 F (0 : Int) ([] : List Int))
noncomputable def m_state_State_things_l0 (F : Nat) (a0 : S_state_State) (k1 : Unit → Option (Bool)) : Nat → Int → Option (Bool)
  | 0, _ => none
  | n34 + 1, v33 => (bif (decide (v33 < ((a0.xThings.length : Nat) : Int))) then gd (ix a0.xThings v33) ((m_thing_Good F (nth a0.xThings v33)).bind fun x37 => (bif (!x37) then some false else gd (((decide ((0 : Int) < (nth a0.xThings v33).xFrom)) == true) = true → (decide (((a0.xSlots.length : Nat) : Int) < (nth a0.xThings v33).xFrom)) = false → inI ((nth a0.xThings v33).xFrom - (1 : Int))) (gd (((decide ((0 : Int) < (nth a0.xThings v33).xFrom)) == true) = true → (decide (((a0.xSlots.length : Nat) : Int) < (nth a0.xThings v33).xFrom)) = false → ix a0.xSlots ((nth a0.xThings v33).xFrom - (1 : Int))) ((lz (((decide ((0 : Int) < (nth a0.xThings v33).xFrom)) == true) && ((decide (((a0.xSlots.length : Nat) : Int) < (nth a0.xThings v33).xFrom)) == false)) (m_cap_None F ((nth a0.xSlots ((nth a0.xThings v33).xFrom - (1 : Int))).xCap))).bind fun x41 => (bif ((decide ((0 : Int) < (nth a0.xThings v33).xFrom)) && ((decide (((a0.xSlots.length : Nat) : Int) < (nth a0.xThings v33).xFrom)) || x41)) then some false else gd ((decide ((2 : Int) ≤ v33)) = true → inI ((2 : Int) + a0.xGeo.xThreads)) (gd (((decide ((2 : Int) ≤ v33)) && (decide (v33 < ((2 : Int) + a0.xGeo.xThreads)))) = true → inI (v33 - (2 : Int))) ((lz ((((decide ((2 : Int) ≤ v33)) && (decide (v33 < ((2 : Int) + a0.xGeo.xThreads)))) == true)) (m_geo_Root F a0.xGeo (v33 - (2 : Int)))).bind fun x45 => (bif (((decide ((2 : Int) ≤ v33)) && (decide (v33 < ((2 : Int) + a0.xGeo.xThreads)))) && (!(((nth a0.xThings v33).xType == (2 : Int)) && (((nth a0.xThings v33).xBits == (3 : Int)) && (((nth a0.xThings v33).xBase == x45) && (((nth a0.xThings v33).xSize == (0 : Int)) && (((nth a0.xThings v33).xUsed == (0 : Int)) && (((nth a0.xThings v33).xFrom == (0 : Int)) && (((nth a0.xThings v33).xBadge == (0 : Int)) && (((nth a0.xThings v33).xFull == false) && (((nth a0.xThings v33).xWord == (0 : Int)) && (((nth a0.xThings v33).xData.c0 == (0 : Int)) && (((nth a0.xThings v33).xData.c1 == (0 : Int)) && (((nth a0.xThings v33).xData.c2 == (0 : Int)) && (((nth a0.xThings v33).xData.c3 == (0 : Int)) && true))))))))))))))) then some false else (lz ((((!((decide ((2 : Int) ≤ v33)) && (decide (v33 < ((2 : Int) + a0.xGeo.xThreads))))) && ((nth a0.xThings v33).xType != (0 : Int))) == true)) (m_state_State_holders F a0 v33)).bind fun x47 => (bif (((!((decide ((2 : Int) ≤ v33)) && (decide (v33 < ((2 : Int) + a0.xGeo.xThreads))))) && ((nth a0.xThings v33).xType != (0 : Int))) && (((x47.length : Nat) : Int) == (0 : Int))) then some false else gd (inI (v33 + (1 : Int))) (m_state_State_things_l0 F a0 k1 n34 (v33 + (1 : Int)))))))))))) else k1 ())
noncomputable def m_state_State_things (F : Nat) (a0 : S_state_State) : Option (Bool) :=
  (jn (fun (_ : Unit) => some true) fun k1 => m_state_State_things_l0 F a0 k1 F (0 : Int))
noncomputable def m_state_State_nodes_l0 (F : Nat) (a0 : S_state_State) (v2 : (List Bool)) (k4 : Unit → Option (Bool)) : Nat → Int → Option (Bool)
  | 0, _ => none
  | n19 + 1, v18 => (bif (decide (v18 < ((a0.xSlots.length : Nat) : Int))) then gd (ix a0.xSlots v18) (gd (ix v2 v18) ((lz (((!(nth v2 v18)) == true)) (m_cap_None F ((nth a0.xSlots v18).xCap))).bind fun x23 => (bif ((!(nth v2 v18)) && (!x23)) then some false else gd (inI (v18 + (1 : Int))) (m_state_State_nodes_l0 F a0 v2 k4 n19 (v18 + (1 : Int)))))) else k4 ())
noncomputable def m_state_State_nodes_l2 (F : Nat) (a0 : S_state_State) (v88 : Int) (k93 : (List Bool) → Option (Bool)) : Nat → Int → (List Bool) → Option (Bool)
  | 0, _, _ => none
  | n114 + 1, v112, v113 => (bif (decide (v112 < (ishl .i64 (1 : Int) ((nth a0.xThings v88).xBits)))) then gd (inI ((nth a0.xThings v88).xBase + v112)) (gd ((decide (((v113.length : Nat) : Int) ≤ ((nth a0.xThings v88).xBase + v112))) = false → ix v113 ((nth a0.xThings v88).xBase + v112)) ((bif ((decide (((v113.length : Nat) : Int) ≤ ((nth a0.xThings v88).xBase + v112))) || (nth v113 ((nth a0.xThings v88).xBase + v112))) then some false else gd (ix v113 ((nth a0.xThings v88).xBase + v112)) (gd (inI (v112 + (1 : Int))) (m_state_State_nodes_l2 F a0 v88 k93 n114 (v112 + (1 : Int)) (setn v113 ((nth a0.xThings v88).xBase + v112) true)))))) else k93 v113)
noncomputable def m_state_State_nodes_l1 (F : Nat) (a0 : S_state_State) (k3 : (List Bool) → Option (Bool)) : Nat → Int → (List Bool) → Option (Bool)
  | 0, _, _ => none
  | n90 + 1, v88, v89 => (bif (decide (v88 < ((a0.xThings.length : Nat) : Int))) then (jn (fun (v92 : (List Bool)) => gd (inI (v88 + (1 : Int))) (m_state_State_nodes_l1 F a0 k3 n90 (v88 + (1 : Int)) v92)) fun k93 => gd (ix a0.xThings v88) ((bif ((nth a0.xThings v88).xType != (2 : Int)) then k93 v89 else gd (0 ≤ (nth a0.xThings v88).xBits) (m_state_State_nodes_l2 F a0 v88 k93 F (0 : Int) v89)))) else k3 v89)
noncomputable def m_state_State_nodes (F : Nat) (a0 : S_state_State) : Option (Bool) :=
  gd (0 ≤ ((a0.xSlots.length : Nat) : Int) ∧ ((a0.xSlots.length : Nat) : Int) ≤ ((a0.xSlots.length : Nat) : Int) ∧ 1 * ((a0.xSlots.length : Nat) : Int) ≤ 281474976710656 ∧ ((a0.xSlots.length : Nat) : Int) ≤ 9223372036854775807) ((jn (fun (v2 : (List Bool)) => (jn (fun (_ : Unit) => some true) fun k4 => m_state_State_nodes_l0 F a0 v2 k4 F (0 : Int))) fun k3 => m_state_State_nodes_l1 F a0 k3 F (0 : Int) (List.replicate ((a0.xSlots.length : Nat) : Int).toNat false)))
noncomputable def m_state_has (F : Nat) (a0 : S_thing_Thing) (a1 : Int) : Option (Bool) :=
  gd (((a0.xType == (2 : Int)) && (decide (a0.xBase ≤ a1))) = true → 0 ≤ a0.xBits) (gd (((a0.xType == (2 : Int)) && (decide (a0.xBase ≤ a1))) = true → inI (a0.xBase + (ishl .i64 (1 : Int) a0.xBits))) (some (((a0.xType == (2 : Int)) && (decide (a0.xBase ≤ a1))) && (decide (a1 < (a0.xBase + (ishl .i64 (1 : Int) a0.xBits)))))))
noncomputable def m_state_within (F : Nat) (a0 : S_state_State) (a1 : Int) (a2 : Value) : Option (Unit) :=
  none
noncomputable def m_slices_IndexFunc_thing_Thing_l0 (F : Nat) (a0 : (List S_thing_Thing)) (k1 : Unit → Option (Int)) : Nat → Unit → Option (Int)
  | 0, _ => none
  | n4 + 1, _ => (bif (decide ((0 : Int) < ((a0.length : Nat) : Int))) then gd (ix a0 (0 : Int)) (none) else k1 ())
noncomputable def m_slices_IndexFunc_thing_Thing (F : Nat) (a0 : (List S_thing_Thing)) (a1 : Value) : Option (Int) :=
  (jn (fun (_ : Unit) => some (-1 : Int)) fun k1 => m_slices_IndexFunc_thing_Thing_l0 F a0 k1 F ())
noncomputable def m_state_State_owner (F : Nat) (a0 : S_state_State) (a1 : Int) : Option (Int) :=
  none
noncomputable def m_state_State_inside (F : Nat) (a0 : S_state_State) (a1 : Int) (a2 : Int) : Option (Bool) :=
  (m_state_State_there F a0 a1).bind fun x1 => gd ((!x1) = false → ix a0.xThings a1) ((bif ((!x1) || ((nth a0.xThings a1).xType != (2 : Int))) then some false else none))
noncomputable def m_state_State_ring_l0 (F : Nat) (a0 : S_state_State) (k1 : Unit → Option (Bool)) : Nat → Int → Option (Bool)
  | 0, _ => none
  | n14 + 1, v13 => (bif (decide (v13 < ((a0.xSlots.length : Nat) : Int))) then gd (ix a0.xSlots v13) ((lz ((((nth a0.xSlots v13).xCap.xType == (2 : Int)) == true)) (m_state_State_inside F a0 ((nth a0.xSlots v13).xCap.xThing) v13)).bind fun x17 => (bif (((nth a0.xSlots v13).xCap.xType == (2 : Int)) && x17) then some true else gd (inI (v13 + (1 : Int))) (m_state_State_ring_l0 F a0 k1 n14 (v13 + (1 : Int))))) else k1 ())
noncomputable def m_state_State_ring (F : Nat) (a0 : S_state_State) : Option (Bool) :=
  (jn (fun (_ : Unit) => some false) fun k1 => m_state_State_ring_l0 F a0 k1 F (0 : Int))
noncomputable def m_state_Forest_l0 (F : Nat) (a0 : S_state_State) (k2 : (List Int) → Option (S_forest_Forest)) : Nat → Int → (List Int) → Option (S_forest_Forest)
  | 0, _, _ => none
  | n23 + 1, v21, v22 => (bif (decide (v21 < ((a0.xSlots.length : Nat) : Int))) then gd (ix a0.xSlots v21) ((jn (fun (v26 : Int) => gd ((v22.length + ([v26] : List Int).length) * 8 ≤ 140737488355328) (gd (inI (v21 + (1 : Int))) (m_state_Forest_l0 F a0 k2 n23 (v21 + (1 : Int)) (v22 ++ ([v26] : List Int))))) fun k27 => (m_cap_None F ((nth a0.xSlots v21).xCap)).bind fun x30 => (bif x30 then k27 (-2 : Int) else k27 ((nth a0.xSlots v21).xUp)))) else k2 v22)
noncomputable def m_state_Forest (F : Nat) (a0 : S_state_State) : Option (S_forest_Forest) :=
  (jn (fun (v1 : (List Int)) => some (⟨v1⟩ : S_forest_Forest)) fun k2 => m_state_Forest_l0 F a0 k2 F (0 : Int) ([] : List Int))
noncomputable def m_forest_Forest_is (F : Nat) (a0 : S_forest_Forest) (a1 : Int) : Option (Bool) :=
  gd (((decide ((0 : Int) ≤ a1)) && (decide (a1 < ((a0.xUp.length : Nat) : Int)))) = true → ix a0.xUp a1) (some (((decide ((0 : Int) ≤ a1)) && (decide (a1 < ((a0.xUp.length : Nat) : Int)))) && ((nth a0.xUp a1) != (-2 : Int))))
noncomputable def m_forest_Good_l1 (F : Nat) (a0 : S_forest_Forest) (k54 : Unit → Option (Bool)) : Nat → Int → Int → Option (Bool)
  | 0, _, _ => none
  | n70 + 1, v68, v69 => (m_forest_Forest_is F a0 v69).bind fun x71 => (bif x71 then (bif (decide (((a0.xUp.length : Nat) : Int) < v68)) then some false else gd (inI (v68 + (1 : Int))) (gd (ix a0.xUp v69) (m_forest_Good_l1 F a0 k54 n70 (v68 + (1 : Int)) (nth a0.xUp v69)))) else k54 ())
noncomputable def m_forest_Good_l0 (F : Nat) (a0 : S_forest_Forest) (k3 : Unit → Option (Bool)) : Nat → Int → Option (Bool)
  | 0, _ => none
  | n52 + 1, v51 => (bif (decide (v51 < ((a0.xUp.length : Nat) : Int))) then (jn (fun (_ : Unit) => gd (inI (v51 + (1 : Int))) (m_forest_Good_l0 F a0 k3 n52 (v51 + (1 : Int)))) fun k54 => m_forest_Good_l1 F a0 k54 F (0 : Int) v51) else k3 ())
noncomputable def m_forest_Good_l2 (F : Nat) (a0 : S_forest_Forest) (k2 : Unit → Option (Bool)) : Nat → Int → Option (Bool)
  | 0, _ => none
  | n88 + 1, v87 => (bif (decide (v87 < ((a0.xUp.length : Nat) : Int))) then gd (ix a0.xUp v87) ((lz (((((nth a0.xUp v87) != (-2 : Int)) && ((nth a0.xUp v87) != (-1 : Int))) == true)) (m_forest_Forest_is F a0 (nth a0.xUp v87))).bind fun x91 => (bif ((((nth a0.xUp v87) != (-2 : Int)) && ((nth a0.xUp v87) != (-1 : Int))) && (!x91)) then some false else gd (inI (v87 + (1 : Int))) (m_forest_Good_l2 F a0 k2 n88 (v87 + (1 : Int))))) else k2 ())
noncomputable def m_forest_Good (F : Nat) (a0 : S_forest_Forest) : Option (Bool) :=
  (bif (decide ((96 : Int) < ((a0.xUp.length : Nat) : Int))) then some false else (jn (fun (_ : Unit) => (jn (fun (_ : Unit) => some true) fun k3 => m_forest_Good_l0 F a0 k3 F (0 : Int))) fun k2 => m_forest_Good_l2 F a0 k2 F (0 : Int)))
noncomputable def m_right_of (F : Nat) (a0 : Int) : Option (Int) :=
  (m_right_Good F a0).bind fun x1 => (bif (!x1) then some (0 : Int) else some a0)
noncomputable def m_right_Less (F : Nat) (a0 : Int) (a1 : Int) : Option (Int) :=
  (m_right_of F a0).bind fun x1 => (m_right_of F a1).bind fun x2 => some (iandn .i64 x1 x2)
noncomputable def m_right_Within (F : Nat) (a0 : Int) (a1 : Int) : Option (Bool) :=
  (m_right_Less F a0 a1).bind fun x1 => some (x1 == (0 : Int))
noncomputable def m_cap_Less (F : Nat) (a0 : S_cap_Cap) (a1 : S_cap_Cap) : Option (Bool) :=
  (m_cap_None F a0).bind fun x1 => (bif x1 then some true else (lz ((((a0.xType == a1.xType) && (a0.xThing == a1.xThing)) == true)) (m_right_Within F a0.xRights a1.xRights)).bind fun x3 => some ((((a0.xType == a1.xType) && (a0.xThing == a1.xThing)) && x3) && ((a1.xBadge == (0 : Int)) || (a1.xBadge == a0.xBadge))))
noncomputable def m_state_State_allowed_l1 (F : Nat) (a0 : S_state_State) (v57 : Int) (k60 : Unit → Option (Bool)) : Nat → Int → Int → Option (Bool)
  | 0, _, _ => none
  | n79 + 1, v77, v78 => (bif (decide (v78 < ((a0.xSlots.length : Nat) : Int))) then (bif (decide (v77 < (0 : Int))) then k60 () else gd (ix a0.xSlots v77) ((m_cap_Less F ((nth a0.xSlots v57).xCap) ((nth a0.xSlots v77).xCap)).bind fun x83 => (bif ((!x83) && (((nth a0.xSlots v77).xCap.xType != (1 : Int)) || ((nth a0.xSlots v57).xCap.xThing == (nth a0.xSlots v77).xCap.xThing))) then some false else gd (inI (v78 + (1 : Int))) (m_state_State_allowed_l1 F a0 v57 k60 n79 ((nth a0.xSlots v77).xUp) (v78 + (1 : Int)))))) else k60 ())
noncomputable def m_state_State_allowed_l0 (F : Nat) (a0 : S_state_State) (k1 : Unit → Option (Bool)) : Nat → Int → Option (Bool)
  | 0, _ => none
  | n58 + 1, v57 => (bif (decide (v57 < ((a0.xSlots.length : Nat) : Int))) then (jn (fun (_ : Unit) => gd (inI (v57 + (1 : Int))) (m_state_State_allowed_l0 F a0 k1 n58 (v57 + (1 : Int)))) fun k60 => gd (ix a0.xSlots v57) (m_state_State_allowed_l1 F a0 v57 k60 F ((nth a0.xSlots v57).xUp) (0 : Int))) else k1 ())
noncomputable def m_state_State_allowed (F : Nat) (a0 : S_state_State) : Option (Bool) :=
  (jn (fun (_ : Unit) => some true) fun k1 => m_state_State_allowed_l0 F a0 k1 F (0 : Int))
noncomputable def m_state_Good (F : Nat) (a0 : S_state_State) : Option (Bool) :=
  (m_geo_Good F a0.xGeo).bind fun x1 => (bif (((!x1) || (((a0.xSlots.length : Nat) : Int) != a0.xGeo.xSlots)) || (((a0.xThings.length : Nat) : Int) != a0.xGeo.xThings)) then some false else (m_state_State_caps F a0).bind fun x3 => (lz ((x3 == true)) (m_state_State_things F a0)).bind fun x4 => (lz (((x3 && x4) == true)) (m_state_State_nodes F a0)).bind fun x5 => (lz ((((x3 && x4) && x5) == true)) (m_state_State_ring F a0)).bind fun x6 => (lz (((((x3 && x4) && x5) && (!x6)) == true)) (m_state_Forest F a0)).bind fun x7 => (lz (((((x3 && x4) && x5) && (!x6)) == true)) (m_forest_Good F x7)).bind fun x8 => (lz ((((((x3 && x4) && x5) && (!x6)) && x8) == true)) (m_state_State_allowed F a0)).bind fun x9 => some (((((x3 && x4) && x5) && (!x6)) && x8) && x9))
noncomputable def m_geo_slotsAt (F : Nat) (a0 : S_geo_Geo) : Option (Int) :=
  gd (inI (a0.xThreads * (1208 : Int))) (gd (inI ((16 : Int) + (a0.xThreads * (1208 : Int)))) (some ((16 : Int) + (a0.xThreads * (1208 : Int)))))
noncomputable def m_geo_thingsAt (F : Nat) (a0 : S_geo_Geo) : Option (Int) :=
  (m_geo_slotsAt F a0).bind fun x1 => gd (inI ((2 : Int) * a0.xSlots)) (gd (inI (x1 + ((2 : Int) * a0.xSlots))) (some (x1 + ((2 : Int) * a0.xSlots))))
noncomputable def m_geo_Copy (F : Nat) (a0 : S_geo_Geo) : Option (Int) :=
  (m_geo_Good F a0).bind fun x1 => (bif (!x1) then some (0 : Int) else (m_geo_thingsAt F a0).bind fun x3 => gd (inI ((8 : Int) * a0.xThings)) (gd (inI (x3 + ((8 : Int) * a0.xThings))) (some (x3 + ((8 : Int) * a0.xThings)))))
noncomputable def m_geo_Rows (F : Nat) (a0 : S_geo_Geo) : Option (Int) :=
  (m_geo_Good F a0).bind fun x1 => (bif (!x1) then some (0 : Int) else (m_geo_Copy F a0).bind fun x3 => gd (inI ((IntKind.i64.wrap (Int.tdiv x3 8)) + (1 : Int))) (some ((IntKind.i64.wrap (Int.tdiv x3 8)) + (1 : Int))))
noncomputable def m_math_Abs (F : Nat) (a0 : Value) : Option (Value) :=
  ((xc Tryz.prog 199 [a0]).bind (int? .u64)).bind fun x1 => ((xc Tryz.prog 205 [(.int .u64 (iandn .u64 x1 (9223372036854775808 : Int)))]).bind (one?)).bind fun x2 => some x2
noncomputable def m_math_Copysign (F : Nat) (a0 : Value) (a1 : Value) : Option (Value) :=
  ((xc Tryz.prog 199 [a0]).bind (int? .u64)).bind fun x1 => ((xc Tryz.prog 199 [a1]).bind (int? .u64)).bind fun x2 => ((xc Tryz.prog 205 [(.int .u64 (ior .u64 (iandn .u64 x1 (9223372036854775808 : Int)) (iand .u64 x2 (9223372036854775808 : Int))))]).bind (one?)).bind fun x3 => some x3
noncomputable def m_math_trunc (F : Nat) (a0 : Value) : Option (Value) :=
  (m_math_Abs F a0).bind fun x1 => ((bn Tryz.prog .lss 242 (.tmp 6) (.const (.float .f64 4607182418800017408)) x1 (.float .f64 4607182418800017408 : Value)).bind (bool?)).bind fun x2 => (bif x2 then (m_math_Copysign F (.float .f64 0 : Value) a0).bind fun x4 => some x4 else ((xc Tryz.prog 199 [a0]).bind (int? .u64)).bind fun x5 => (jn (fun (v6 : Int) => ((xc Tryz.prog 205 [(.int .u64 v6)]).bind (one?)).bind fun x8 => some x8) fun k7 => (bif (decide ((IntKind.u64.wrap ((iand .u64 (ishr .u64 x5 (52 : Int)) (2047 : Int)) - (1023 : Int))) < (52 : Int))) then gd (0 ≤ (IntKind.u64.wrap ((52 : Int) - (IntKind.u64.wrap ((iand .u64 (ishr .u64 x5 (52 : Int)) (2047 : Int)) - (1023 : Int)))))) (k7 (iandn .u64 x5 (IntKind.u64.wrap ((ishl .u64 (1 : Int) (IntKind.u64.wrap ((52 : Int) - (IntKind.u64.wrap ((iand .u64 (ishr .u64 x5 (52 : Int)) (2047 : Int)) - (1023 : Int)))))) - (1 : Int))))) else k7 x5)))
noncomputable def m_math_Trunc (F : Nat) (a0 : Value) : Option (Value) :=
  ((xc Tryz.prog 197 [a0]).bind (one?)).bind fun x2 => some x2
noncomputable def m_math_Signbit (F : Nat) (a0 : Value) : Option (Bool) :=
  ((xc Tryz.prog 199 [a0]).bind (int? .u64)).bind fun x1 => some (decide ((IntKind.i64.wrap x1) < (0 : Int)))
noncomputable def m_gauss_whole (F : Nat) (a0 : Value) : Option (Int × Bool) :=
  ((bn Tryz.prog .geq 242 (.tmp 4) (.const (.float .f64 14010698440749613056)) a0 (.float .f64 14010698440749613056 : Value)).bind (bool?)).bind fun x1 => (lz ((x1 == true)) ((bn Tryz.prog .leq 242 (.tmp 7) (.const (.float .f64 4787326403894837248)) a0 (.float .f64 4787326403894837248 : Value)).bind (bool?))).bind fun x2 => (lz (((!(x1 && x2)) == false)) (m_math_Trunc F a0)).bind fun x3 => (lz (((!(x1 && x2)) == false)) ((bn Tryz.prog .neq 242 (.tmp 12) (.tmp 14) a0 x3).bind (bool?))).bind fun x4 => (lz ((((!(x1 && x2)) || x4) == false)) ((bn Tryz.prog .eql 242 (.tmp 18) (.const (.float .f64 0)) a0 (.float .f64 0 : Value)).bind (bool?))).bind fun x5 => (lz ((((!(x1 && x2)) || x4) == false) && (x5 == true)) (m_math_Signbit F a0)).bind fun x6 => (bif (((!(x1 && x2)) || x4) || (x5 && x6)) then some ((0 : Int), false) else ((cv Tryz.prog 242 2 a0).bind (int? .i64)).bind fun x8 => some (x8, true))
noncomputable def m_gauss_Parts (F : Nat) (a0 : Value) : Option (Int × Int × Bool) :=
  ((bu Tryz.prog .real #[182] 242 #[false] [a0]).bind (one?)).bind fun x1 => (m_gauss_whole F x1).bind fun x2 => ((bu Tryz.prog .imag #[182] 242 #[false] [a0]).bind (one?)).bind fun x3 => (m_gauss_whole F x3).bind fun x4 => (bif ((!x2.2) || (!x4.2)) then some ((0 : Int), (0 : Int), false) else some (x2.1, x4.1, true))
noncomputable def m_gauss_in (F : Nat) (a0 : Int) : Option (Bool) :=
  some ((decide ((-1099511627776 : Int) ≤ a0)) && (decide (a0 ≤ (1099511627776 : Int))))
noncomputable def m_gauss_Of (F : Nat) (a0 : Int) (a1 : Int) : Option (Value × Bool) :=
  (m_gauss_in F a0).bind fun x1 => (lz (((!x1) == false)) (m_gauss_in F a1)).bind fun x2 => (bif ((!x1) || (!x2)) then some ((.complex .f64 0 0 : Value), false) else ((cv Tryz.prog 2 242 (.int .i64 a0)).bind (one?)).bind fun x4 => ((cv Tryz.prog 2 242 (.int .i64 a1)).bind (one?)).bind fun x5 => ((bu Tryz.prog .complex #[242, 242] 182 #[false, false] [x4, x5]).bind (one?)).bind fun x6 => some (x6, true))
noncomputable def m_gauss_Turn_l0 (F : Nat) (a1 : Int) (k5 : Int → Int → Option (Value)) : Nat → Int → Int → Int → Option (Value)
  | 0, _, _, _ => none
  | n20 + 1, v17, v18, v19 => (bif (decide (v19 < (Int.tmod ((Int.tmod a1 4) + (4 : Int)) 4))) then gd (-9223372036854775807 ≤ v18 ∧ v18 ≤ 9223372036854775807) (gd (inI (v19 + (1 : Int))) (m_gauss_Turn_l0 F a1 k5 n20 (-v18) v17 (v19 + (1 : Int)))) else k5 v17 v18)
noncomputable def m_gauss_Turn (F : Nat) (a0 : Value) (a1 : Int) : Option (Value) :=
  (m_gauss_Parts F a0).bind fun x1 => (bif (!x1.2.2) then some (.complex .f64 0 0 : Value) else (jn (fun (v3 : Int) (v4 : Int) => (m_gauss_Of F v3 v4).bind fun x6 => some x6.1) fun k5 => gd (inI ((Int.tmod a1 4) + (4 : Int))) (m_gauss_Turn_l0 F a1 k5 F x1.1 x1.2.1 (0 : Int))))
noncomputable def m_gauss_rest (F : Nat) (a0 : Int) : Option (Int) :=
  gd (inI ((Int.tmod a0 1000003) + (1000003 : Int))) (some (Int.tmod ((Int.tmod a0 1000003) + (1000003 : Int)) 1000003))
noncomputable def m_gauss_Spin_l0 (F : Nat) (a0 : (List Int)) (k2 : Value → Option (Value)) : Nat → Value → Int → Option (Value)
  | 0, _, _ => none
  | n31 + 1, v29, v30 => (bif (decide (v30 < ((a0.length : Nat) : Int))) then gd (ix a0 v30) ((m_gauss_Turn F v29 (1 : Int)).bind fun x34 => (m_gauss_Parts F x34).bind fun x35 => gd (inI ((IntKind.i64.wrap (IntKind.u16.wrap (nth a0 v30))) - (IntKind.i64.wrap (IntKind.u16.wrap (ishr .u64 (nth a0 v30) (32 : Int)))))) (gd (inI (x35.1 + ((IntKind.i64.wrap (IntKind.u16.wrap (nth a0 v30))) - (IntKind.i64.wrap (IntKind.u16.wrap (ishr .u64 (nth a0 v30) (32 : Int))))))) (gd (inI ((IntKind.i64.wrap (IntKind.u16.wrap (ishr .u64 (nth a0 v30) (16 : Int)))) - (IntKind.i64.wrap (IntKind.u16.wrap (ishr .u64 (nth a0 v30) (48 : Int)))))) (gd (inI (x35.2.1 + ((IntKind.i64.wrap (IntKind.u16.wrap (ishr .u64 (nth a0 v30) (16 : Int)))) - (IntKind.i64.wrap (IntKind.u16.wrap (ishr .u64 (nth a0 v30) (48 : Int))))))) ((m_gauss_rest F (x35.1 + ((IntKind.i64.wrap (IntKind.u16.wrap (nth a0 v30))) - (IntKind.i64.wrap (IntKind.u16.wrap (ishr .u64 (nth a0 v30) (32 : Int))))))).bind fun x40 => (m_gauss_rest F (x35.2.1 + ((IntKind.i64.wrap (IntKind.u16.wrap (ishr .u64 (nth a0 v30) (16 : Int)))) - (IntKind.i64.wrap (IntKind.u16.wrap (ishr .u64 (nth a0 v30) (48 : Int))))))).bind fun x41 => (m_gauss_Of F x40 x41).bind fun x42 => gd (inI (v30 + (1 : Int))) (m_gauss_Spin_l0 F a0 k2 n31 x42.1 (v30 + (1 : Int)))))))) else k2 v29)
noncomputable def m_gauss_Spin (F : Nat) (a0 : (List Int)) : Option (Value) :=
  (jn (fun (v1 : Value) => some v1) fun k2 => m_gauss_Spin_l0 F a0 k2 F (.complex .f64 0 0 : Value) (0 : Int))
noncomputable def m_gauss_Word (F : Nat) (a0 : Value) : Option (Int × Bool) :=
  (m_gauss_Parts F a0).bind fun x1 => (bif (((((!x1.2.2) || (decide (x1.1 < (0 : Int)))) || (decide ((4294967295 : Int) < x1.1))) || (decide (x1.2.1 < (0 : Int)))) || (decide ((4294967295 : Int) < x1.2.1))) then some ((0 : Int), false) else some ((ior .u64 (ishl .u64 (IntKind.u64.wrap x1.2.1) (32 : Int)) (IntKind.u64.wrap x1.1)), true))
noncomputable def m_super_Put (F : Nat) (a0 : S_super_Super) : Option ((List Int)) :=
  (m_geo_Good F a0.xGeo).bind fun x1 => (bif (!x1) then some ([] : (List Int)) else (m_gauss_Spin F ([(8243106252149764145 : Int), (IntKind.u64.wrap a0.xGeo.xThreads), (IntKind.u64.wrap a0.xGeo.xSlots), (IntKind.u64.wrap a0.xGeo.xThings), a0.xBoot, (0 : Int), (0 : Int)] : List Int)).bind fun x3 => (m_gauss_Word F x3).bind fun x4 => gd ((([(8243106252149764145 : Int), (IntKind.u64.wrap a0.xGeo.xThreads), (IntKind.u64.wrap a0.xGeo.xSlots), (IntKind.u64.wrap a0.xGeo.xThings), a0.xBoot, (0 : Int), (0 : Int)] : List Int).length + ([x4.1] : List Int).length) * 8 ≤ 140737488355328) (some (([(8243106252149764145 : Int), (IntKind.u64.wrap a0.xGeo.xThreads), (IntKind.u64.wrap a0.xGeo.xSlots), (IntKind.u64.wrap a0.xGeo.xThings), a0.xBoot, (0 : Int), (0 : Int)] : List Int) ++ ([x4.1] : List Int))))
noncomputable def m_geo_Slot (F : Nat) (a0 : S_geo_Geo) (a1 : Int) : Option (Int) :=
  (m_geo_Good F a0).bind fun x1 => gd ((!x1) = false → inI (a0.xSlots - (1 : Int))) ((lz (((!x1) == false)) (m_geo_in F a1 (0 : Int) (a0.xSlots - (1 : Int)))).bind fun x3 => (bif ((!x1) || (!x3)) then some (0 : Int) else (m_geo_slotsAt F a0).bind fun x5 => gd (inI ((2 : Int) * a1)) (gd (inI (x5 + ((2 : Int) * a1))) (some (x5 + ((2 : Int) * a1))))))
noncomputable def m_cap_fields (F : Nat)  : Option ((List S_tag_Field)) :=
  gd (4 = ([(⟨(0 : Int), (8 : Int)⟩ : S_tag_Field), (⟨(8 : Int), (8 : Int)⟩ : S_tag_Field), (⟨(16 : Int), (16 : Int)⟩ : S_tag_Field), (⟨(32 : Int), (16 : Int)⟩ : S_tag_Field)] : List S_tag_Field).length) (some ([(⟨(0 : Int), (8 : Int)⟩ : S_tag_Field), (⟨(8 : Int), (8 : Int)⟩ : S_tag_Field), (⟨(16 : Int), (16 : Int)⟩ : S_tag_Field), (⟨(32 : Int), (16 : Int)⟩ : S_tag_Field)] : List S_tag_Field))
noncomputable def m_tag_Field_mask (F : Nat) (a0 : S_tag_Field) : Option (Int) :=
  gd (0 ≤ a0.xLen) (gd (0 ≤ a0.xFrom) (some (ishl .u64 (IntKind.u64.wrap ((ishl .u64 (1 : Int) a0.xLen) - (1 : Int))) a0.xFrom)))
noncomputable def m_tag_all_l0 (F : Nat) (a0 : (List S_tag_Field)) (k2 : Int → Option (Int × Bool)) : Nat → Int → Int → Option (Int × Bool)
  | 0, _, _ => none
  | n21 + 1, v19, v20 => (bif (decide (v20 < ((a0.length : Nat) : Int))) then gd (ix a0 v20) (gd ((((decide ((nth a0 v20).xFrom < (0 : Int))) || (decide ((64 : Int) ≤ (nth a0 v20).xFrom))) || (decide ((nth a0 v20).xLen < (1 : Int)))) = false → inI ((64 : Int) - (nth a0 v20).xFrom)) ((lz ((((((decide ((nth a0 v20).xFrom < (0 : Int))) || (decide ((64 : Int) ≤ (nth a0 v20).xFrom))) || (decide ((nth a0 v20).xLen < (1 : Int)))) || (decide (((64 : Int) - (nth a0 v20).xFrom) < (nth a0 v20).xLen))) == false)) (m_tag_Field_mask F (nth a0 v20))).bind fun x25 => (bif (((((decide ((nth a0 v20).xFrom < (0 : Int))) || (decide ((64 : Int) ≤ (nth a0 v20).xFrom))) || (decide ((nth a0 v20).xLen < (1 : Int)))) || (decide (((64 : Int) - (nth a0 v20).xFrom) < (nth a0 v20).xLen))) || ((iand .u64 v19 x25) != (0 : Int))) then some ((0 : Int), false) else (m_tag_Field_mask F (nth a0 v20)).bind fun x27 => gd (inI (v20 + (1 : Int))) (m_tag_all_l0 F a0 k2 n21 (ior .u64 v19 x27) (v20 + (1 : Int)))))) else k2 v19)
noncomputable def m_tag_all (F : Nat) (a0 : (List S_tag_Field)) : Option (Int × Bool) :=
  (jn (fun (v1 : Int) => some (v1, true)) fun k2 => m_tag_all_l0 F a0 k2 F (0 : Int) (0 : Int))
noncomputable def m_tag_Good (F : Nat) (a0 : (List S_tag_Field)) : Option (Bool) :=
  (m_tag_all F a0).bind fun x1 => some x1.2
noncomputable def m_tag_Put_l0 (F : Nat) (a0 : (List S_tag_Field)) (a1 : (List Int)) (k4 : Int → Option (Int × Bool)) : Nat → Int → Int → Option (Int × Bool)
  | 0, _, _ => none
  | n27 + 1, v25, v26 => (bif (decide (v26 < ((a0.length : Nat) : Int))) then gd (ix a0 v26) (gd (ix a1 v26) ((m_tag_Field_mask F (nth a0 v26)).bind fun x31 => gd (0 ≤ (nth a0 v26).xFrom) ((bif (decide ((ishr .u64 x31 ((nth a0 v26).xFrom)) < (nth a1 v26))) then some ((0 : Int), false) else gd (ix a1 v26) (gd (0 ≤ (nth a0 v26).xFrom) (gd (inI (v26 + (1 : Int))) (m_tag_Put_l0 F a0 a1 k4 n27 (ior .u64 v25 (ishl .u64 (nth a1 v26) ((nth a0 v26).xFrom))) (v26 + (1 : Int))))))))) else k4 v25)
noncomputable def m_tag_Put (F : Nat) (a0 : (List S_tag_Field)) (a1 : (List Int)) : Option (Int × Bool) :=
  (m_tag_Good F a0).bind fun x1 => (bif ((!x1) || (((a0.length : Nat) : Int) != ((a1.length : Nat) : Int))) then some ((0 : Int), false) else (jn (fun (v3 : Int) => some (v3, true)) fun k4 => m_tag_Put_l0 F a0 a1 k4 F (0 : Int) (0 : Int)))
noncomputable def m_cap_Word (F : Nat) (a0 : S_cap_Cap) : Option (Int × Bool) :=
  (m_cap_Good F a0).bind fun x1 => (bif (!x1) then some ((0 : Int), false) else (jn (fun (v3 : Int) (v4 : Bool) => some (v3, v4)) fun k5 => (m_cap_fields F ).bind fun x6 => (m_tag_Put F x6 ([(IntKind.u64.wrap a0.xType), (IntKind.u64.wrap a0.xRights), (IntKind.u64.wrap a0.xBadge), (IntKind.u64.wrap a0.xThing)] : List Int)).bind fun x7 => k5 x7.1 x7.2))
noncomputable def m_geo_Thing (F : Nat) (a0 : S_geo_Geo) (a1 : Int) : Option (Int) :=
  (m_geo_Good F a0).bind fun x1 => gd ((!x1) = false → inI (a0.xThings - (1 : Int))) ((lz (((!x1) == false)) (m_geo_in F a1 (0 : Int) (a0.xThings - (1 : Int)))).bind fun x3 => (bif ((!x1) || (!x3)) then some (0 : Int) else (m_geo_thingsAt F a0).bind fun x5 => gd (inI ((8 : Int) * a1)) (gd (inI (x5 + ((8 : Int) * a1))) (some (x5 + ((8 : Int) * a1))))))
noncomputable def m_thing_bytes_l0 (F : Nat) (k2 : (List S_tag_Field) → Option ((List S_tag_Field))) : Nat → Int → (List S_tag_Field) → Option ((List S_tag_Field))
  | 0, _, _ => none
  | n15 + 1, v13, v14 => (bif (decide (v13 < (5 : Int))) then gd (inI ((8 : Int) * v13)) (gd ((v14.length + ([(⟨((8 : Int) * v13), (8 : Int)⟩ : S_tag_Field)] : List S_tag_Field).length) * 16 ≤ 140737488355328) (gd (inI (v13 + (1 : Int))) (m_thing_bytes_l0 F k2 n15 (v13 + (1 : Int)) (v14 ++ ([(⟨((8 : Int) * v13), (8 : Int)⟩ : S_tag_Field)] : List S_tag_Field))))) else k2 v14)
noncomputable def m_thing_bytes (F : Nat)  : Option ((List S_tag_Field)) :=
  (jn (fun (v1 : (List S_tag_Field)) => some v1) fun k2 => m_thing_bytes_l0 F k2 F (0 : Int) ([] : List S_tag_Field))
noncomputable def m_thing_pairs (F : Nat)  : Option ((List S_tag_Field)) :=
  gd (3 = ([(⟨(0 : Int), (16 : Int)⟩ : S_tag_Field), (⟨(16 : Int), (16 : Int)⟩ : S_tag_Field), (⟨(32 : Int), (16 : Int)⟩ : S_tag_Field)] : List S_tag_Field).length) (some ([(⟨(0 : Int), (16 : Int)⟩ : S_tag_Field), (⟨(16 : Int), (16 : Int)⟩ : S_tag_Field), (⟨(32 : Int), (16 : Int)⟩ : S_tag_Field)] : List S_tag_Field))
noncomputable def m_thing_Put (F : Nat) (a0 : S_thing_Thing) : Option ((List Int)) :=
  (m_thing_Good F a0).bind fun x1 => (bif (!x1) then some ([] : (List Int)) else (jn (fun (v3 : Int) => (jn (fun (v5 : Int) => (jn (fun (v7 : Int) => (jn (fun (_ : Unit) => some ((([v5, v7, a0.xWord] : List Int) ++ ([a0.xData.c0, a0.xData.c1, a0.xData.c2, a0.xData.c3] : List Int)) ++ ([(0 : Int)] : List Int))) fun k9 => gd ((([v5, v7, a0.xWord] : List Int).length + ([a0.xData.c0, a0.xData.c1, a0.xData.c2, a0.xData.c3] : List Int).length) * 8 ≤ 140737488355328) (gd (((([v5, v7, a0.xWord] : List Int) ++ ([a0.xData.c0, a0.xData.c1, a0.xData.c2, a0.xData.c3] : List Int)).length + ([(0 : Int)] : List Int).length) * 8 ≤ 140737488355328) (k9 ())))) fun k8 => (m_thing_pairs F ).bind fun x12 => (m_tag_Put F x12 ([(IntKind.u64.wrap a0.xSize), (IntKind.u64.wrap a0.xUsed), (IntKind.u64.wrap a0.xBadge)] : List Int)).bind fun x13 => k8 x13.1)) fun k6 => (m_thing_bytes F ).bind fun x14 => (m_tag_Put F x14 ([(IntKind.u64.wrap a0.xType), (IntKind.u64.wrap a0.xBits), (IntKind.u64.wrap a0.xBase), v3, (IntKind.u64.wrap a0.xFrom)] : List Int)).bind fun x15 => k6 x15.1)) fun k4 => (bif a0.xFull then k4 (1 : Int) else k4 (0 : Int))))
noncomputable def m_image_Put_l0 (F : Nat) (a0 : S_state_State) (k14 : (List Int) → Option ((List Int))) : Nat → Int → (List Int) → Option ((List Int))
  | 0, _, _ => none
  | n33 + 1, v31, v32 => (bif (decide (v31 < ((a0.xThings.length : Nat) : Int))) then gd (ix a0.xThings v31) ((m_geo_Thing F a0.xGeo v31).bind fun x36 => gd (0 ≤ x36 ∧ x36 ≤ ((v32.length : Nat) : Int) ∧ ((v32.length : Nat) : Int) ≤ ((v32.length : Nat) : Int)) ((m_thing_Put F (nth a0.xThings v31)).bind fun x38 => gd ((0 + x36.toNat * 1) + min x38.length (((v32.length : Nat) : Int).toNat - x36.toNat) ≤ v32.length) (gd (inI (v31 + (1 : Int))) (m_image_Put_l0 F a0 k14 n33 (v31 + (1 : Int)) (cpy v32 (0 + x36.toNat * 1) (((v32.length : Nat) : Int).toNat - x36.toNat) x38))))) else k14 v32)
noncomputable def m_image_Put_l1 (F : Nat) (a0 : S_state_State) (k12 : (List Int) → Option ((List Int))) : Nat → Int → (List Int) → Option ((List Int))
  | 0, _, _ => none
  | n63 + 1, v61, v62 => (bif (decide (v61 < ((a0.xSlots.length : Nat) : Int))) then gd (ix a0.xSlots v61) ((m_geo_Slot F a0.xGeo v61).bind fun x66 => (m_cap_Word F ((nth a0.xSlots v61).xCap)).bind fun x67 => gd (ix v62 x66) (gd (inI (x66 + (1 : Int))) (gd (inI ((nth a0.xSlots v61).xUp + (1 : Int))) (gd (ix v62 (x66 + (1 : Int))) (gd (inI (v61 + (1 : Int))) (m_image_Put_l1 F a0 k12 n63 (v61 + (1 : Int)) (setn (setn v62 x66 x67.1) (x66 + (1 : Int)) (IntKind.u64.wrap ((nth a0.xSlots v61).xUp + (1 : Int)))))))))) else k12 v62)
noncomputable def m_image_Put (F : Nat) (a0 : S_state_State) (a1 : Int) : Option ((List Int)) :=
  (m_state_Good F a0).bind fun x1 => (bif (!x1) then some ([] : (List Int)) else (m_geo_Rows F a0.xGeo).bind fun x3 => gd (inI (x3 * (8 : Int))) (gd (0 ≤ (x3 * (8 : Int)) ∧ (x3 * (8 : Int)) ≤ (x3 * (8 : Int)) ∧ 8 * (x3 * (8 : Int)) ≤ 281474976710656 ∧ (x3 * (8 : Int)) ≤ 9223372036854775807) ((m_super_Put F (⟨a0.xGeo, a1⟩ : S_super_Super)).bind fun x6 => gd (0 + min x6.length (List.replicate (x3 * (8 : Int)).toNat (0 : Int)).length ≤ (List.replicate (x3 * (8 : Int)).toNat (0 : Int)).length) ((m_geo_Copy F a0.xGeo).bind fun x8 => gd (0 ≤ x8 ∧ x8 ≤ (((List.replicate (x3 * (8 : Int)).toNat (0 : Int)).length : Nat) : Int) ∧ (((List.replicate (x3 * (8 : Int)).toNat (0 : Int)).length : Nat) : Int) ≤ (((List.replicate (x3 * (8 : Int)).toNat (0 : Int)).length : Nat) : Int)) (gd ((0 + x8.toNat * 1) + min x6.length ((((List.replicate (x3 * (8 : Int)).toNat (0 : Int)).length : Nat) : Int).toNat - x8.toNat) ≤ (cpy (List.replicate (x3 * (8 : Int)).toNat (0 : Int)) 0 ((List.replicate (x3 * (8 : Int)).toNat (0 : Int)).length) x6).length) ((jn (fun (v11 : (List Int)) => (jn (fun (v13 : (List Int)) => some v13) fun k14 => m_image_Put_l0 F a0 k14 F (0 : Int) v11)) fun k12 => m_image_Put_l1 F a0 k12 F (0 : Int) (cpy (cpy (List.replicate (x3 * (8 : Int)).toNat (0 : Int)) 0 ((List.replicate (x3 * (8 : Int)).toNat (0 : Int)).length) x6) (0 + x8.toNat * 1) ((((List.replicate (x3 * (8 : Int)).toNat (0 : Int)).length : Nat) : Int).toNat - x8.toNat) x6))))))))
noncomputable def m_nvm_New (F : Nat) (a0 : Int) : Option (Option S_nvm_Mem × Int) :=
  (bif ((decide (a0 < (1 : Int))) || (decide ((4096 : Int) < a0))) then some (none, (1 : Int)) else gd (0 ≤ a0 ∧ a0 ≤ a0 ∧ 136 * a0 ≤ 281474976710656 ∧ a0 ≤ 9223372036854775807) (some ((some (⟨(List.replicate a0.toNat (⟨(⟨(0 : Int), (0 : Int), (0 : Int), (0 : Int), (0 : Int), (0 : Int), (0 : Int), (0 : Int)⟩ : V8 Int), (⟨(0 : Int), (0 : Int), (0 : Int), (0 : Int), (0 : Int), (0 : Int), (0 : Int), (0 : Int)⟩ : V8 Int), false, false⟩ : S_row_Row)), false, (0 : Int), (0 : Int), ([] : (List Int))⟩ : S_nvm_Mem)), (0 : Int))))
noncomputable def m_nvm_From_l0 (F : Nat) (a0 : (List Int)) (k4 : Unit → Option (Option S_nvm_Mem × Int)) : Nat → Unit → Option (Option S_nvm_Mem × Int)
  | 0, _ => none
  | n7 + 1, _ => (bif (decide ((0 : Int) < ((a0.length : Nat) : Int))) then gd (ix a0 (0 : Int)) (none) else k4 ())
noncomputable def m_nvm_From_l1 (F : Nat) (a0 : (List Int)) (k12 : (List S_row_Row) → Option (Option S_nvm_Mem × Int)) : Nat → Int → (List S_row_Row) → Option (Option S_nvm_Mem × Int)
  | 0, _, _ => none
  | n29 + 1, v27, v28 => (bif (decide (v27 < ((a0.length : Nat) : Int))) then gd (ix a0 v27) (gd (ix v28 (IntKind.i64.wrap (Int.tdiv v27 8))) (gd (0 ≤ (Int.tmod v27 8) ∧ (Int.tmod v27 8) < ((8 : Nat) : Int)) (gd (0 ≤ (Int.tmod v27 8) ∧ (Int.tmod v27 8) < ((8 : Nat) : Int)) (gd (inI (v27 + (1 : Int))) (m_nvm_From_l1 F a0 k12 n29 (v27 + (1 : Int)) (setn v28 (IntKind.i64.wrap (Int.tdiv v27 8)) (⟨(((nth v28 (IntKind.i64.wrap (Int.tdiv v27 8))).xLasts).put (Int.tmod v27 8).toNat (nth a0 v27)), (((nth v28 (IntKind.i64.wrap (Int.tdiv v27 8))).xNew).put (Int.tmod v27 8).toNat (nth a0 v27)), (nth v28 (IntKind.i64.wrap (Int.tdiv v27 8))).xOut, (nth v28 (IntKind.i64.wrap (Int.tdiv v27 8))).xSent⟩ : S_row_Row))))))) else k12 v28)
noncomputable def m_nvm_From (F : Nat) (a0 : (List Int)) : Option (Option S_nvm_Mem × Int) :=
  (m_nvm_New F (IntKind.i64.wrap (Int.tdiv ((a0.length : Nat) : Int) 8))).bind fun x1 => optc (x1.1) (bif ((x1.2 != (0 : Int)) || ((Int.tmod ((a0.length : Nat) : Int) 8) != (0 : Int))) then some (none, (1 : Int)) else (jn (fun (_ : Unit) => some (none, (0 : Int))) fun k4 => m_nvm_From_l0 F a0 k4 F ())) fun o2 => (bif ((x1.2 != (0 : Int)) || ((Int.tmod ((a0.length : Nat) : Int) 8) != (0 : Int))) then some (none, (1 : Int)) else (jn (fun (v11 : (List S_row_Row)) => some ((some (⟨v11, o2.xoff, o2.xcount, o2.xfuse, o2.xkeep⟩ : S_nvm_Mem)), (0 : Int))) fun k12 => m_nvm_From_l1 F a0 k12 F (0 : Int) o2.xl))
noncomputable def m_boot_Make (F : Nat) (a0 : S_geo_Geo) (a1 : Int) : Option (Option S_nvm_Mem × Int) :=
  (m_state_New F a0 a1).bind fun x1 => (bif (x1.2 != (0 : Int)) then some (none, x1.2) else (m_image_Put F x1.1 (0 : Int)).bind fun x3 => (m_nvm_From F x3).bind fun x4 => optc (x4.1) (some (none, x4.2)) fun o5 => some ((some o5), x4.2))
noncomputable def m_nvm_Mem_Off (F : Nat) (a0 : S_nvm_Mem) : Option (Bool) :=
  some a0.xoff
noncomputable def m_nvm_Mem_Words_l0 (F : Nat) (a0 : S_nvm_Mem) (k4 : (List Int) → Option ((List Int))) : Nat → Int → (List Int) → Option ((List Int))
  | 0, _, _ => none
  | n17 + 1, v15, v16 => (bif (decide (v15 < ((a0.xl.length : Nat) : Int))) then gd (ix a0.xl v15) (gd ((v16.length + ([(nth a0.xl v15).xNew.c0, (nth a0.xl v15).xNew.c1, (nth a0.xl v15).xNew.c2, (nth a0.xl v15).xNew.c3, (nth a0.xl v15).xNew.c4, (nth a0.xl v15).xNew.c5, (nth a0.xl v15).xNew.c6, (nth a0.xl v15).xNew.c7] : List Int).length) * 8 ≤ 140737488355328) (gd (inI (v15 + (1 : Int))) (m_nvm_Mem_Words_l0 F a0 k4 n17 (v15 + (1 : Int)) (v16 ++ ([(nth a0.xl v15).xNew.c0, (nth a0.xl v15).xNew.c1, (nth a0.xl v15).xNew.c2, (nth a0.xl v15).xNew.c3, (nth a0.xl v15).xNew.c4, (nth a0.xl v15).xNew.c5, (nth a0.xl v15).xNew.c6, (nth a0.xl v15).xNew.c7] : List Int))))) else k4 v16)
noncomputable def m_nvm_Mem_Words (F : Nat) (a0 : S_nvm_Mem) : Option ((List Int)) :=
  gd (inI (((a0.xl.length : Nat) : Int) * (8 : Int))) (gd (0 ≤ (0 : Int) ∧ (0 : Int) ≤ (((a0.xl.length : Nat) : Int) * (8 : Int)) ∧ 8 * (((a0.xl.length : Nat) : Int) * (8 : Int)) ≤ 281474976710656 ∧ (((a0.xl.length : Nat) : Int) * (8 : Int)) ≤ 9223372036854775807) ((jn (fun (v3 : (List Int)) => some v3) fun k4 => m_nvm_Mem_Words_l0 F a0 k4 F (0 : Int) (List.replicate (0 : Int).toNat (0 : Int)))))
noncomputable def m_slices_Equal_uint64_l0 (F : Nat) (a0 : (List Int)) (a1 : (List Int)) (k2 : Unit → Option (Bool)) : Nat → Int → Option (Bool)
  | 0, _ => none
  | n15 + 1, v14 => (bif (decide (v14 < ((a0.length : Nat) : Int))) then gd (ix a0 v14) (gd (ix a1 v14) ((bif ((nth a0 v14) != (nth a1 v14)) then some false else gd (inI (v14 + (1 : Int))) (m_slices_Equal_uint64_l0 F a0 a1 k2 n15 (v14 + (1 : Int)))))) else k2 ())
noncomputable def m_slices_Equal_uint64 (F : Nat) (a0 : (List Int)) (a1 : (List Int)) : Option (Bool) :=
  (bif (((a0.length : Nat) : Int) != ((a1.length : Nat) : Int)) then some false else (jn (fun (_ : Unit) => some true) fun k2 => m_slices_Equal_uint64_l0 F a0 a1 k2 F (0 : Int)))
noncomputable def m_super_Get (F : Nat) (a0 : (List Int)) : Option (S_super_Super × Bool) :=
  gd ((((a0.length : Nat) : Int) != (8 : Int)) = false → ix a0 (1 : Int)) (gd ((((a0.length : Nat) : Int) != (8 : Int)) = false → ix a0 (2 : Int)) (gd ((((a0.length : Nat) : Int) != (8 : Int)) = false → ix a0 (3 : Int)) ((lz (((((a0.length : Nat) : Int) != (8 : Int)) == false)) ((bu Tryz.prog .max #[42, 42, 42] 42 #[false, false, false] [(.int .u64 (nth a0 (1 : Int))), (.int .u64 (nth a0 (2 : Int))), (.int .u64 (nth a0 (3 : Int)))]).bind (int? .u64))).bind fun x4 => (bif ((((a0.length : Nat) : Int) != (8 : Int)) || (decide ((4096 : Int) < x4))) then some ((⟨(⟨(0 : Int), (0 : Int), (0 : Int)⟩ : S_geo_Geo), (0 : Int)⟩ : S_super_Super), false) else gd (ix a0 (1 : Int)) (gd (ix a0 (2 : Int)) (gd (ix a0 (3 : Int)) (gd (ix a0 (4 : Int)) ((m_super_Put F (⟨(⟨(IntKind.i64.wrap (nth a0 (1 : Int))), (IntKind.i64.wrap (nth a0 (2 : Int))), (IntKind.i64.wrap (nth a0 (3 : Int)))⟩ : S_geo_Geo), (nth a0 (4 : Int))⟩ : S_super_Super)).bind fun x10 => (m_slices_Equal_uint64 F x10 a0).bind fun x11 => (bif (!x11) then some ((⟨(⟨(0 : Int), (0 : Int), (0 : Int)⟩ : S_geo_Geo), (0 : Int)⟩ : S_super_Super), false) else some ((⟨(⟨(IntKind.i64.wrap (nth a0 (1 : Int))), (IntKind.i64.wrap (nth a0 (2 : Int))), (IntKind.i64.wrap (nth a0 (3 : Int)))⟩ : S_geo_Geo), (nth a0 (4 : Int))⟩ : S_super_Super), true))))))))))
noncomputable def m_super_Find (F : Nat) (a0 : (List Int)) : Option (S_super_Super × Bool × Bool) :=
  (bif ((decide (((a0.length : Nat) : Int) < (8 : Int))) || ((Int.tmod ((a0.length : Nat) : Int) 8) != (0 : Int))) then some ((⟨(⟨(0 : Int), (0 : Int), (0 : Int)⟩ : S_geo_Geo), (0 : Int)⟩ : S_super_Super), false, false) else gd (0 ≤ (0 : Int) ∧ (0 : Int) ≤ (8 : Int) ∧ (8 : Int) ≤ ((a0.length : Nat) : Int)) ((m_super_Get F (cut a0 (0 : Int) (8 : Int))).bind fun x3 => (lz ((x3.2 == true)) (m_geo_Rows F x3.1.xGeo)).bind fun x4 => gd (inI (((a0.length : Nat) : Int) - (8 : Int))) (gd (0 ≤ (((a0.length : Nat) : Int) - (8 : Int)) ∧ (((a0.length : Nat) : Int) - (8 : Int)) ≤ ((a0.length : Nat) : Int) ∧ ((a0.length : Nat) : Int) ≤ ((a0.length : Nat) : Int)) ((m_super_Get F (cut a0 (((a0.length : Nat) : Int) - (8 : Int)) ((a0.length : Nat) : Int))).bind fun x7 => (lz ((x7.2 == true)) (m_geo_Rows F x7.1.xGeo)).bind fun x8 => (bif (x3.2 && (x4 == (IntKind.i64.wrap (Int.tdiv ((a0.length : Nat) : Int) 8)))) then some (x3.1, (x3.2 && (x4 == (IntKind.i64.wrap (Int.tdiv ((a0.length : Nat) : Int) 8)))), (x7.2 && (x8 == (IntKind.i64.wrap (Int.tdiv ((a0.length : Nat) : Int) 8))))) else (bif (x7.2 && (x8 == (IntKind.i64.wrap (Int.tdiv ((a0.length : Nat) : Int) 8)))) then some (x7.1, (x3.2 && (x4 == (IntKind.i64.wrap (Int.tdiv ((a0.length : Nat) : Int) 8)))), (x7.2 && (x8 == (IntKind.i64.wrap (Int.tdiv ((a0.length : Nat) : Int) 8))))) else some ((⟨(⟨(0 : Int), (0 : Int), (0 : Int)⟩ : S_geo_Geo), (0 : Int)⟩ : S_super_Super), false, false)))))))
noncomputable def m_geo_Desc (F : Nat) (a0 : S_geo_Geo) (a1 : Int) : Option (Int × Int) :=
  (m_geo_Good F a0).bind fun x1 => gd ((!x1) = false → inI (a0.xThreads - (1 : Int))) ((lz (((!x1) == false)) (m_geo_in F a1 (0 : Int) (a0.xThreads - (1 : Int)))).bind fun x3 => (bif ((!x1) || (!x3)) then some ((0 : Int), (0 : Int)) else gd (inI (a1 * (1208 : Int))) (gd (inI ((16 : Int) + (a1 * (1208 : Int)))) (some (((16 : Int) + (a1 * (1208 : Int))), (1208 : Int))))))
noncomputable def m_opd_fields (F : Nat)  : Option ((List S_tag_Field)) :=
  gd (4 = ([(⟨(0 : Int), (8 : Int)⟩ : S_tag_Field), (⟨(8 : Int), (8 : Int)⟩ : S_tag_Field), (⟨(16 : Int), (16 : Int)⟩ : S_tag_Field), (⟨(32 : Int), (32 : Int)⟩ : S_tag_Field)] : List S_tag_Field).length) (some ([(⟨(0 : Int), (8 : Int)⟩ : S_tag_Field), (⟨(8 : Int), (8 : Int)⟩ : S_tag_Field), (⟨(16 : Int), (16 : Int)⟩ : S_tag_Field), (⟨(32 : Int), (32 : Int)⟩ : S_tag_Field)] : List S_tag_Field))
noncomputable def m_tag_Get_l0 (F : Nat) (a0 : Int) (a1 : (List S_tag_Field)) (k5 : (List Int) → Option ((List Int))) : Nat → Int → (List Int) → Option ((List Int))
  | 0, _, _ => none
  | n22 + 1, v20, v21 => (bif (decide (v20 < ((a1.length : Nat) : Int))) then gd (ix a1 v20) ((m_tag_Field_mask F (nth a1 v20)).bind fun x25 => gd (0 ≤ (nth a1 v20).xFrom) (gd ((v21.length + ([(ishr .u64 (iand .u64 a0 x25) ((nth a1 v20).xFrom))] : List Int).length) * 8 ≤ 140737488355328) (gd (inI (v20 + (1 : Int))) (m_tag_Get_l0 F a0 a1 k5 n22 (v20 + (1 : Int)) (v21 ++ ([(ishr .u64 (iand .u64 a0 x25) ((nth a1 v20).xFrom))] : List Int)))))) else k5 v21)
noncomputable def m_tag_Get (F : Nat) (a0 : Int) (a1 : (List S_tag_Field)) : Option ((List Int)) :=
  (m_tag_Good F a1).bind fun x1 => (bif (!x1) then some ([] : (List Int)) else gd (0 ≤ (0 : Int) ∧ (0 : Int) ≤ ((a1.length : Nat) : Int) ∧ 8 * ((a1.length : Nat) : Int) ≤ 281474976710656 ∧ ((a1.length : Nat) : Int) ≤ 9223372036854775807) ((jn (fun (v4 : (List Int)) => some v4) fun k5 => m_tag_Get_l0 F a0 a1 k5 F (0 : Int) (List.replicate (0 : Int).toNat (0 : Int)))))
noncomputable def m_wset_Good_l0 (F : Nat) (a0 : S_geo_Geo) (a1 : (List S_wset_Write)) (k5 : Unit → Option (Bool)) : Nat → Int → Int → Option (Bool)
  | 0, _, _ => none
  | n20 + 1, v18, v19 => (bif (decide (v19 < ((a1.length : Nat) : Int))) then gd (ix a1 v19) ((lz (((decide ((nth a1 v19).xAt ≤ v18)) == false)) (m_geo_Copy F a0)).bind fun x23 => (bif ((decide ((nth a1 v19).xAt ≤ v18)) || (decide (x23 ≤ (nth a1 v19).xAt))) then some false else gd (inI (v19 + (1 : Int))) (m_wset_Good_l0 F a0 a1 k5 n20 ((nth a1 v19).xAt) (v19 + (1 : Int))))) else k5 ())
noncomputable def m_wset_Good (F : Nat) (a0 : S_geo_Geo) (a1 : (List S_wset_Write)) : Option (Bool) :=
  (m_geo_Good F a0).bind fun x1 => (bif ((!x1) || (decide ((600 : Int) < ((a1.length : Nat) : Int)))) then some false else (m_geo_Slot F a0 (0 : Int)).bind fun x3 => gd (inI (x3 - (1 : Int))) ((jn (fun (_ : Unit) => some true) fun k5 => m_wset_Good_l0 F a0 a1 k5 F (x3 - (1 : Int)) (0 : Int))))
noncomputable def m_opd_Good (F : Nat) (a0 : S_geo_Geo) (a1 : S_opd_Desc) : Option (Bool) :=
  (m_wset_Good F a0 a1.xW).bind fun x1 => (bif (((((!x1) || (decide (a1.xReply.xErr < (0 : Int)))) || (decide ((255 : Int) < a1.xReply.xErr))) || (decide (a1.xReply.xN < (0 : Int)))) || (decide ((2147483647 : Int) < a1.xReply.xN))) then some false else (bif (a1.xStatus == (0 : Int)) then some (((((a1.xReply.xErr == (0 : Int)) && ((a1.xReply.xW == (0 : Int)) && ((a1.xReply.xN == (0 : Int)) && true))) && (((a1.xW.length : Nat) : Int) == (0 : Int))) && (a1.xSeq == (0 : Int))) && ((a1.xL.c0 == (0 : Int)) && ((a1.xL.c1 == (0 : Int)) && ((a1.xL.c2 == (0 : Int)) && ((a1.xL.c3 == (0 : Int)) && true))))) else (jn (fun (v4 : Bool) => (bif v4 then some (((((a1.xReply.xErr == (0 : Int)) && ((a1.xReply.xW == (0 : Int)) && ((a1.xReply.xN == (0 : Int)) && true))) && (((a1.xW.length : Nat) : Int) == (0 : Int))) && (decide ((1 : Int) ≤ a1.xSeq))) && (decide (a1.xSeq ≤ (4294967295 : Int)))) else (jn (fun (v7 : Bool) => (bif v7 then some ((decide ((1 : Int) ≤ a1.xSeq)) && (decide (a1.xSeq ≤ (4294967295 : Int)))) else some false)) fun k8 => (bif (a1.xStatus == (2 : Int)) then k8 (a1.xStatus == (2 : Int)) else k8 (a1.xStatus == (3 : Int)))))) fun k5 => (bif (a1.xStatus == (1 : Int)) then k5 (a1.xStatus == (1 : Int)) else k5 (a1.xStatus == (4 : Int))))))
noncomputable def m_opd_Get_l0 (F : Nat) (a1 : (List Int)) (x9 : ((List Int))) (k21 : (List S_wset_Write) → Option (S_opd_Desc × Bool)) : Nat → Int → (List S_wset_Write) → Option (S_opd_Desc × Bool)
  | 0, _, _ => none
  | n51 + 1, v49, v50 => (bif (decide (v49 < (IntKind.i64.wrap (nth x9 (2 : Int))))) then gd (inI ((2 : Int) * v49)) (gd (inI ((8 : Int) + ((2 : Int) * v49))) (gd (ix a1 ((8 : Int) + ((2 : Int) * v49))) ((bif (decide ((2147483647 : Int) < (nth a1 ((8 : Int) + ((2 : Int) * v49))))) then some ((⟨(0 : Int), (0 : Int), (⟨(0 : Int), (0 : Int), (0 : Int), (0 : Int)⟩ : V4 Int), (⟨(0 : Int), (0 : Int), (0 : Int)⟩ : S_state_Reply), ([] : (List S_wset_Write))⟩ : S_opd_Desc), false) else gd (inI ((2 : Int) * v49)) (gd (inI ((8 : Int) + ((2 : Int) * v49))) (gd (inI (((8 : Int) + ((2 : Int) * v49)) + (1 : Int))) (gd (ix a1 (((8 : Int) + ((2 : Int) * v49)) + (1 : Int))) (gd ((v50.length + ([(⟨(IntKind.i64.wrap (nth a1 ((8 : Int) + ((2 : Int) * v49)))), (nth a1 (((8 : Int) + ((2 : Int) * v49)) + (1 : Int)))⟩ : S_wset_Write)] : List S_wset_Write).length) * 16 ≤ 140737488355328) (gd (inI (v49 + (1 : Int))) (m_opd_Get_l0 F a1 x9 k21 n51 (v49 + (1 : Int)) (v50 ++ ([(⟨(IntKind.i64.wrap (nth a1 ((8 : Int) + ((2 : Int) * v49)))), (nth a1 (((8 : Int) + ((2 : Int) * v49)) + (1 : Int)))⟩ : S_wset_Write)] : List S_wset_Write)))))))))))) else k21 v50)
noncomputable def m_opd_Get (F : Nat) (a0 : S_geo_Geo) (a1 : (List Int)) : Option (S_opd_Desc × Bool) :=
  (m_geo_Desc F a0 (0 : Int)).bind fun x1 => (bif ((x1.2 == (0 : Int)) || (((a1.length : Nat) : Int) != x1.2)) then some ((⟨(0 : Int), (0 : Int), (⟨(0 : Int), (0 : Int), (0 : Int), (0 : Int)⟩ : V4 Int), (⟨(0 : Int), (0 : Int), (0 : Int)⟩ : S_state_Reply), ([] : (List S_wset_Write))⟩ : S_opd_Desc), false) else gd (ix a1 (0 : Int)) ((bif ((nth a1 (0 : Int)) == (0 : Int)) then (jn (fun (_ : Unit) => some ((⟨(0 : Int), (0 : Int), (⟨(0 : Int), (0 : Int), (0 : Int), (0 : Int)⟩ : V4 Int), (⟨(0 : Int), (0 : Int), (0 : Int)⟩ : S_state_Reply), ([] : (List S_wset_Write))⟩ : S_opd_Desc), ((nth a1 (7 : Int)) == (0 : Int)))) fun k5 => gd (ix a1 (7 : Int)) (k5 ())) else gd (ix a1 (0 : Int)) ((m_opd_fields F ).bind fun x8 => (m_tag_Get F (nth a1 (0 : Int)) x8).bind fun x9 => gd (ix x9 (0 : Int)) (gd (ix x9 (3 : Int)) (gd (0 ≤ (1 : Int) ∧ (1 : Int) ≤ ((a1.length : Nat) : Int) ∧ ((a1.length : Nat) : Int) ≤ ((a1.length : Nat) : Int)) (gd (4 ≤ (cut a1 (1 : Int) ((a1.length : Nat) : Int)).length) (gd (ix x9 (1 : Int)) (gd (ix x9 (2 : Int)) ((bif (decide ((600 : Int) < (IntKind.i64.wrap (nth x9 (2 : Int))))) then some ((⟨(0 : Int), (0 : Int), (⟨(0 : Int), (0 : Int), (0 : Int), (0 : Int)⟩ : V4 Int), (⟨(0 : Int), (0 : Int), (0 : Int)⟩ : S_state_Reply), ([] : (List S_wset_Write))⟩ : S_opd_Desc), false) else (jn (fun (v17 : Int) (v18 : Int) => (jn (fun (v20 : (List S_wset_Write)) => (m_opd_Good F a0 (⟨(IntKind.i64.wrap (nth x9 (0 : Int))), (nth x9 (3 : Int)), (⟨(nth (cut a1 (1 : Int) ((a1.length : Nat) : Int)) 0), (nth (cut a1 (1 : Int) ((a1.length : Nat) : Int)) 1), (nth (cut a1 (1 : Int) ((a1.length : Nat) : Int)) 2), (nth (cut a1 (1 : Int) ((a1.length : Nat) : Int)) 3)⟩ : V4 Int), (⟨(IntKind.i64.wrap (nth x9 (1 : Int))), v17, v18⟩ : S_state_Reply), v20⟩ : S_opd_Desc)).bind fun x22 => gd ((!x22) = false → ix a1 (7 : Int)) ((bif ((!x22) || ((nth a1 (7 : Int)) != (0 : Int))) then some ((⟨(0 : Int), (0 : Int), (⟨(0 : Int), (0 : Int), (0 : Int), (0 : Int)⟩ : V4 Int), (⟨(0 : Int), (0 : Int), (0 : Int)⟩ : S_state_Reply), ([] : (List S_wset_Write))⟩ : S_opd_Desc), false) else some ((⟨(IntKind.i64.wrap (nth x9 (0 : Int))), (nth x9 (3 : Int)), (⟨(nth (cut a1 (1 : Int) ((a1.length : Nat) : Int)) 0), (nth (cut a1 (1 : Int) ((a1.length : Nat) : Int)) 1), (nth (cut a1 (1 : Int) ((a1.length : Nat) : Int)) 2), (nth (cut a1 (1 : Int) ((a1.length : Nat) : Int)) 3)⟩ : V4 Int), (⟨(IntKind.i64.wrap (nth x9 (1 : Int))), v17, v18⟩ : S_state_Reply), v20⟩ : S_opd_Desc), true)))) fun k21 => m_opd_Get_l0 F a1 x9 k21 F (0 : Int) ([] : List S_wset_Write))) fun k19 => (bif ((IntKind.i64.wrap (nth x9 (0 : Int))) != (1 : Int)) then gd (ix a1 (6 : Int)) ((bif (decide ((2147483647 : Int) < (nth a1 (6 : Int)))) then some ((⟨(0 : Int), (0 : Int), (⟨(0 : Int), (0 : Int), (0 : Int), (0 : Int)⟩ : V4 Int), (⟨(0 : Int), (0 : Int), (0 : Int)⟩ : S_state_Reply), ([] : (List S_wset_Write))⟩ : S_opd_Desc), false) else gd (ix a1 (5 : Int)) (gd (ix a1 (6 : Int)) (k19 (nth a1 (5 : Int)) (IntKind.i64.wrap (nth a1 (6 : Int))))))) else k19 (0 : Int) (0 : Int))))))))))))))
noncomputable def m_wset_Do_l0 (F : Nat) (a1 : (List S_wset_Write)) (k3 : (List Int) → Option ((List Int))) : Nat → Int → (List Int) → Option ((List Int))
  | 0, _, _ => none
  | n22 + 1, v20, v21 => (bif (decide (v20 < ((a1.length : Nat) : Int))) then (jn (fun (v24 : (List Int)) => gd (inI (v20 + (1 : Int))) (m_wset_Do_l0 F a1 k3 n22 (v20 + (1 : Int)) v24)) fun k25 => gd (ix a1 v20) ((bif ((decide ((0 : Int) ≤ (nth a1 v20).xAt)) && (decide ((nth a1 v20).xAt < ((v21.length : Nat) : Int)))) then gd (ix v21 ((nth a1 v20).xAt)) (k25 (setn v21 ((nth a1 v20).xAt) ((nth a1 v20).xV))) else k25 v21))) else k3 v21)
noncomputable def m_wset_Do (F : Nat) (a0 : (List Int)) (a1 : (List S_wset_Write)) : Option ((List Int)) :=
  gd (a0.length * 8 ≤ 140737488355328) ((jn (fun (v2 : (List Int)) => some v2) fun k3 => m_wset_Do_l0 F a1 k3 F (0 : Int) a0))
noncomputable def m_tag_Rest (F : Nat) (a0 : Int) (a1 : (List S_tag_Field)) : Option (Int) :=
  (m_tag_all F a1).bind fun x1 => some (iandn .u64 a0 x1.1)
noncomputable def m_cap_Get (F : Nat) (a0 : Int) : Option (S_cap_Cap × Bool) :=
  (m_cap_fields F ).bind fun x1 => (m_tag_Get F a0 x1).bind fun x2 => gd (ix x2 (0 : Int)) (gd (ix x2 (3 : Int)) (gd (ix x2 (1 : Int)) (gd (ix x2 (2 : Int)) ((m_cap_fields F ).bind fun x7 => (m_tag_Rest F a0 x7).bind fun x8 => (lz (((x8 != (0 : Int)) == false)) (m_cap_Good F (⟨(IntKind.i64.wrap (nth x2 (0 : Int))), (IntKind.i64.wrap (nth x2 (3 : Int))), (IntKind.i64.wrap (nth x2 (1 : Int))), (IntKind.i64.wrap (nth x2 (2 : Int)))⟩ : S_cap_Cap))).bind fun x9 => (bif ((x8 != (0 : Int)) || (!x9)) then some ((⟨(0 : Int), (0 : Int), (0 : Int), (0 : Int)⟩ : S_cap_Cap), false) else some ((⟨(IntKind.i64.wrap (nth x2 (0 : Int))), (IntKind.i64.wrap (nth x2 (3 : Int))), (IntKind.i64.wrap (nth x2 (1 : Int))), (IntKind.i64.wrap (nth x2 (2 : Int)))⟩ : S_cap_Cap), true))))))
noncomputable def m_thing_Get (F : Nat) (a0 : (List Int)) : Option (S_thing_Thing × Bool) :=
  (bif (((a0.length : Nat) : Int) != (8 : Int)) then some ((⟨(0 : Int), (0 : Int), (0 : Int), (0 : Int), (0 : Int), (0 : Int), (0 : Int), false, (0 : Int), (⟨(0 : Int), (0 : Int), (0 : Int), (0 : Int)⟩ : V4 Int)⟩ : S_thing_Thing), false) else gd (ix a0 (0 : Int)) ((m_thing_bytes F ).bind fun x3 => (m_tag_Get F (nth a0 (0 : Int)) x3).bind fun x4 => gd (ix a0 (1 : Int)) ((m_thing_pairs F ).bind fun x6 => (m_tag_Get F (nth a0 (1 : Int)) x6).bind fun x7 => gd (ix x4 (0 : Int)) (gd (ix x4 (1 : Int)) (gd (ix x4 (2 : Int)) (gd (ix x4 (3 : Int)) (gd (ix x4 (4 : Int)) (gd (ix x7 (0 : Int)) (gd (ix x7 (1 : Int)) (gd (ix x7 (2 : Int)) (gd (ix a0 (2 : Int)) (gd (0 ≤ (3 : Int) ∧ (3 : Int) ≤ ((a0.length : Nat) : Int) ∧ ((a0.length : Nat) : Int) ≤ ((a0.length : Nat) : Int)) (gd (4 ≤ (cut a0 (3 : Int) ((a0.length : Nat) : Int)).length) ((m_thing_Put F (⟨(IntKind.i64.wrap (nth x4 (0 : Int))), (IntKind.i64.wrap (nth x4 (1 : Int))), (IntKind.i64.wrap (nth x4 (2 : Int))), (IntKind.i64.wrap (nth x7 (0 : Int))), (IntKind.i64.wrap (nth x7 (1 : Int))), (IntKind.i64.wrap (nth x4 (4 : Int))), (IntKind.i64.wrap (nth x7 (2 : Int))), ((nth x4 (3 : Int)) == (1 : Int)), (nth a0 (2 : Int)), (⟨(nth (cut a0 (3 : Int) ((a0.length : Nat) : Int)) 0), (nth (cut a0 (3 : Int) ((a0.length : Nat) : Int)) 1), (nth (cut a0 (3 : Int) ((a0.length : Nat) : Int)) 2), (nth (cut a0 (3 : Int) ((a0.length : Nat) : Int)) 3)⟩ : V4 Int)⟩ : S_thing_Thing)).bind fun x19 => (m_slices_Equal_uint64 F x19 a0).bind fun x20 => (bif (!x20) then some ((⟨(0 : Int), (0 : Int), (0 : Int), (0 : Int), (0 : Int), (0 : Int), (0 : Int), false, (0 : Int), (⟨(0 : Int), (0 : Int), (0 : Int), (0 : Int)⟩ : V4 Int)⟩ : S_thing_Thing), false) else some ((⟨(IntKind.i64.wrap (nth x4 (0 : Int))), (IntKind.i64.wrap (nth x4 (1 : Int))), (IntKind.i64.wrap (nth x4 (2 : Int))), (IntKind.i64.wrap (nth x7 (0 : Int))), (IntKind.i64.wrap (nth x7 (1 : Int))), (IntKind.i64.wrap (nth x4 (4 : Int))), (IntKind.i64.wrap (nth x7 (2 : Int))), ((nth x4 (3 : Int)) == (1 : Int)), (nth a0 (2 : Int)), (⟨(nth (cut a0 (3 : Int) ((a0.length : Nat) : Int)) 0), (nth (cut a0 (3 : Int) ((a0.length : Nat) : Int)) 1), (nth (cut a0 (3 : Int) ((a0.length : Nat) : Int)) 2), (nth (cut a0 (3 : Int) ((a0.length : Nat) : Int)) 3)⟩ : V4 Int)⟩ : S_thing_Thing), true))))))))))))))))
noncomputable def m_image_Get_l0 (F : Nat) (a0 : (List Int)) (x1 : (S_super_Super × Bool × Bool)) (k6 : (List S_thing_Thing) → Option (S_state_State × Int)) : Nat → Int → (List S_thing_Thing) → Option (S_state_State × Int)
  | 0, _, _ => none
  | n29 + 1, v27, v28 => (bif (decide (v27 < x1.1.xGeo.xThings)) then (m_geo_Thing F x1.1.xGeo v27).bind fun x31 => gd (inI (x31 + (8 : Int))) (gd (0 ≤ x31 ∧ x31 ≤ (x31 + (8 : Int)) ∧ (x31 + (8 : Int)) ≤ ((a0.length : Nat) : Int)) ((m_thing_Get F (cut a0 x31 (x31 + (8 : Int)))).bind fun x34 => (bif (!x34.2) then some ((⟨(⟨(0 : Int), (0 : Int), (0 : Int)⟩ : S_geo_Geo), ([] : (List S_state_Slot)), ([] : (List S_thing_Thing))⟩ : S_state_State), (2 : Int)) else gd ((v28.length + ([x34.1] : List S_thing_Thing).length) * 104 ≤ 140737488355328) (gd (inI (v27 + (1 : Int))) (m_image_Get_l0 F a0 x1 k6 n29 (v27 + (1 : Int)) (v28 ++ ([x34.1] : List S_thing_Thing))))))) else k6 v28)
noncomputable def m_image_Get_l1 (F : Nat) (a0 : (List Int)) (x1 : (S_super_Super × Bool × Bool)) (k4 : (List S_state_Slot) → Option (S_state_State × Int)) : Nat → Int → (List S_state_Slot) → Option (S_state_State × Int)
  | 0, _, _ => none
  | n70 + 1, v68, v69 => (bif (decide (v68 < x1.1.xGeo.xSlots)) then (jn (fun (v72 : (List S_state_Slot)) => gd (inI (v68 + (1 : Int))) (m_image_Get_l1 F a0 x1 k4 n70 (v68 + (1 : Int)) v72)) fun k73 => (m_geo_Slot F x1.1.xGeo v68).bind fun x75 => gd (ix a0 x75) ((m_cap_Get F (nth a0 x75)).bind fun x77 => gd ((!x77.2) = false → inI (x75 + (1 : Int))) (gd ((!x77.2) = false → ix a0 (x75 + (1 : Int))) ((bif ((!x77.2) || (decide ((96 : Int) < (nth a0 (x75 + (1 : Int)))))) then some ((⟨(⟨(0 : Int), (0 : Int), (0 : Int)⟩ : S_geo_Geo), ([] : (List S_state_Slot)), ([] : (List S_thing_Thing))⟩ : S_state_State), (2 : Int)) else gd (inI (x75 + (1 : Int))) (gd (ix a0 (x75 + (1 : Int))) (gd (inI ((IntKind.i64.wrap (nth a0 (x75 + (1 : Int)))) - (1 : Int))) (gd ((v69.length + ([(⟨x77.1, ((IntKind.i64.wrap (nth a0 (x75 + (1 : Int)))) - (1 : Int))⟩ : S_state_Slot)] : List S_state_Slot).length) * 40 ≤ 140737488355328) (k73 (v69 ++ ([(⟨x77.1, ((IntKind.i64.wrap (nth a0 (x75 + (1 : Int)))) - (1 : Int))⟩ : S_state_Slot)] : List S_state_Slot))))))))))) else k4 v69)
noncomputable def m_image_Get (F : Nat) (a0 : (List Int)) : Option (S_state_State × Int) :=
  (m_super_Find F a0).bind fun x1 => (bif ((!x1.2.1) && (!x1.2.2)) then some ((⟨(⟨(0 : Int), (0 : Int), (0 : Int)⟩ : S_geo_Geo), ([] : (List S_state_Slot)), ([] : (List S_thing_Thing))⟩ : S_state_State), (2 : Int)) else (jn (fun (v3 : (List S_state_Slot)) => (jn (fun (v5 : (List S_thing_Thing)) => (m_state_Good F (⟨x1.1.xGeo, v3, v5⟩ : S_state_State)).bind fun x7 => (bif (!x7) then some ((⟨(⟨(0 : Int), (0 : Int), (0 : Int)⟩ : S_geo_Geo), ([] : (List S_state_Slot)), ([] : (List S_thing_Thing))⟩ : S_state_State), (2 : Int)) else some ((⟨x1.1.xGeo, v3, v5⟩ : S_state_State), (0 : Int)))) fun k6 => m_image_Get_l0 F a0 x1 k6 F (0 : Int) ([] : List S_thing_Thing))) fun k4 => m_image_Get_l1 F a0 x1 k4 F (0 : Int) ([] : List S_state_Slot)))
noncomputable def m_boot_read_l0 (F : Nat) (x1 : (S_super_Super × Bool × Bool)) (k9 : (List Int) → Int → (List S_opd_Desc) → Option (S_boot_plan × Bool)) : Nat → (List Int) → Int → Int → (List S_opd_Desc) → Option (S_boot_plan × Bool)
  | 0, _, _, _, _ => none
  | n71 + 1, v67, v68, v69, v70 => (bif (decide (v69 < x1.1.xGeo.xThreads)) then (m_geo_Desc F x1.1.xGeo v69).bind fun x73 => (jn (fun (v74 : Bool) (v75 : Int) (v76 : Int) (v77 : Int) (v78 : Int) (v79 : Int) (v80 : Int) (v81 : Int) (v82 : Int) (v83 : Int) (v84 : (List S_wset_Write)) => (bif (!v74) then some ((⟨(⟨(⟨(0 : Int), (0 : Int), (0 : Int)⟩ : S_geo_Geo), ([] : (List S_state_Slot)), ([] : (List S_thing_Thing))⟩ : S_state_State), ([] : (List S_opd_Desc)), (0 : Int), false⟩ : S_boot_plan), false) else (jn (fun (v87 : (List Int)) (v88 : Int) => gd ((v70.length + ([(⟨v75, v76, (⟨v77, v78, v79, v80⟩ : V4 Int), (⟨v81, v82, v83⟩ : S_state_Reply), v84⟩ : S_opd_Desc)] : List S_opd_Desc).length) * 96 ≤ 140737488355328) (gd (inI (v69 + (1 : Int))) (m_boot_read_l0 F x1 k9 n71 v87 v88 (v69 + (1 : Int)) (v70 ++ ([(⟨v75, v76, (⟨v77, v78, v79, v80⟩ : V4 Int), (⟨v81, v82, v83⟩ : S_state_Reply), v84⟩ : S_opd_Desc)] : List S_opd_Desc))))) fun k89 => (bif (v75 == (2 : Int)) then gd (inI (v68 + (1 : Int))) ((m_wset_Do F v67 v84).bind fun x94 => k89 x94 (v68 + (1 : Int))) else k89 v67 v68)))) fun k85 => gd (inI (x73.1 + x73.2)) (gd (0 ≤ x73.1 ∧ x73.1 ≤ (x73.1 + x73.2) ∧ (x73.1 + x73.2) ≤ ((v67.length : Nat) : Int)) ((m_opd_Get F x1.1.xGeo (cut v67 x73.1 (x73.1 + x73.2))).bind fun x97 => k85 x97.2 x97.1.xStatus x97.1.xSeq x97.1.xL.c0 x97.1.xL.c1 x97.1.xL.c2 x97.1.xL.c3 x97.1.xReply.xErr x97.1.xReply.xW x97.1.xReply.xN x97.1.xW))) else k9 v67 v68 v70)
noncomputable def m_boot_read (F : Nat) (a0 : (List Int)) : Option (S_boot_plan × Bool) :=
  (m_super_Find F a0).bind fun x1 => (bif ((!x1.2.1) && (!x1.2.2)) then some ((⟨(⟨(⟨(0 : Int), (0 : Int), (0 : Int)⟩ : S_geo_Geo), ([] : (List S_state_Slot)), ([] : (List S_thing_Thing))⟩ : S_state_State), ([] : (List S_opd_Desc)), (0 : Int), false⟩ : S_boot_plan), false) else (jn (fun (v3 : Int) => (bif (decide ((4611686018427387904 : Int) ≤ v3)) then some ((⟨(⟨(⟨(0 : Int), (0 : Int), (0 : Int)⟩ : S_geo_Geo), ([] : (List S_state_Slot)), ([] : (List S_thing_Thing))⟩ : S_state_State), ([] : (List S_opd_Desc)), (0 : Int), false⟩ : S_boot_plan), false) else (jn (fun (v6 : (List Int)) (v7 : Int) (v8 : (List S_opd_Desc)) => (m_image_Get F v6).bind fun x10 => some ((⟨x10.1, v8, (IntKind.u64.wrap (v3 + (1 : Int))), x1.2.1⟩ : S_boot_plan), ((decide (v7 ≤ (1 : Int))) && (x10.2 == (0 : Int))))) fun k9 => m_boot_read_l0 F x1 k9 F a0 (0 : Int) (0 : Int) ([] : List S_opd_Desc)))) fun k4 => gd (inI (((a0.length : Nat) : Int) - (8 : Int))) (gd (0 ≤ (((a0.length : Nat) : Int) - (8 : Int)) ∧ (((a0.length : Nat) : Int) - (8 : Int)) ≤ ((a0.length : Nat) : Int) ∧ ((a0.length : Nat) : Int) ≤ ((a0.length : Nat) : Int)) ((m_super_Get F (cut a0 (((a0.length : Nat) : Int) - (8 : Int)) ((a0.length : Nat) : Int))).bind fun x100 => (bif (x100.2 && x1.2.2) then ((bu Tryz.prog .max #[42, 42] 42 #[false, false] [(.int .u64 x1.1.xBoot), (.int .u64 x100.1.xBoot)]).bind (int? .u64)).bind fun x102 => k4 x102 else k4 x1.1.xBoot)))))
noncomputable def m_boot_then (F : Nat) (a0 : S_opd_Desc) : Option (S_opd_Desc) :=
  (jn (fun (v1 : Int) => some (⟨v1, a0.xSeq, a0.xL, a0.xReply, a0.xW⟩ : S_opd_Desc)) fun k2 => (bif (a0.xStatus == (2 : Int)) then k2 (3 : Int) else (bif (a0.xStatus == (1 : Int)) then k2 (4 : Int) else k2 a0.xStatus)))
noncomputable def m_slices_Max_uint64_l0 (F : Nat) (a0 : (List Int)) (k4 : Int → Option (Int)) : Nat → Int → Int → Option (Int)
  | 0, _, _ => none
  | n17 + 1, v15, v16 => (bif (decide (v16 < ((a0.length : Nat) : Int))) then gd (ix a0 v16) (((bu Tryz.prog .max #[42, 42] 42 #[false, false] [(.int .u64 v15), (.int .u64 (nth a0 v16))]).bind (int? .u64)).bind fun x20 => gd (inI (v16 + (1 : Int))) (m_slices_Max_uint64_l0 F a0 k4 n17 x20 (v16 + (1 : Int)))) else k4 v15)
noncomputable def m_slices_Max_uint64 (F : Nat) (a0 : (List Int)) : Option (Int) :=
  (jn (fun (_ : Unit) => gd (ix a0 (0 : Int)) ((jn (fun (v3 : Int) => some v3) fun k4 => m_slices_Max_uint64_l0 F a0 k4 F (nth a0 (0 : Int)) (1 : Int)))) fun k1 => (bif (decide (((a0.length : Nat) : Int) < (1 : Int))) then none else k1 ()))
noncomputable def m_opd_First (F : Nat) (a0 : S_opd_Desc) : Option (Int) :=
  (m_opd_fields F ).bind fun x1 => (m_tag_Put F x1 ([(IntKind.u64.wrap a0.xStatus), (IntKind.u64.wrap a0.xReply.xErr), (IntKind.u64.wrap ((a0.xW.length : Nat) : Int)), a0.xSeq] : List Int)).bind fun x2 => gd (((!x2.2) || (decide ((600 : Int) < ((a0.xW.length : Nat) : Int)))) = false → 0 ≤ (0 : Int) ∧ (0 : Int) ≤ (2 : Int) ∧ (2 : Int) ≤ ((4 : Nat) : Int)) ((lz ((((!x2.2) || (decide ((600 : Int) < ((a0.xW.length : Nat) : Int)))) == false)) (m_slices_Max_uint64 F ([(IntKind.u64.wrap a0.xStatus), (IntKind.u64.wrap a0.xReply.xErr)] : List Int))).bind fun x4 => (bif (((!x2.2) || (decide ((600 : Int) < ((a0.xW.length : Nat) : Int)))) || (decide ((255 : Int) < x4))) then some (0 : Int) else some x2.1))
noncomputable def m_geo_Lock (F : Nat) (a0 : S_geo_Geo) : Option (Int) :=
  (m_geo_Good F a0).bind fun x1 => (bif (!x1) then some (0 : Int) else some (8 : Int))
noncomputable def m_boot_block_l0 (F : Nat) (a1 : Int) (k2 : (List S_wset_Write) → Option ((List S_wset_Write))) (x3 : ((List Int))) : Nat → Int → (List S_wset_Write) → Option ((List S_wset_Write))
  | 0, _, _ => none
  | n18 + 1, v16, v17 => (bif (decide (v16 < ((x3.length : Nat) : Int))) then gd (ix x3 v16) (gd (inI (a1 + v16)) (gd ((v17.length + ([(⟨(a1 + v16), (nth x3 v16)⟩ : S_wset_Write)] : List S_wset_Write).length) * 16 ≤ 140737488355328) (gd (inI (v16 + (1 : Int))) (m_boot_block_l0 F a1 k2 x3 n18 (v16 + (1 : Int)) (v17 ++ ([(⟨(a1 + v16), (nth x3 v16)⟩ : S_wset_Write)] : List S_wset_Write)))))) else k2 v17)
noncomputable def m_boot_block (F : Nat) (a0 : S_boot_plan) (a1 : Int) : Option ((List S_wset_Write)) :=
  (jn (fun (v1 : (List S_wset_Write)) => some v1) fun k2 => (m_super_Put F (⟨a0.xs.xGeo, a0.xboot⟩ : S_super_Super)).bind fun x3 => m_boot_block_l0 F a1 k2 x3 F (0 : Int) ([] : List S_wset_Write))
noncomputable def m_boot_steps_l0 (F : Nat) (a0 : S_boot_plan) (k3 : (List S_wset_Write) → (List (List S_wset_Write)) → Option ((List (List S_wset_Write)))) : Nat → Int → (List S_wset_Write) → (List (List S_wset_Write)) → Option ((List (List S_wset_Write)))
  | 0, _, _, _ => none
  | n57 + 1, v54, v55, v56 => (bif (decide (v54 < ((a0.xwas.length : Nat) : Int))) then gd (ix a0.xwas v54) ((m_geo_Desc F a0.xs.xGeo v54).bind fun x60 => (jn (fun (v61 : (List (List S_wset_Write))) => (jn (fun (v63 : (List S_wset_Write)) => (m_boot_then F (nth a0.xwas v54)).bind fun x65 => (m_opd_First F x65).bind fun x66 => gd ((v63.length + ([(⟨x60.1, x66⟩ : S_wset_Write)] : List S_wset_Write).length) * 16 ≤ 140737488355328) (gd (inI (v54 + (1 : Int))) (m_boot_steps_l0 F a0 k3 n57 (v54 + (1 : Int)) (v63 ++ ([(⟨x60.1, x66⟩ : S_wset_Write)] : List S_wset_Write)) v61))) fun k64 => (bif ((nth a0.xwas v54).xStatus == (1 : Int)) then gd (inI (x60.1 + (5 : Int))) (gd (inI (x60.1 + (6 : Int))) (gd ((v55.length + ([(⟨(x60.1 + (5 : Int)), (0 : Int)⟩ : S_wset_Write), (⟨(x60.1 + (6 : Int)), (0 : Int)⟩ : S_wset_Write)] : List S_wset_Write).length) * 16 ≤ 140737488355328) (k64 (v55 ++ ([(⟨(x60.1 + (5 : Int)), (0 : Int)⟩ : S_wset_Write), (⟨(x60.1 + (6 : Int)), (0 : Int)⟩ : S_wset_Write)] : List S_wset_Write))))) else k64 v55))) fun k62 => (bif ((nth a0.xwas v54).xStatus == (2 : Int)) then gd ((v56.length + ([(nth a0.xwas v54).xW] : List (List S_wset_Write)).length) * 24 ≤ 140737488355328) (k62 (v56 ++ ([(nth a0.xwas v54).xW] : List (List S_wset_Write)))) else k62 v56))) else k3 v55 v56)
noncomputable def m_boot_steps (F : Nat) (a0 : S_boot_plan) : Option ((List (List S_wset_Write))) :=
  (jn (fun (v1 : (List S_wset_Write)) (v2 : (List (List S_wset_Write))) => (m_geo_Lock F a0.xs.xGeo).bind fun x4 => gd (1 = ([(⟨x4, (0 : Int)⟩ : S_wset_Write)] : List S_wset_Write).length) (gd (1 = ([(⟨x4, (0 : Int)⟩ : S_wset_Write)] : List S_wset_Write).length) (gd ((v2.length + ([v1, ([(⟨x4, (0 : Int)⟩ : S_wset_Write)] : List S_wset_Write)] : List (List S_wset_Write)).length) * 24 ≤ 140737488355328) ((bif a0.xfirst then (m_geo_Copy F a0.xs.xGeo).bind fun x9 => (m_boot_block F a0 x9).bind fun x10 => (m_boot_block F a0 (0 : Int)).bind fun x11 => gd (((v2 ++ ([v1, ([(⟨x4, (0 : Int)⟩ : S_wset_Write)] : List S_wset_Write)] : List (List S_wset_Write))).length + ([x10, x11] : List (List S_wset_Write)).length) * 24 ≤ 140737488355328) (some ((v2 ++ ([v1, ([(⟨x4, (0 : Int)⟩ : S_wset_Write)] : List S_wset_Write)] : List (List S_wset_Write))) ++ ([x10, x11] : List (List S_wset_Write)))) else (m_boot_block F a0 (0 : Int)).bind fun x13 => (m_geo_Copy F a0.xs.xGeo).bind fun x14 => (m_boot_block F a0 x14).bind fun x15 => gd (((v2 ++ ([v1, ([(⟨x4, (0 : Int)⟩ : S_wset_Write)] : List S_wset_Write)] : List (List S_wset_Write))).length + ([x13, x15] : List (List S_wset_Write)).length) * 24 ≤ 140737488355328) (some ((v2 ++ ([v1, ([(⟨x4, (0 : Int)⟩ : S_wset_Write)] : List S_wset_Write)] : List (List S_wset_Write))) ++ ([x13, x15] : List (List S_wset_Write))))))))) fun k3 => m_boot_steps_l0 F a0 k3 F (0 : Int) ([] : List S_wset_Write) ([] : List (List S_wset_Write)))
noncomputable def m_nvm_Mem_may (F : Nat) (a0 : S_nvm_Mem) (a1 : Int) (a2 : Int) : Option (Int) :=
  (bif a0.xoff then some (12 : Int) else (bif ((decide (a1 < (0 : Int))) || (decide (a2 ≤ a1))) then some (1 : Int) else some (0 : Int)))
noncomputable def m_slices_Index_int_l0 (F : Nat) (a0 : (List Int)) (a1 : Int) (k1 : Unit → Option (Int)) : Nat → Int → Option (Int)
  | 0, _ => none
  | n12 + 1, v11 => (bif (decide (v11 < ((a0.length : Nat) : Int))) then gd (ix a0 v11) ((bif (a1 == (nth a0 v11)) then some v11 else gd (inI (v11 + (1 : Int))) (m_slices_Index_int_l0 F a0 a1 k1 n12 (v11 + (1 : Int))))) else k1 ())
noncomputable def m_slices_Index_int (F : Nat) (a0 : (List Int)) (a1 : Int) : Option (Int) :=
  (jn (fun (_ : Unit) => some (-1 : Int)) fun k1 => m_slices_Index_int_l0 F a0 a1 k1 F (0 : Int))
noncomputable def m_slices_Contains_int (F : Nat) (a0 : (List Int)) (a1 : Int) : Option (Bool) :=
  (m_slices_Index_int F a0 a1).bind fun x1 => some (decide ((0 : Int) ≤ x1))
noncomputable def m_row_Row_Evict (F : Nat) (a0 : S_nvm_Mem) (a0i : Int) : Option (S_nvm_Mem × Bool) :=
  gd (ix a0.xl a0i) ((bif (!(nth a0.xl a0i).xOut) then some (a0, false) else some ((⟨(setn a0.xl a0i (⟨(nth a0.xl a0i).xNew, (nth a0.xl a0i).xNew, false, false⟩ : S_row_Row)), a0.xoff, a0.xcount, a0.xfuse, a0.xkeep⟩ : S_nvm_Mem), true)))
noncomputable def m_row_Row_Fall (F : Nat) (a0 : S_nvm_Mem) (a0i : Int) (a1 : Bool) : Option (S_nvm_Mem × Bool) :=
  gd (ix a0.xl a0i) ((bif (a1 || (!(nth a0.xl a0i).xOut)) then (m_row_Row_Evict F a0 a0i).bind fun x2 => some (x2.1, x2.2) else some ((⟨(setn a0.xl a0i (⟨(nth a0.xl a0i).xLasts, (nth a0.xl a0i).xLasts, false, false⟩ : S_row_Row)), a0.xoff, a0.xcount, a0.xfuse, a0.xkeep⟩ : S_nvm_Mem), true)))
noncomputable def m_nvm_Mem_Crash_l0 (F : Nat) (a0 : S_nvm_Mem) (a1 : (List Int)) (k7 : (List S_row_Row) → Bool → Int → Int → (List Int) → Option (S_nvm_Mem)) : Nat → Int → (List S_row_Row) → Bool → Int → Int → (List Int) → Option (S_nvm_Mem)
  | 0, _, _, _, _, _, _ => none
  | n30 + 1, v24, v25, v26, v27, v28, v29 => (bif (decide (v24 < ((a0.xl.length : Nat) : Int))) then gd (ix v25 v24) ((m_slices_Contains_int F a1 v24).bind fun x33 => (m_row_Row_Fall F (⟨v25, v26, v27, v28, v29⟩ : S_nvm_Mem) v24 x33).bind fun x34 => gd (inI (v24 + (1 : Int))) (m_nvm_Mem_Crash_l0 F a0 a1 k7 n30 (v24 + (1 : Int)) x34.1.xl x34.1.xoff x34.1.xcount x34.1.xfuse x34.1.xkeep)) else k7 v25 v26 v27 v28 v29)
noncomputable def m_nvm_Mem_Crash (F : Nat) (a0 : S_nvm_Mem) (a1 : (List Int)) : Option (S_nvm_Mem) :=
  (bif a0.xoff then some a0 else (jn (fun (v2 : (List S_row_Row)) (v3 : Bool) (v4 : Int) (v5 : Int) (v6 : (List Int)) => some (⟨v2, true, v4, (0 : Int), v6⟩ : S_nvm_Mem)) fun k7 => m_nvm_Mem_Crash_l0 F a0 a1 k7 F (0 : Int) a0.xl a0.xoff a0.xcount a0.xfuse a0.xkeep))
noncomputable def m_nvm_Mem_burn (F : Nat) (a0 : S_nvm_Mem) : Option (S_nvm_Mem × Bool) :=
  (jn (fun (v1 : Int) => gd (inI (a0.xcount + (1 : Int))) (some ((⟨a0.xl, a0.xoff, (a0.xcount + (1 : Int)), v1, a0.xkeep⟩ : S_nvm_Mem), true))) fun k2 => (bif (decide ((0 : Int) < a0.xfuse)) then gd (inI (a0.xfuse - (1 : Int))) ((bif ((a0.xfuse - (1 : Int)) == (0 : Int)) then (m_nvm_Mem_Crash F (⟨a0.xl, a0.xoff, a0.xcount, (a0.xfuse - (1 : Int)), a0.xkeep⟩ : S_nvm_Mem) a0.xkeep).bind fun x7 => some (x7, false) else k2 (a0.xfuse - (1 : Int)))) else k2 a0.xfuse))
noncomputable def m_row_in (F : Nat) (a0 : Int) : Option (Bool) :=
  some ((decide ((0 : Int) ≤ a0)) && (decide (a0 < (8 : Int))))
noncomputable def m_row_Row_Store (F : Nat) (a0 : S_nvm_Mem) (a0i : Int) (a1 : Int) (a2 : Int) : Option (S_nvm_Mem × Bool) :=
  gd (ix a0.xl a0i) ((m_row_in F a1).bind fun x1 => (bif (!x1) then some (a0, false) else gd (0 ≤ a1 ∧ a1 < ((8 : Nat) : Int)) (some ((⟨(setn a0.xl a0i (⟨(nth a0.xl a0i).xLasts, (((nth a0.xl a0i).xNew).put a1.toNat a2), true, false⟩ : S_row_Row)), a0.xoff, a0.xcount, a0.xfuse, a0.xkeep⟩ : S_nvm_Mem), true))))
noncomputable def m_nvm_Mem_Store (F : Nat) (a0 : S_nvm_Mem) (a1 : Int) (a2 : Int) : Option (S_nvm_Mem × Int) :=
  gd (inI (((a0.xl.length : Nat) : Int) * (8 : Int))) ((m_nvm_Mem_may F a0 a1 (((a0.xl.length : Nat) : Int) * (8 : Int))).bind fun x2 => (bif (x2 != (0 : Int)) then some (a0, x2) else (m_nvm_Mem_burn F a0).bind fun x4 => (bif (!x4.2) then some (x4.1, (12 : Int)) else gd (ix x4.1.xl (IntKind.i64.wrap (Int.tdiv a1 8))) ((m_row_Row_Store F x4.1 (IntKind.i64.wrap (Int.tdiv a1 8)) (Int.tmod a1 8) a2).bind fun x7 => some (x7.1, (0 : Int))))))
noncomputable def m_wset_Rows_l0 (F : Nat) (a0 : (List S_wset_Write)) (k2 : (List Int) → Option ((List Int))) : Nat → Int → (List Int) → Option ((List Int))
  | 0, _, _ => none
  | n23 + 1, v21, v22 => (bif (decide (v21 < ((a0.length : Nat) : Int))) then (jn (fun (v25 : (List Int)) => gd (inI (v21 + (1 : Int))) (m_wset_Rows_l0 F a0 k2 n23 (v21 + (1 : Int)) v25)) fun k26 => gd (ix a0 v21) ((bif (decide ((0 : Int) ≤ (nth a0 v21).xAt)) then gd ((v22.length + ([(IntKind.i64.wrap (Int.tdiv ((nth a0 v21).xAt) 8))] : List Int).length) * 8 ≤ 140737488355328) (k26 (v22 ++ ([(IntKind.i64.wrap (Int.tdiv ((nth a0 v21).xAt) 8))] : List Int))) else k26 v22))) else k2 v22)
noncomputable def m_wset_Rows (F : Nat) (a0 : (List S_wset_Write)) : Option ((List Int)) :=
  (jn (fun (v1 : (List Int)) => gd (v1.length < 4611686018427387904) (gd ((sortI v1).length < 4611686018427387904) (some (compI (sortI v1))))) fun k2 => m_wset_Rows_l0 F a0 k2 F (0 : Int) ([] : List Int))
noncomputable def m_row_Row_Flush (F : Nat) (a0 : S_nvm_Mem) (a0i : Int) : Option (S_nvm_Mem) :=
  gd (ix a0.xl a0i) (some (⟨(setn a0.xl a0i (⟨(nth a0.xl a0i).xLasts, (nth a0.xl a0i).xNew, (nth a0.xl a0i).xOut, ((nth a0.xl a0i).xSent || (nth a0.xl a0i).xOut)⟩ : S_row_Row)), a0.xoff, a0.xcount, a0.xfuse, a0.xkeep⟩ : S_nvm_Mem))
noncomputable def m_nvm_Mem_Flush (F : Nat) (a0 : S_nvm_Mem) (a1 : Int) : Option (S_nvm_Mem × Int) :=
  (m_nvm_Mem_may F a0 a1 ((a0.xl.length : Nat) : Int)).bind fun x1 => (bif (x1 != (0 : Int)) then some (a0, x1) else (m_nvm_Mem_burn F a0).bind fun x3 => (bif (!x3.2) then some (x3.1, (12 : Int)) else gd (ix x3.1.xl a1) ((m_row_Row_Flush F x3.1 a1).bind fun x6 => some (x6, (0 : Int)))))
noncomputable def m_row_Row_Fence (F : Nat) (a0 : S_nvm_Mem) (a0i : Int) : Option (S_nvm_Mem × Bool) :=
  gd (ix a0.xl a0i) ((bif (nth a0.xl a0i).xSent then (m_row_Row_Evict F a0 a0i).bind fun x2 => some (x2.1, x2.2) else some (a0, false)))
noncomputable def m_nvm_Mem_Fence_l0 (F : Nat) (x3 : (S_nvm_Mem × Bool)) (k10 : (List S_row_Row) → Bool → Int → Int → (List Int) → Option (S_nvm_Mem × Int)) : Nat → Int → (List S_row_Row) → Bool → Int → Int → (List Int) → Option (S_nvm_Mem × Int)
  | 0, _, _, _, _, _, _ => none
  | n31 + 1, v25, v26, v27, v28, v29, v30 => (bif (decide (v25 < ((x3.1.xl.length : Nat) : Int))) then gd (ix v26 v25) ((m_row_Row_Fence F (⟨v26, v27, v28, v29, v30⟩ : S_nvm_Mem) v25).bind fun x34 => gd (inI (v25 + (1 : Int))) (m_nvm_Mem_Fence_l0 F x3 k10 n31 (v25 + (1 : Int)) x34.1.xl x34.1.xoff x34.1.xcount x34.1.xfuse x34.1.xkeep)) else k10 v26 v27 v28 v29 v30)
noncomputable def m_nvm_Mem_Fence (F : Nat) (a0 : S_nvm_Mem) : Option (S_nvm_Mem × Int) :=
  (m_nvm_Mem_may F a0 (0 : Int) (1 : Int)).bind fun x1 => (bif (x1 != (0 : Int)) then some (a0, x1) else (m_nvm_Mem_burn F a0).bind fun x3 => (bif (!x3.2) then some (x3.1, (12 : Int)) else (jn (fun (v5 : (List S_row_Row)) (v6 : Bool) (v7 : Int) (v8 : Int) (v9 : (List Int)) => some ((⟨v5, v6, v7, v8, v9⟩ : S_nvm_Mem), (0 : Int))) fun k10 => m_nvm_Mem_Fence_l0 F x3 k10 F (0 : Int) x3.1.xl x3.1.xoff x3.1.xcount x3.1.xfuse x3.1.xkeep)))
noncomputable def m_boot_last_l0 (F : Nat) (k12 : (List S_row_Row) → Bool → Int → Int → (List Int) → Option (S_nvm_Mem × Int)) (x14 : ((List Int))) : Nat → Int → (List S_row_Row) → Bool → Int → Int → (List Int) → Option (S_nvm_Mem × Int)
  | 0, _, _, _, _, _, _ => none
  | n37 + 1, v31, v32, v33, v34, v35, v36 => (bif (decide (v31 < ((x14.length : Nat) : Int))) then gd (ix x14 v31) ((m_nvm_Mem_Flush F (⟨v32, v33, v34, v35, v36⟩ : S_nvm_Mem) (nth x14 v31)).bind fun x40 => (bif (x40.2 != (0 : Int)) then some (x40.1, x40.2) else gd (inI (v31 + (1 : Int))) (m_boot_last_l0 F k12 x14 n37 (v31 + (1 : Int)) x40.1.xl x40.1.xoff x40.1.xcount x40.1.xfuse x40.1.xkeep))) else k12 v32 v33 v34 v35 v36)
noncomputable def m_boot_last_l1 (F : Nat) (a1 : (List S_wset_Write)) (k6 : (List S_row_Row) → Bool → Int → Int → (List Int) → Option (S_nvm_Mem × Int)) : Nat → Int → (List S_row_Row) → Bool → Int → Int → (List Int) → Option (S_nvm_Mem × Int)
  | 0, _, _, _, _, _, _ => none
  | n65 + 1, v59, v60, v61, v62, v63, v64 => (bif (decide (v59 < ((a1.length : Nat) : Int))) then gd (ix a1 v59) ((m_nvm_Mem_Store F (⟨v60, v61, v62, v63, v64⟩ : S_nvm_Mem) ((nth a1 v59).xAt) ((nth a1 v59).xV)).bind fun x68 => (bif (x68.2 != (0 : Int)) then some (x68.1, x68.2) else gd (inI (v59 + (1 : Int))) (m_boot_last_l1 F a1 k6 n65 (v59 + (1 : Int)) x68.1.xl x68.1.xoff x68.1.xcount x68.1.xfuse x68.1.xkeep))) else k6 v60 v61 v62 v63 v64)
noncomputable def m_boot_last (F : Nat) (a0 : S_nvm_Mem) (a1 : (List S_wset_Write)) : Option (S_nvm_Mem × Int) :=
  (jn (fun (v1 : (List S_row_Row)) (v2 : Bool) (v3 : Int) (v4 : Int) (v5 : (List Int)) => (jn (fun (v7 : (List S_row_Row)) (v8 : Bool) (v9 : Int) (v10 : Int) (v11 : (List Int)) => (m_nvm_Mem_Fence F (⟨v7, v8, v9, v10, v11⟩ : S_nvm_Mem)).bind fun x13 => some (x13.1, x13.2)) fun k12 => (m_wset_Rows F a1).bind fun x14 => m_boot_last_l0 F k12 x14 F (0 : Int) v1 v2 v3 v4 v5)) fun k6 => m_boot_last_l1 F a1 k6 F (0 : Int) a0.xl a0.xoff a0.xcount a0.xfuse a0.xkeep)
noncomputable def m_gear_New_l0 (F : Nat) (x4 : ((List Int))) (x5 : (S_state_State × Int)) (k9 : Unit → Option (Option S_gear_Gear × Int)) : Nat → Int → Option (Option S_gear_Gear × Int)
  | 0, _ => none
  | n51 + 1, v50 => (bif (decide (v50 < x5.1.xGeo.xThreads)) then (m_geo_Desc F x5.1.xGeo v50).bind fun x53 => (jn (fun (v54 : Bool) (v55 : Int) (v56 : Int) (v57 : Int) (v58 : Int) (v59 : Int) (v60 : Int) (v61 : Int) (v62 : Int) (v63 : Int) (v64 : (List S_wset_Write)) => (bif (((!v54) || (v55 == (1 : Int))) || (v55 == (2 : Int))) then some (none, (2 : Int)) else gd (inI (v50 + (1 : Int))) (m_gear_New_l0 F x4 x5 k9 n51 (v50 + (1 : Int))))) fun k65 => gd (inI (x53.1 + x53.2)) (gd (0 ≤ x53.1 ∧ x53.1 ≤ (x53.1 + x53.2) ∧ (x53.1 + x53.2) ≤ ((x4.length : Nat) : Int)) ((m_opd_Get F x5.1.xGeo (cut x4 x53.1 (x53.1 + x53.2))).bind fun x70 => k65 x70.2 x70.1.xStatus x70.1.xSeq x70.1.xL.c0 x70.1.xL.c1 x70.1.xL.c2 x70.1.xL.c3 x70.1.xReply.xErr x70.1.xReply.xW x70.1.xReply.xN x70.1.xW))) else k9 ())
noncomputable def m_gear_New (F : Nat) (a0 : S_nvm_Mem) : Option (Option S_gear_Gear × Int) :=
  (m_nvm_Mem_Off F a0).bind fun x2 => (bif x2 then some (none, (12 : Int)) else (m_nvm_Mem_Words F a0).bind fun x4 => (m_image_Get F x4).bind fun x5 => (lz (((x5.2 != (0 : Int)) == false)) (m_geo_Lock F x5.1.xGeo)).bind fun x6 => gd ((x5.2 != (0 : Int)) = false → ix x4 x6) ((bif ((x5.2 != (0 : Int)) || ((nth x4 x6) != (0 : Int))) then some (none, (2 : Int)) else (jn (fun (_ : Unit) => gd (0 ≤ x5.1.xGeo.xThreads ∧ x5.1.xGeo.xThreads ≤ x5.1.xGeo.xThreads ∧ 128 * x5.1.xGeo.xThreads ≤ 281474976710656 ∧ x5.1.xGeo.xThreads ≤ 9223372036854775807) (some ((some (⟨a0, x5.1.xGeo, (List.replicate x5.1.xGeo.xThreads.toNat (⟨(0 : Int), (⟨(0 : Int), (0 : Int), (⟨(0 : Int), (0 : Int), (0 : Int), (0 : Int)⟩ : V4 Int), (⟨(0 : Int), (0 : Int), (0 : Int)⟩ : S_state_Reply), ([] : (List S_wset_Write))⟩ : S_opd_Desc), ([] : (List S_gear_op))⟩ : S_gear_work)), ([] : List Int), false⟩ : S_gear_Gear)), (0 : Int)))) fun k9 => m_gear_New_l0 F x4 x5 k9 F (0 : Int)))))
noncomputable def m_boot_Boot_l0 (F : Nat) (k12 : (List S_row_Row) → Bool → Int → Int → (List Int) → Option (S_nvm_Mem × Option S_gear_Gear × Int)) (x15 : ((List (List S_wset_Write)))) : Nat → Int → (List S_row_Row) → Bool → Int → Int → (List Int) → Option (S_nvm_Mem × Option S_gear_Gear × Int)
  | 0, _, _, _, _, _, _ => none
  | n38 + 1, v32, v33, v34, v35, v36, v37 => (bif (decide (v32 < ((x15.length : Nat) : Int))) then gd (ix x15 v32) ((m_boot_last F (⟨v33, v34, v35, v36, v37⟩ : S_nvm_Mem) (nth x15 v32)).bind fun x41 => (bif (x41.2 != (0 : Int)) then some (x41.1, none, x41.2) else gd (inI (v32 + (1 : Int))) (m_boot_Boot_l0 F k12 x15 n38 (v32 + (1 : Int)) x41.1.xl x41.1.xoff x41.1.xcount x41.1.xfuse x41.1.xkeep))) else k12 v33 v34 v35 v36 v37)
noncomputable def m_boot_Boot (F : Nat) (a0 : S_nvm_Mem) : Option (S_nvm_Mem × Option S_gear_Gear × Int) :=
  (m_nvm_Mem_Off F a0).bind fun x2 => (bif x2 then some (a0, none, (12 : Int)) else (m_nvm_Mem_Words F a0).bind fun x4 => (m_boot_read F x4).bind fun x5 => (bif (!x5.2) then some (a0, none, (2 : Int)) else (jn (fun (v7 : (List S_row_Row)) (v8 : Bool) (v9 : Int) (v10 : Int) (v11 : (List Int)) => (m_gear_New F (⟨v7, v8, v9, v10, v11⟩ : S_nvm_Mem)).bind fun x13 => optc (x13.1) (some ((⟨v7, v8, v9, v10, v11⟩ : S_nvm_Mem), none, x13.2)) fun o14 => some ((⟨v7, v8, v9, v10, v11⟩ : S_nvm_Mem), (some (⟨(⟨v7, v8, v9, v10, v11⟩ : S_nvm_Mem), o14.xgeo, o14.xw, o14.xorder, o14.xdead⟩ : S_gear_Gear)), x13.2)) fun k12 => (m_boot_steps F x5.1).bind fun x15 => m_boot_Boot_l0 F k12 x15 F (0 : Int) a0.xl a0.xoff a0.xcount a0.xfuse a0.xkeep)))
noncomputable def m_gear_Gear_may (F : Nat) (a0 : S_gear_Gear) (a1 : Int) : Option (Int) :=
  (m_nvm_Mem_Off F a0.xm).bind fun x1 => (bif (x1 || a0.xdead) then some (12 : Int) else (bif ((decide (a1 < (0 : Int))) || (decide (((a0.xw.length : Nat) : Int) ≤ a1))) then some (1 : Int) else some (0 : Int)))
noncomputable def m_gear_Gear_desc (F : Nat) (a0 : S_gear_Gear) (a1 : (List Int)) (a2 : Int) : Option (S_opd_Desc × Bool) :=
  (m_geo_Desc F a0.xgeo a2).bind fun x1 => gd (inI (x1.1 + x1.2)) (gd (0 ≤ x1.1 ∧ x1.1 ≤ (x1.1 + x1.2) ∧ (x1.1 + x1.2) ≤ ((a1.length : Nat) : Int)) ((m_opd_Get F a0.xgeo (cut a1 x1.1 (x1.1 + x1.2))).bind fun x4 => some (x4.1, x4.2)))
noncomputable def m_gear_Gear_State_l0 (F : Nat) (a0 : S_gear_Gear) (k5 : (List Int) → Option (S_state_State × Int)) : Nat → (List Int) → Int → Option (S_state_State × Int)
  | 0, _, _ => none
  | n25 + 1, v23, v24 => (bif (decide (v24 < ((a0.xw.length : Nat) : Int))) then (jn (fun (v27 : (List Int)) => gd (inI (v24 + (1 : Int))) (m_gear_Gear_State_l0 F a0 k5 n25 v27 (v24 + (1 : Int)))) fun k28 => (m_gear_Gear_desc F a0 v23 v24).bind fun x30 => (bif (x30.2 && (x30.1.xStatus == (2 : Int))) then (m_wset_Do F v23 x30.1.xW).bind fun x32 => k28 x32 else k28 v23)) else k5 v23)
noncomputable def m_gear_Gear_State (F : Nat) (a0 : S_gear_Gear) : Option (S_state_State × Int) :=
  (m_gear_Gear_may F a0 (0 : Int)).bind fun x1 => (bif (x1 != (0 : Int)) then some ((⟨(⟨(0 : Int), (0 : Int), (0 : Int)⟩ : S_geo_Geo), ([] : (List S_state_Slot)), ([] : (List S_thing_Thing))⟩ : S_state_State), x1) else (m_nvm_Mem_Words F a0.xm).bind fun x3 => (jn (fun (v4 : (List Int)) => (m_image_Get F v4).bind fun x6 => some (x6.1, x6.2)) fun k5 => m_gear_Gear_State_l0 F a0 k5 F x3 (0 : Int)))
noncomputable def m_slices_Equal_state_Slot_l0 (F : Nat) (a0 : (List S_state_Slot)) (a1 : (List S_state_Slot)) (k2 : Unit → Option (Bool)) : Nat → Int → Option (Bool)
  | 0, _ => none
  | n15 + 1, v14 => (bif (decide (v14 < ((a0.length : Nat) : Int))) then gd (ix a0 v14) (gd (ix a1 v14) ((bif (!(((nth a0 v14).xCap.xType == (nth a1 v14).xCap.xType) && (((nth a0 v14).xCap.xThing == (nth a1 v14).xCap.xThing) && (((nth a0 v14).xCap.xRights == (nth a1 v14).xCap.xRights) && (((nth a0 v14).xCap.xBadge == (nth a1 v14).xCap.xBadge) && (((nth a0 v14).xUp == (nth a1 v14).xUp) && true)))))) then some false else gd (inI (v14 + (1 : Int))) (m_slices_Equal_state_Slot_l0 F a0 a1 k2 n15 (v14 + (1 : Int)))))) else k2 ())
noncomputable def m_slices_Equal_state_Slot (F : Nat) (a0 : (List S_state_Slot)) (a1 : (List S_state_Slot)) : Option (Bool) :=
  (bif (((a0.length : Nat) : Int) != ((a1.length : Nat) : Int)) then some false else (jn (fun (_ : Unit) => some true) fun k2 => m_slices_Equal_state_Slot_l0 F a0 a1 k2 F (0 : Int)))
noncomputable def m_slices_Equal_thing_Thing_l0 (F : Nat) (a0 : (List S_thing_Thing)) (a1 : (List S_thing_Thing)) (k2 : Unit → Option (Bool)) : Nat → Int → Option (Bool)
  | 0, _ => none
  | n15 + 1, v14 => (bif (decide (v14 < ((a0.length : Nat) : Int))) then gd (ix a0 v14) (gd (ix a1 v14) ((bif (!(((nth a0 v14).xType == (nth a1 v14).xType) && (((nth a0 v14).xBits == (nth a1 v14).xBits) && (((nth a0 v14).xBase == (nth a1 v14).xBase) && (((nth a0 v14).xSize == (nth a1 v14).xSize) && (((nth a0 v14).xUsed == (nth a1 v14).xUsed) && (((nth a0 v14).xFrom == (nth a1 v14).xFrom) && (((nth a0 v14).xBadge == (nth a1 v14).xBadge) && (((nth a0 v14).xFull == (nth a1 v14).xFull) && (((nth a0 v14).xWord == (nth a1 v14).xWord) && (((nth a0 v14).xData.c0 == (nth a1 v14).xData.c0) && (((nth a0 v14).xData.c1 == (nth a1 v14).xData.c1) && (((nth a0 v14).xData.c2 == (nth a1 v14).xData.c2) && (((nth a0 v14).xData.c3 == (nth a1 v14).xData.c3) && true)))))))))))))) then some false else gd (inI (v14 + (1 : Int))) (m_slices_Equal_thing_Thing_l0 F a0 a1 k2 n15 (v14 + (1 : Int)))))) else k2 ())
noncomputable def m_slices_Equal_thing_Thing (F : Nat) (a0 : (List S_thing_Thing)) (a1 : (List S_thing_Thing)) : Option (Bool) :=
  (bif (((a0.length : Nat) : Int) != ((a1.length : Nat) : Int)) then some false else (jn (fun (_ : Unit) => some true) fun k2 => m_slices_Equal_thing_Thing_l0 F a0 a1 k2 F (0 : Int)))
noncomputable def m_state_Same (F : Nat) (a0 : S_state_State) (a1 : S_state_State) : Option (Bool) :=
  (lz ((((a0.xGeo.xThreads == a1.xGeo.xThreads) && ((a0.xGeo.xSlots == a1.xGeo.xSlots) && ((a0.xGeo.xThings == a1.xGeo.xThings) && true))) == true)) (m_slices_Equal_state_Slot F a0.xSlots a1.xSlots)).bind fun x1 => (lz (((((a0.xGeo.xThreads == a1.xGeo.xThreads) && ((a0.xGeo.xSlots == a1.xGeo.xSlots) && ((a0.xGeo.xThings == a1.xGeo.xThings) && true))) && x1) == true)) (m_slices_Equal_thing_Thing F a0.xThings a1.xThings)).bind fun x2 => some ((((a0.xGeo.xThreads == a1.xGeo.xThreads) && ((a0.xGeo.xSlots == a1.xGeo.xSlots) && ((a0.xGeo.xThings == a1.xGeo.xThings) && true))) && x1) && x2)
noncomputable def m_boot_Sound (F : Nat) (a0 : (List Int)) : Option (Bool) :=
  (m_boot_read F a0).bind fun x1 => some x1.2
noncomputable def m_reevelaw26_awake (F : Nat)  : Option (Bool) :=
  (m_geo_Plain F ).bind fun x1 => (m_boot_Make F x1 (64 : Int)).bind fun x2 => optc (x2.1) (bif ((x2.2 != (0 : Int)) || true) then some false else none) fun o3 => (bif ((x2.2 != (0 : Int)) || false) then some false else (m_boot_Boot F o3).bind fun x6 => optc (x6.2.1) (bif ((x6.2.2 != (0 : Int)) || true) then some false else none) fun o7 => (bif ((x6.2.2 != (0 : Int)) || false) then some false else (m_gear_Gear_State F (⟨x6.1, o7.xgeo, o7.xw, o7.xorder, o7.xdead⟩ : S_gear_Gear)).bind fun x10 => (m_geo_Plain F ).bind fun x11 => (m_state_New F x11 (64 : Int)).bind fun x12 => (m_nvm_Mem_Words F ((⟨x6.1, o7.xgeo, o7.xw, o7.xorder, o7.xdead⟩ : S_gear_Gear).xm)).bind fun x13 => (lz (((x10.2 == (0 : Int)) == true)) (m_state_Same F x10.1 x12.1)).bind fun x14 => gd ((((x10.2 == (0 : Int)) && x14) && (decide ((8 : Int) < ((x13.length : Nat) : Int)))) = true → ix x13 (4 : Int)) ((lz ((((((x10.2 == (0 : Int)) && x14) && (decide ((8 : Int) < ((x13.length : Nat) : Int)))) && ((nth x13 (4 : Int)) == (1 : Int))) == true)) (m_boot_Sound F x13)).bind fun x16 => some (((((x10.2 == (0 : Int)) && x14) && (decide ((8 : Int) < ((x13.length : Nat) : Int)))) && ((nth x13 (4 : Int)) == (1 : Int))) && x16))))
noncomputable def m_nvm_Mem_Out_l0 (F : Nat) (a0 : S_nvm_Mem) (k2 : (List Int) → Option ((List Int))) : Nat → Int → (List Int) → Option ((List Int))
  | 0, _, _ => none
  | n21 + 1, v19, v20 => (bif (decide (v19 < ((a0.xl.length : Nat) : Int))) then (jn (fun (v23 : (List Int)) => gd (inI (v19 + (1 : Int))) (m_nvm_Mem_Out_l0 F a0 k2 n21 (v19 + (1 : Int)) v23)) fun k24 => gd (ix a0.xl v19) ((bif (nth a0.xl v19).xOut then gd ((v20.length + ([v19] : List Int).length) * 8 ≤ 140737488355328) (k24 (v20 ++ ([v19] : List Int))) else k24 v20))) else k2 v20)
noncomputable def m_nvm_Mem_Out (F : Nat) (a0 : S_nvm_Mem) : Option ((List Int)) :=
  (jn (fun (v1 : (List Int)) => some v1) fun k2 => m_nvm_Mem_Out_l0 F a0 k2 F (0 : Int) ([] : List Int))
noncomputable def m_boot_After_l0 (F : Nat) (x1 : (S_boot_plan × Bool)) (k4 : (List S_opd_Desc) → Option (S_state_State × (List S_opd_Desc) × Int × Bool)) : Nat → Int → (List S_opd_Desc) → Option (S_state_State × (List S_opd_Desc) × Int × Bool)
  | 0, _, _ => none
  | n20 + 1, v18, v19 => (bif (decide (v18 < ((x1.1.xwas.length : Nat) : Int))) then gd (ix x1.1.xwas v18) ((m_boot_then F (nth x1.1.xwas v18)).bind fun x23 => gd ((v19.length + ([x23] : List S_opd_Desc).length) * 96 ≤ 140737488355328) (gd (inI (v18 + (1 : Int))) (m_boot_After_l0 F x1 k4 n20 (v18 + (1 : Int)) (v19 ++ ([x23] : List S_opd_Desc))))) else k4 v19)
noncomputable def m_boot_After (F : Nat) (a0 : (List Int)) : Option (S_state_State × (List S_opd_Desc) × Int × Bool) :=
  (m_boot_read F a0).bind fun x1 => (bif (!x1.2) then some ((⟨(⟨(0 : Int), (0 : Int), (0 : Int)⟩ : S_geo_Geo), ([] : (List S_state_Slot)), ([] : (List S_thing_Thing))⟩ : S_state_State), ([] : (List S_opd_Desc)), (0 : Int), false) else (jn (fun (v3 : (List S_opd_Desc)) => (jn (fun (_ : Unit) => some (x1.1.xs, v3, x1.1.xboot, true)) fun k5 => k5 ())) fun k4 => m_boot_After_l0 F x1 k4 F (0 : Int) ([] : List S_opd_Desc)))
noncomputable def m_reevelaw26_BootMakes_l0 (F : Nat) (x13 : (S_state_State × (List S_opd_Desc) × Int × Bool)) (k16 : Unit → Option (Bool)) : Nat → Int → Option (Bool)
  | 0, _ => none
  | n29 + 1, v28 => (bif (decide (v28 < ((x13.2.1.length : Nat) : Int))) then gd (ix x13.2.1 v28) (gd (((nth x13.2.1 v28).xStatus != (0 : Int)) = false → ix x13.2.1 v28) ((bif (((nth x13.2.1 v28).xStatus != (0 : Int)) || ((nth x13.2.1 v28).xSeq != (0 : Int))) then some false else gd (inI (v28 + (1 : Int))) (m_reevelaw26_BootMakes_l0 F x13 k16 n29 (v28 + (1 : Int)))))) else k16 ())
noncomputable def m_reevelaw26_BootMakes (F : Nat) (a0 : S_geo_Geo) (a1 : Int) : Option (Bool) :=
  (m_reevelaw26_awake F ).bind fun x1 => (bif (!x1) then some false else (m_boot_Make F a0 a1).bind fun x3 => optc (x3.1) ((m_state_New F a0 a1).bind fun x5 => (bif ((x3.2 != (0 : Int)) || (x5.2 != (0 : Int))) then some ((x3.2 == x5.2) && true) else some false)) fun o4 => (m_state_New F a0 a1).bind fun x8 => (bif ((x3.2 != (0 : Int)) || (x8.2 != (0 : Int))) then some ((x3.2 == x8.2) && false) else (m_nvm_Mem_Out F o4).bind fun x10 => (bif (((x10.length : Nat) : Int) != (0 : Int)) then some false else (m_nvm_Mem_Words F o4).bind fun x12 => (m_boot_After F x12).bind fun x13 => (lz (((((!x13.2.2.2) || (x13.2.2.1 != (1 : Int))) || (((x13.2.1.length : Nat) : Int) != a0.xThreads)) == false)) (m_state_Same F x13.1 x8.1)).bind fun x14 => (bif ((((!x13.2.2.2) || (x13.2.2.1 != (1 : Int))) || (((x13.2.1.length : Nat) : Int) != a0.xThreads)) || (!x14)) then some false else (jn (fun (_ : Unit) => some true) fun k16 => m_reevelaw26_BootMakes_l0 F x13 k16 F (0 : Int))))))
theorem eqok23 : EqOK Tryz.prog 23 [.int, .int, .int] := ⟨by kernel_rfl, by kernel_rfl, by kernel_rfl⟩
theorem eqok52 : EqOK Tryz.prog 52 [.int, .int, .int, .int] := ⟨by kernel_rfl, by kernel_rfl, by kernel_rfl⟩
theorem eqok54 : EqOK Tryz.prog 54 [.int, .int, .int] := ⟨by kernel_rfl, by kernel_rfl, by kernel_rfl⟩
theorem eqok104 : EqOK Tryz.prog 104 [.int, .int, .int, .int, .int, .int, .int, .bool, .int, .int, .int, .int, .int] := ⟨by kernel_rfl, by kernel_rfl, by kernel_rfl⟩
theorem eqok109 : EqOK Tryz.prog 109 [.int, .int, .int, .int] := ⟨by kernel_rfl, by kernel_rfl, by kernel_rfl⟩
theorem eqok111 : EqOK Tryz.prog 111 [.int, .int, .int, .int, .int] := ⟨by kernel_rfl, by kernel_rfl, by kernel_rfl⟩
end
end Go.V.P
