/- Models of the program's functions: what each comes to, in plain Lean. Printed by mg.py. No premises. -/
import Derived.Test.YtopidcbmhdeclaaGreatG1
import Derived.Test.YtopidcbmhdeclaaGreatTS
import Derived.Test.YtopidcbmhdeclaaGreatProg
set_option linter.unusedVariables false
set_option linter.unusedSimpArgs false
set_option maxRecDepth 20000
set_option maxHeartbeats 4000000
namespace Go.V.P
open Go.V Go.Proofs
section
structure V2 (α : Type) where
  c0 : α
  c1 : α
  deriving Inhabited, DecidableEq
def V2.get {α : Type} (v : V2 α) (i : Nat) : α := match i with
  | 0 => v.c0
  | _ => v.c1
def V2.put {α : Type} (v : V2 α) (i : Nat) (x : α) : V2 α := match i with
  | 0 => { v with c0 := x }
  | _ => { v with c1 := x }
structure V4 (α : Type) where
  c0 : α
  c1 : α
  c2 : α
  c3 : α
  deriving Inhabited, DecidableEq
def V4.get {α : Type} (v : V4 α) (i : Nat) : α := match i with
  | 0 => v.c0
  | 1 => v.c1
  | 2 => v.c2
  | _ => v.c3
def V4.put {α : Type} (v : V4 α) (i : Nat) (x : α) : V4 α := match i with
  | 0 => { v with c0 := x }
  | 1 => { v with c1 := x }
  | 2 => { v with c2 := x }
  | _ => { v with c3 := x }
structure V8 (α : Type) where
  c0 : α
  c1 : α
  c2 : α
  c3 : α
  c4 : α
  c5 : α
  c6 : α
  c7 : α
  deriving Inhabited, DecidableEq
def V8.get {α : Type} (v : V8 α) (i : Nat) : α := match i with
  | 0 => v.c0
  | 1 => v.c1
  | 2 => v.c2
  | 3 => v.c3
  | 4 => v.c4
  | 5 => v.c5
  | 6 => v.c6
  | _ => v.c7
def V8.put {α : Type} (v : V8 α) (i : Nat) (x : α) : V8 α := match i with
  | 0 => { v with c0 := x }
  | 1 => { v with c1 := x }
  | 2 => { v with c2 := x }
  | 3 => { v with c3 := x }
  | 4 => { v with c4 := x }
  | 5 => { v with c5 := x }
  | 6 => { v with c6 := x }
  | _ => { v with c7 := x }
def qj (l : List Int) : List Int := l.mergeSort fun x y => decide (x ≤ y)
theorem ah (l : List Int) : (qj l).length = l.length := List.length_mergeSort l
def rD (l : List Int) : List Int := Go.Lib.compact l
noncomputable def tN (k : IntKind) (a b : Int) : Int := k.wrap ((BitVec.ofInt k.bits a &&& BitVec.ofInt k.bits b).toNat)
noncomputable def ior (k : IntKind) (a b : Int) : Int := k.wrap ((BitVec.ofInt k.bits a ||| BitVec.ofInt k.bits b).toNat)
noncomputable def afc (k : IntKind) (a b : Int) : Int := k.wrap ((BitVec.ofInt k.bits a ^^^ BitVec.ofInt k.bits b).toNat)
noncomputable def Jb (k : IntKind) (a b : Int) : Int := k.wrap ((BitVec.ofInt k.bits a &&& ~~~ BitVec.ofInt k.bits b).toNat)
noncomputable def pF (k : IntKind) (a b : Int) : Int := k.wrap (a * 2 ^ (min b.toNat k.bits))
noncomputable def kL (k : IntKind) (a b : Int) : Int := a.fdiv (2 ^ (min b.toNat k.bits))
structure aJ where
  ak : Int
  ay : Int
  aA : Int
  deriving Inhabited, DecidableEq
structure aH where
  xType : Int
  iY : Int
  jw : Int
  mM : Int
  nK : Int
  eH : Int
  gI : Int
  qJ : Bool
  lD : Int
  dn : (V4 Int)
  deriving Inhabited, DecidableEq
structure dS where
  xType : Int
  iG : Int
  kS : Int
  gI : Int
  deriving Inhabited, DecidableEq
structure aZ where
  gY : dS
  xUp : Int
  deriving Inhabited, DecidableEq
structure aI where
  bH : aJ
  ay : (List aZ)
  aA : (List aH)
  deriving Inhabited, DecidableEq
structure iF where
  xUp : (List Int)
  deriving Inhabited, DecidableEq
structure dK where
  bH : aJ
  uj : Int
  deriving Inhabited, DecidableEq
structure aU where
  eH : Int
  Ik : Int
  deriving Inhabited, DecidableEq
structure bV where
  jl : (V8 Int)
  xNew : (V8 Int)
  rZ : Bool
  pO : Bool
  deriving Inhabited, DecidableEq
structure aC where
  xl : (List bV)
  dD : Bool
  bC : Int
  bP : Int
  bQ : (List Int)
  deriving Inhabited, DecidableEq
structure aB where
  xAt : Int
  xV : Int
  deriving Inhabited, DecidableEq
structure dP where
  kP : Int
  xW : Int
  xN : Int
  deriving Inhabited, DecidableEq
structure aV where
  bK : Int
  jD : Int
  xL : (V4 Int)
  bJ : dP
  xW : (List aB)
  deriving Inhabited, DecidableEq
structure gQ where
  xs : aI
  mG : (List aV)
  lG : Int
  lM : Bool
  deriving Inhabited, DecidableEq
structure bI where
  OL : Int
  xat : Int
  xv : Int
  deriving Inhabited, DecidableEq
structure aY where
  l7 : Int
  xd : aV
  xl : (List bI)
  deriving Inhabited, DecidableEq
structure aW where
  xm : aC
  dB : aJ
  xw : (List aY)
  cu : (List Int)
  fP : Bool
  deriving Inhabited, DecidableEq
structure dM where
  xAt : Int
  xV : Int
  deriving Inhabited, DecidableEq
structure xU where
  kP : Int
  xW : Int
  xN : Int
  deriving Inhabited, DecidableEq
structure jL where
  bK : Int
  jD : Int
  xL : (V4 Int)
  bJ : xU
  xW : (List dM)
  deriving Inhabited, DecidableEq
noncomputable def aK (x : aZ) : List T := [.v (.int .i64 x.gY.xType), .v (.int .i64 x.gY.iG), .v (.int .i64 x.gY.kS), .v (.int .i64 x.gY.gI), .v (.int .i64 x.xUp)]
noncomputable def aS (x : aH) : List T := [.v (.int .i64 x.xType), .v (.int .i64 x.iY), .v (.int .i64 x.jw), .v (.int .i64 x.mM), .v (.int .i64 x.nK), .v (.int .i64 x.eH), .v (.int .i64 x.gI), .v (.bool x.qJ), .v (.int .u64 x.lD), .v (.int .u64 x.dn.c0), .v (.int .u64 x.dn.c1), .v (.int .u64 x.dn.c2), .v (.int .u64 x.dn.c3)]
noncomputable def aT (x : Int) : List T := [.v (.int .i64 x)]
noncomputable def Fb (x : Bool) : List T := [.v (.bool x)]
noncomputable def dh (x : Int) : List T := [.v (.int .u64 x)]
noncomputable def gZ (x : aU) : List T := [.v (.int .i64 x.eH), .v (.int .i64 x.Ik)]
noncomputable def aN (x : bV) : List T := [.v (.int .u64 x.jl.c0), .v (.int .u64 x.jl.c1), .v (.int .u64 x.jl.c2), .v (.int .u64 x.jl.c3), .v (.int .u64 x.jl.c4), .v (.int .u64 x.jl.c5), .v (.int .u64 x.jl.c6), .v (.int .u64 x.jl.c7), .v (.int .u64 x.xNew.c0), .v (.int .u64 x.xNew.c1), .v (.int .u64 x.xNew.c2), .v (.int .u64 x.xNew.c3), .v (.int .u64 x.xNew.c4), .v (.int .u64 x.xNew.c5), .v (.int .u64 x.xNew.c6), .v (.int .u64 x.xNew.c7), .v (.bool x.rZ), .v (.bool x.pO)]
noncomputable def bM (x : aB) : List T := [.v (.int .i64 x.xAt), .v (.int .u64 x.xV)]
noncomputable def jf (x : aV) : List T := [.v (.int .i64 x.bK), .v (.int .u64 x.jD), .v (.int .u64 x.xL.c0), .v (.int .u64 x.xL.c1), .v (.int .u64 x.xL.c2), .v (.int .u64 x.xL.c3), .v (.int .i64 x.bJ.kP), .v (.int .u64 x.bJ.xW), .v (.int .i64 x.bJ.xN), .sl (flat bM x.xW) x.xW.length]
noncomputable def iC (x : (List aB)) : List T := [.sl (flat bM x) x.length]
noncomputable def fB (x : bI) : List T := [.v (.int .i64 x.OL), .v (.int .i64 x.xat), .v (.int .u64 x.xv)]
noncomputable def bU (x : aY) : List T := [.v (.int .i64 x.l7), .v (.int .i64 x.xd.bK), .v (.int .u64 x.xd.jD), .v (.int .u64 x.xd.xL.c0), .v (.int .u64 x.xd.xL.c1), .v (.int .u64 x.xd.xL.c2), .v (.int .u64 x.xd.xL.c3), .v (.int .i64 x.xd.bJ.kP), .v (.int .u64 x.xd.bJ.xW), .v (.int .i64 x.xd.bJ.xN), .sl (flat bM x.xd.xW) x.xd.xW.length, .sl (flat fB x.xl) x.xl.length]
noncomputable def iL (x : dM) : List T := [.v (.int .i64 x.xAt), .v (.int .u64 x.xV)]
noncomputable def ql (F : Nat)  : Option (aJ) :=
  some (⟨(2 : Int), (32 : Int), (16 : Int)⟩ : aJ)
noncomputable def qY (F : Nat) (a0 : aH) : Option (aH) :=
  (bif (a0.xType == (1 : Int)) then some (⟨a0.xType, (0 : Int), (0 : Int), a0.mM, a0.nK, (0 : Int), (0 : Int), false, (0 : Int), (⟨(0 : Int), (0 : Int), (0 : Int), (0 : Int)⟩ : V4 Int)⟩ : aH) else (bif (a0.xType == (2 : Int)) then some (⟨a0.xType, a0.iY, a0.jw, (0 : Int), (0 : Int), (0 : Int), (0 : Int), false, (0 : Int), (⟨(0 : Int), (0 : Int), (0 : Int), (0 : Int)⟩ : V4 Int)⟩ : aH) else (bif (a0.xType == (3 : Int)) then (bif (!a0.qJ) then some (⟨a0.xType, (0 : Int), (0 : Int), (0 : Int), (0 : Int), (0 : Int), (0 : Int), false, (0 : Int), (⟨(0 : Int), (0 : Int), (0 : Int), (0 : Int)⟩ : V4 Int)⟩ : aH) else some (⟨a0.xType, (0 : Int), (0 : Int), (0 : Int), (0 : Int), a0.eH, a0.gI, true, a0.lD, (⟨(0 : Int), (0 : Int), (0 : Int), (0 : Int)⟩ : V4 Int)⟩ : aH)) else (bif (a0.xType == (4 : Int)) then some (⟨a0.xType, (0 : Int), (0 : Int), (0 : Int), (0 : Int), (0 : Int), (0 : Int), false, a0.lD, (⟨(0 : Int), (0 : Int), (0 : Int), (0 : Int)⟩ : V4 Int)⟩ : aH) else (bif (a0.xType == (5 : Int)) then some (⟨a0.xType, (0 : Int), (0 : Int), (0 : Int), (0 : Int), (0 : Int), (0 : Int), false, (0 : Int), a0.dn⟩ : aH) else some (⟨(0 : Int), (0 : Int), (0 : Int), (0 : Int), (0 : Int), (0 : Int), (0 : Int), false, (0 : Int), (⟨(0 : Int), (0 : Int), (0 : Int), (0 : Int)⟩ : V4 Int)⟩ : aH))))))
noncomputable def nJ (F : Nat) (a0 : Int) (a1 : Int) (a2 : Int) : Option (Bool) :=
  some ((decide (a1 ≤ a0)) && (decide (a0 ≤ a2)))
noncomputable def jH (F : Nat) (a0 : aH) : Option (Bool) :=
  (qY F a0).bind fun x1 => (bif (!((x1.xType == a0.xType) && ((x1.iY == a0.iY) && ((x1.jw == a0.jw) && ((x1.mM == a0.mM) && ((x1.nK == a0.nK) && ((x1.eH == a0.eH) && ((x1.gI == a0.gI) && ((x1.qJ == a0.qJ) && ((x1.lD == a0.lD) && ((x1.dn.c0 == a0.dn.c0) && ((x1.dn.c1 == a0.dn.c1) && ((x1.dn.c2 == a0.dn.c2) && ((x1.dn.c3 == a0.dn.c3) && true)))))))))))))) then some false else (bif (a0.xType == (1 : Int)) then (nJ F a0.mM (1 : Int) (4096 : Int)).bind fun x4 => (lz ((x4 == true)) (nJ F a0.nK (0 : Int) a0.mM)).bind fun x5 => some (x4 && x5) else (bif (a0.xType == (2 : Int)) then (nJ F a0.iY (1 : Int) (4 : Int)).bind fun x7 => gd (x7 = true → 0 ≤ a0.iY) (gd (x7 = true → inI ((96 : Int) - (pF .i64 (1 : Int) a0.iY))) ((lz ((x7 == true)) (nJ F a0.jw (0 : Int) ((96 : Int) - (pF .i64 (1 : Int) a0.iY)))).bind fun x10 => some (x7 && x10))) else (bif (a0.xType == (3 : Int)) then (nJ F a0.gI (0 : Int) (65535 : Int)).bind fun x12 => (lz ((x12 == true)) (nJ F a0.eH (0 : Int) (96 : Int))).bind fun x13 => some (x12 && x13) else some true))))
noncomputable def nC (F : Nat) (a0 : Int) (a1 : Int) (a2 : Int) : Option (aH × Bool) :=
  (jn (fun (v1 : Int) (v2 : Int) (v3 : Int) => (jH F (⟨a0, v1, v2, v3, (0 : Int), (0 : Int), (0 : Int), false, (0 : Int), (⟨(0 : Int), (0 : Int), (0 : Int), (0 : Int)⟩ : V4 Int)⟩ : aH)).bind fun x5 => (bif (!x5) then some ((⟨(0 : Int), (0 : Int), (0 : Int), (0 : Int), (0 : Int), (0 : Int), (0 : Int), false, (0 : Int), (⟨(0 : Int), (0 : Int), (0 : Int), (0 : Int)⟩ : V4 Int)⟩ : aH), false) else some ((⟨a0, v1, v2, v3, (0 : Int), (0 : Int), (0 : Int), false, (0 : Int), (⟨(0 : Int), (0 : Int), (0 : Int), (0 : Int)⟩ : V4 Int)⟩ : aH), true))) fun k4 => (bif (a0 == (1 : Int)) then k4 (0 : Int) (0 : Int) a1 else (bif (a0 == (2 : Int)) then k4 a1 a2 (0 : Int) else (jn (fun (v9 : Bool) => (bif v9 then k4 (0 : Int) (0 : Int) (0 : Int) else some ((⟨(0 : Int), (0 : Int), (0 : Int), (0 : Int), (0 : Int), (0 : Int), (0 : Int), false, (0 : Int), (⟨(0 : Int), (0 : Int), (0 : Int), (0 : Int)⟩ : V4 Int)⟩ : aH), false))) fun k10 => (bif (a0 == (3 : Int)) then k10 (a0 == (3 : Int)) else (bif (a0 == (4 : Int)) then k10 (a0 == (4 : Int)) else k10 (a0 == (5 : Int))))))))
noncomputable def oD (F : Nat) (a0 : Int) (a1 : Int) (a2 : Int) : Option (Bool) :=
  some ((decide (a1 ≤ a0)) && (decide (a0 ≤ a2)))
noncomputable def jF (F : Nat) (a0 : aJ) : Option (Bool) :=
  (oD F a0.ak (1 : Int) (4 : Int)).bind fun x1 => gd (x1 = true → inI ((8 : Int) * a0.ak)) ((lz ((x1 == true)) (oD F a0.ay ((8 : Int) * a0.ak) (96 : Int))).bind fun x3 => gd (((x1 && x3) && ((Int.tmod a0.ay 8) == (0 : Int))) = true → inI (a0.ak + (2 : Int))) ((lz ((((x1 && x3) && ((Int.tmod a0.ay 8) == (0 : Int))) == true)) (oD F a0.aA (a0.ak + (2 : Int)) (48 : Int))).bind fun x5 => some (((x1 && x3) && ((Int.tmod a0.ay 8) == (0 : Int))) && x5)))
noncomputable def tK (F : Nat) (a0 : aJ) (a1 : Int) : Option (Int) :=
  (jF F a0).bind fun x1 => gd ((!x1) = false → inI (a0.ak - (1 : Int))) ((lz (((!x1) == false)) (oD F a1 (0 : Int) (a0.ak - (1 : Int)))).bind fun x3 => (bif ((!x1) || (!x3)) then some (0 : Int) else gd (inI ((8 : Int) * a1)) (some ((8 : Int) * a1))))
noncomputable def pI (F : Nat) (a0 : aJ) (x10 : (Int)) (k14 : (List aH) → (List aZ) → Option (aI × Int)) : Nat → Int → (List aH) → (List aZ) → Option (aI × Int)
  | 0, _, _, _ => none
  | n46 + 1, v43, v44, v45 => (bif (decide (v43 < a0.ak)) then (tK F a0 v43).bind fun x48 => (jn (fun (v49 : (List aH)) => gd (inI (x48 + (1 : Int))) (gd (inI (x10 + (1 : Int))) (gd (ix v45 (x48 + (1 : Int))) (gd (inI (v43 + (1 : Int))) (pI F a0 x10 k14 n46 (v43 + (1 : Int)) v49 (dZ v45 (x48 + (1 : Int)) (⟨(⟨(3 : Int), (1 : Int), (7 : Int), (0 : Int)⟩ : dS), (x10 + (1 : Int))⟩ : aZ))))))) fun k50 => gd (inI ((2 : Int) + v43)) ((nC F (2 : Int) (3 : Int) x48).bind fun x56 => gd (ix v44 ((2 : Int) + v43)) (k50 (dZ v44 ((2 : Int) + v43) x56.1)))) else k14 v44 v45)
noncomputable def pG (F : Nat) (a0 : aJ) (k6 : (List aZ) → Option (aI × Int)) : Nat → Int → (List aZ) → Option (aI × Int)
  | 0, _, _ => none
  | n70 + 1, v68, v69 => (bif (decide (v68 < (((List.replicate a0.ay.toNat (⟨(⟨(0 : Int), (0 : Int), (0 : Int), (0 : Int)⟩ : dS), (0 : Int)⟩ : aZ)).length : Nat) : Int))) then gd (ix v69 v68) (gd (inI (v68 + (1 : Int))) (pG F a0 k6 n70 (v68 + (1 : Int)) (dZ v69 v68 (⟨(nth v69 v68).gY, (-1 : Int)⟩ : aZ)))) else k6 v69)
noncomputable def qZ (F : Nat) (a0 : aJ) (a1 : Int) : Option (aI × Int) :=
  (nC F (1 : Int) a1 (0 : Int)).bind fun x1 => (jF F a0).bind fun x2 => (bif ((!x2) || (!x1.2)) then some ((⟨(⟨(0 : Int), (0 : Int), (0 : Int)⟩ : aJ), ([] : (List aZ)), ([] : (List aH))⟩ : aI), (1 : Int)) else (jn (fun (_ : Unit) => (jn (fun (v5 : (List aZ)) => gd (ix (List.replicate a0.aA.toNat (⟨(0 : Int), (0 : Int), (0 : Int), (0 : Int), (0 : Int), (0 : Int), (0 : Int), false, (0 : Int), (⟨(0 : Int), (0 : Int), (0 : Int), (0 : Int)⟩ : V4 Int)⟩ : aH)) (0 : Int)) ((jn (fun (v8 : (List aH)) => (tK F a0 (0 : Int)).bind fun x10 => gd (ix v5 x10) ((jn (fun (v12 : (List aH)) (v13 : (List aZ)) => gd (inI (x10 + (1 : Int))) (gd (ix v13 (x10 + (1 : Int))) (gd (v13.length = (dZ v13 (x10 + (1 : Int)) (⟨(nth v13 (x10 + (1 : Int))).gY, (-1 : Int)⟩ : aZ)).length) (some ((⟨a0, (dZ v13 (x10 + (1 : Int)) (⟨(nth v13 (x10 + (1 : Int))).gY, (-1 : Int)⟩ : aZ)), v12⟩ : aI), (0 : Int)))))) fun k14 => pI F a0 x10 k14 F (0 : Int) v8 (dZ v5 x10 (⟨(⟨(1 : Int), (0 : Int), (7 : Int), (0 : Int)⟩ : dS), (nth v5 x10).xUp⟩ : aZ))))) fun k9 => (nC F (3 : Int) (0 : Int) (0 : Int)).bind fun x58 => gd (ix (List.replicate a0.aA.toNat (⟨(0 : Int), (0 : Int), (0 : Int), (0 : Int), (0 : Int), (0 : Int), (0 : Int), false, (0 : Int), (⟨(0 : Int), (0 : Int), (0 : Int), (0 : Int)⟩ : V4 Int)⟩ : aH)) (1 : Int)) (k9 (dZ (dZ (List.replicate a0.aA.toNat (⟨(0 : Int), (0 : Int), (0 : Int), (0 : Int), (0 : Int), (0 : Int), (0 : Int), false, (0 : Int), (⟨(0 : Int), (0 : Int), (0 : Int), (0 : Int)⟩ : V4 Int)⟩ : aH)) (0 : Int) x1.1) (1 : Int) x58.1))))) fun k6 => pG F a0 k6 F (0 : Int) (List.replicate a0.ay.toNat (⟨(⟨(0 : Int), (0 : Int), (0 : Int), (0 : Int)⟩ : dS), (0 : Int)⟩ : aZ)))) fun k4 => gd (0 ≤ a0.ay ∧ a0.ay ≤ a0.ay ∧ 40 * a0.ay ≤ 281474976710656 ∧ a0.ay ≤ 9223372036854775807) (gd (0 ≤ a0.aA ∧ a0.aA ≤ a0.aA ∧ 104 * a0.aA ≤ 281474976710656 ∧ a0.aA ≤ 9223372036854775807) (k4 ()))))
noncomputable def jq (F : Nat) (a0 : dS) : Option (Bool) :=
  some ((a0.xType == (0 : Int)) && ((a0.iG == (0 : Int)) && ((a0.kS == (0 : Int)) && ((a0.gI == (0 : Int)) && true))))
noncomputable def Gt (F : Nat) (a0 : Int) (a1 : Int) (a2 : Int) : Option (Bool) :=
  some ((decide (a1 ≤ a0)) && (decide (a0 ≤ a2)))
noncomputable def xu (F : Nat) (a0 : Int) : Option (Bool) :=
  some ((decide ((0 : Int) ≤ a0)) && (decide (a0 ≤ (7 : Int))))
noncomputable def zq (F : Nat) (a0 : Int) : Option (Bool) :=
  some ((decide ((0 : Int) ≤ a0)) && (decide (a0 ≤ (65535 : Int))))
noncomputable def Az (F : Nat) (a0 : Int) : Option (Bool) :=
  some ((a0 == (3 : Int)) || (a0 == (4 : Int)))
noncomputable def oO (F : Nat) (a0 : dS) : Option (Bool) :=
  (jq F a0).bind fun x1 => (bif x1 then some true else (Gt F a0.xType (1 : Int) (5 : Int)).bind fun x3 => (lz ((x3 == true)) (Gt F a0.iG (0 : Int) (47 : Int))).bind fun x4 => (lz (((x3 && x4) == true)) (xu F a0.kS)).bind fun x5 => (lz ((((x3 && x4) && x5) == true)) (zq F a0.gI)).bind fun x6 => (lz (((((x3 && x4) && x5) && x6) == true) && ((a0.gI == (0 : Int)) == false)) (Az F a0.xType)).bind fun x7 => some ((((x3 && x4) && x5) && x6) && ((a0.gI == (0 : Int)) || x7)))
noncomputable def fD (F : Nat) (a0 : aI) (a1 : Int) : Option (Bool) :=
  gd (((decide ((0 : Int) ≤ a1)) && (decide (a1 < ((a0.aA.length : Nat) : Int)))) = true → ix a0.aA a1) (some (((decide ((0 : Int) ≤ a1)) && (decide (a1 < ((a0.aA.length : Nat) : Int)))) && ((nth a0.aA a1).xType != (0 : Int))))
noncomputable def fF (F : Nat) (a0 : aI) (k1 : Unit → Option (Bool)) : Nat → Int → Option (Bool)
  | 0, _ => none
  | n34 + 1, v33 => (bif (decide (v33 < ((a0.ay.length : Nat) : Int))) then gd (ix a0.ay v33) ((oO F ((nth a0.ay v33).gY)).bind fun x37 => (bif (!x37) then some false else (jn (fun (v39 : Bool) => (bif v39 then some false else (jq F ((nth a0.ay v33).gY)).bind fun x42 => (lz (((!x42) == true)) (fD F a0 ((nth a0.ay v33).gY.iG))).bind fun x43 => gd (((!x42) == true) = true → (!x43) = false → ix a0.aA ((nth a0.ay v33).gY.iG)) ((bif ((!x42) && ((!x43) || ((nth a0.aA ((nth a0.ay v33).gY.iG)).xType != (nth a0.ay v33).gY.xType))) then some false else gd (inI (v33 + (1 : Int))) (fF F a0 k1 n34 (v33 + (1 : Int))))))) fun k40 => (jq F ((nth a0.ay v33).gY)).bind fun x47 => (bif (x47 && ((nth a0.ay v33).xUp != (-1 : Int))) then k40 (x47 && ((nth a0.ay v33).xUp != (-1 : Int))) else (jq F ((nth a0.ay v33).gY)).bind fun x49 => k40 ((!x49) && (decide ((nth a0.ay v33).xUp < (-1 : Int)))))))) else k1 ())
noncomputable def kV (F : Nat) (a0 : aI) : Option (Bool) :=
  (jn (fun (_ : Unit) => some true) fun k1 => fF F a0 k1 F (0 : Int))
noncomputable def iZ (F : Nat) (a0 : aI) (a1 : Int) (k2 : (List Int) → Option ((List Int))) : Nat → Int → (List Int) → Option ((List Int))
  | 0, _, _ => none
  | n23 + 1, v21, v22 => (bif (decide (v21 < ((a0.ay.length : Nat) : Int))) then (jn (fun (v25 : (List Int)) => gd (inI (v21 + (1 : Int))) (iZ F a0 a1 k2 n23 (v21 + (1 : Int)) v25)) fun k26 => gd (ix a0.ay v21) ((jq F ((nth a0.ay v21).gY)).bind fun x29 => (bif ((!x29) && ((nth a0.ay v21).gY.iG == a1)) then gd ((v22.length + ([v21] : List Int).length) * 8 ≤ 140737488355328) (k26 (v22 ++ ([v21] : List Int))) else k26 v22))) else k2 v22)
noncomputable def kM (F : Nat) (a0 : aI) (a1 : Int) : Option ((List Int)) :=
  (jn (fun (v1 : (List Int)) => some v1) fun k2 => iZ F a0 a1 k2 F (0 : Int) ([] : List Int))
noncomputable def fC (F : Nat) (a0 : aI) (k1 : Unit → Option (Bool)) : Nat → Int → Option (Bool)
  | 0, _ => none
  | n34 + 1, v33 => (bif (decide (v33 < ((a0.aA.length : Nat) : Int))) then gd (ix a0.aA v33) ((jH F (nth a0.aA v33)).bind fun x37 => (bif (!x37) then some false else gd (((decide ((0 : Int) < (nth a0.aA v33).eH)) == true) = true → (decide (((a0.ay.length : Nat) : Int) < (nth a0.aA v33).eH)) = false → inI ((nth a0.aA v33).eH - (1 : Int))) (gd (((decide ((0 : Int) < (nth a0.aA v33).eH)) == true) = true → (decide (((a0.ay.length : Nat) : Int) < (nth a0.aA v33).eH)) = false → ix a0.ay ((nth a0.aA v33).eH - (1 : Int))) ((lz (((decide ((0 : Int) < (nth a0.aA v33).eH)) == true) && ((decide (((a0.ay.length : Nat) : Int) < (nth a0.aA v33).eH)) == false)) (jq F ((nth a0.ay ((nth a0.aA v33).eH - (1 : Int))).gY))).bind fun x41 => (bif ((decide ((0 : Int) < (nth a0.aA v33).eH)) && ((decide (((a0.ay.length : Nat) : Int) < (nth a0.aA v33).eH)) || x41)) then some false else gd ((decide ((2 : Int) ≤ v33)) = true → inI ((2 : Int) + a0.bH.ak)) (gd (((decide ((2 : Int) ≤ v33)) && (decide (v33 < ((2 : Int) + a0.bH.ak)))) = true → inI (v33 - (2 : Int))) ((lz ((((decide ((2 : Int) ≤ v33)) && (decide (v33 < ((2 : Int) + a0.bH.ak)))) == true)) (tK F a0.bH (v33 - (2 : Int)))).bind fun x45 => (bif (((decide ((2 : Int) ≤ v33)) && (decide (v33 < ((2 : Int) + a0.bH.ak)))) && (!(((nth a0.aA v33).xType == (2 : Int)) && (((nth a0.aA v33).iY == (3 : Int)) && (((nth a0.aA v33).jw == x45) && (((nth a0.aA v33).mM == (0 : Int)) && (((nth a0.aA v33).nK == (0 : Int)) && (((nth a0.aA v33).eH == (0 : Int)) && (((nth a0.aA v33).gI == (0 : Int)) && (((nth a0.aA v33).qJ == false) && (((nth a0.aA v33).lD == (0 : Int)) && (((nth a0.aA v33).dn.c0 == (0 : Int)) && (((nth a0.aA v33).dn.c1 == (0 : Int)) && (((nth a0.aA v33).dn.c2 == (0 : Int)) && (((nth a0.aA v33).dn.c3 == (0 : Int)) && true))))))))))))))) then some false else (lz ((((!((decide ((2 : Int) ≤ v33)) && (decide (v33 < ((2 : Int) + a0.bH.ak))))) && ((nth a0.aA v33).xType != (0 : Int))) == true)) (kM F a0 v33)).bind fun x47 => (bif (((!((decide ((2 : Int) ≤ v33)) && (decide (v33 < ((2 : Int) + a0.bH.ak))))) && ((nth a0.aA v33).xType != (0 : Int))) && (((x47.length : Nat) : Int) == (0 : Int))) then some false else gd (inI (v33 + (1 : Int))) (fC F a0 k1 n34 (v33 + (1 : Int)))))))))))) else k1 ())
noncomputable def jO (F : Nat) (a0 : aI) : Option (Bool) :=
  (jn (fun (_ : Unit) => some true) fun k1 => fC F a0 k1 F (0 : Int))
noncomputable def fJ (F : Nat) (a0 : aI) (v2 : (List Bool)) (k4 : Unit → Option (Bool)) : Nat → Int → Option (Bool)
  | 0, _ => none
  | n19 + 1, v18 => (bif (decide (v18 < ((a0.ay.length : Nat) : Int))) then gd (ix a0.ay v18) (gd (ix v2 v18) ((lz (((!(nth v2 v18)) == true)) (jq F ((nth a0.ay v18).gY))).bind fun x23 => (bif ((!(nth v2 v18)) && (!x23)) then some false else gd (inI (v18 + (1 : Int))) (fJ F a0 v2 k4 n19 (v18 + (1 : Int)))))) else k4 ())
noncomputable def eY (F : Nat) (a0 : aI) (v88 : Int) (k93 : (List Bool) → Option (Bool)) : Nat → Int → (List Bool) → Option (Bool)
  | 0, _, _ => none
  | n114 + 1, Gu, JK => (bif (decide (Gu < (pF .i64 (1 : Int) ((nth a0.aA v88).iY)))) then gd (inI ((nth a0.aA v88).jw + Gu)) (gd ((decide (((JK.length : Nat) : Int) ≤ ((nth a0.aA v88).jw + Gu))) = false → ix JK ((nth a0.aA v88).jw + Gu)) ((bif ((decide (((JK.length : Nat) : Int) ≤ ((nth a0.aA v88).jw + Gu))) || (nth JK ((nth a0.aA v88).jw + Gu))) then some false else gd (ix JK ((nth a0.aA v88).jw + Gu)) (gd (inI (Gu + (1 : Int))) (eY F a0 v88 k93 n114 (Gu + (1 : Int)) (dZ JK ((nth a0.aA v88).jw + Gu) true)))))) else k93 JK)
noncomputable def fA (F : Nat) (a0 : aI) (k3 : (List Bool) → Option (Bool)) : Nat → Int → (List Bool) → Option (Bool)
  | 0, _, _ => none
  | n90 + 1, v88, v89 => (bif (decide (v88 < ((a0.aA.length : Nat) : Int))) then (jn (fun (v92 : (List Bool)) => gd (inI (v88 + (1 : Int))) (fA F a0 k3 n90 (v88 + (1 : Int)) v92)) fun k93 => gd (ix a0.aA v88) ((bif ((nth a0.aA v88).xType != (2 : Int)) then k93 v89 else gd (0 ≤ (nth a0.aA v88).iY) (eY F a0 v88 k93 F (0 : Int) v89)))) else k3 v89)
noncomputable def kD (F : Nat) (a0 : aI) : Option (Bool) :=
  gd (0 ≤ ((a0.ay.length : Nat) : Int) ∧ ((a0.ay.length : Nat) : Int) ≤ ((a0.ay.length : Nat) : Int) ∧ 1 * ((a0.ay.length : Nat) : Int) ≤ 281474976710656 ∧ ((a0.ay.length : Nat) : Int) ≤ 9223372036854775807) ((jn (fun (v2 : (List Bool)) => (jn (fun (_ : Unit) => some true) fun k4 => fJ F a0 v2 k4 F (0 : Int))) fun k3 => fA F a0 k3 F (0 : Int) (List.replicate ((a0.ay.length : Nat) : Int).toNat false)))
noncomputable def uq (F : Nat) (a0 : aH) (a1 : Int) : Option (Bool) :=
  gd (((a0.xType == (2 : Int)) && (decide (a0.jw ≤ a1))) = true → 0 ≤ a0.iY) (gd (((a0.xType == (2 : Int)) && (decide (a0.jw ≤ a1))) = true → inI (a0.jw + (pF .i64 (1 : Int) a0.iY))) (some (((a0.xType == (2 : Int)) && (decide (a0.jw ≤ a1))) && (decide (a1 < (a0.jw + (pF .i64 (1 : Int) a0.iY)))))))
noncomputable def jI (F : Nat) (a0 : aI) (a1 : Int) (rc : aI → Int → (List Int) → Option (List Int)) : Nat → Int → (List Int) → Option ((List Int))
  | 0, _, _ => none
  | n26 + 1, v24, v25 => (bif (decide (v24 < ((a0.ay.length : Nat) : Int))) then (jn (fun (v28 : (List Int)) => gd (inI (v24 + (1 : Int))) (jI F a0 a1 rc n26 (v24 + (1 : Int)) v28)) fun k29 => gd (ix a0.ay v24) (gd (((nth a0.ay v24).gY.xType == (2 : Int)) = true → ix a0.aA a1) ((lz ((((nth a0.ay v24).gY.xType == (2 : Int)) == true)) (uq F (nth a0.aA a1) v24)).bind fun x33 => (lz (((((nth a0.ay v24).gY.xType == (2 : Int)) && x33) == true)) (fD F a0 ((nth a0.ay v24).gY.iG))).bind fun x34 => (bif ((((nth a0.ay v24).gY.xType == (2 : Int)) && x33) && x34) then (rc a0 ((nth a0.ay v24).gY.iG) v25).bind fun x36 => k29 x36 else k29 v25)))) else some v25)
noncomputable def lK (F : Nat) : Nat → aI → Int → (List Int) → Option (List Int)
  | 0, _, _, _ => none
  | D + 1, a0, a1, a2 => (fun rc => (bif (a2.contains a1) then some a2 else jI F a0 a1 rc F (0 : Int) (a2 ++ [a1]))) (fun a0 a1 a2 => lK F D a0 a1 a2)
noncomputable def xQ (F : Nat) (a0 : aI) (a1 : Int) (a2 : (List Int)) : Option (List Int) := lK F F a0 a1 a2
noncomputable def lJ (F : Nat) (a0 : aH) (a1 : Int) : Option (Bool) :=
  (uq F a0 a1).bind fun x1 => some x1
noncomputable def dV (F : Nat) (a0 : (List aH)) (a1 : (aH → Option (Bool))) (k1 : Unit → Option (Int)) : Nat → Int → Option (Int)
  | 0, _ => none
  | n14 + 1, v13 => (bif (decide (v13 < ((a0.length : Nat) : Int))) then gd (ix a0 v13) ((a1 (nth a0 v13)).bind fun x17 => (bif x17 then some v13 else gd (inI (v13 + (1 : Int))) (dV F a0 a1 k1 n14 (v13 + (1 : Int))))) else k1 ())
noncomputable def jY (F : Nat) (a0 : (List aH)) (a1 : (aH → Option (Bool))) : Option (Int) :=
  (jn (fun (_ : Unit) => some (-1 : Int)) fun k1 => dV F a0 a1 k1 F (0 : Int))
noncomputable def mX (F : Nat) (a0 : aI) (a1 : Int) : Option (Int) :=
  (jY F a0.aA (fun t => lJ F t a1)).bind fun x1 => some x1
noncomputable def lZ (F : Nat) (a0 : aI) (a1 : Int) (a2 : Int) : Option (Bool) :=
  (fD F a0 a1).bind fun x1 => gd ((!x1) = false → ix a0.aA a1) ((bif ((!x1) || ((nth a0.aA a1).xType != (2 : Int))) then some false else (xQ F a0 a1 ([] : List Int)).bind fun x4 => (mX F a0 a2).bind fun x5 => some (x4.contains x5)))
noncomputable def fQ (F : Nat) (a0 : aI) (k1 : Unit → Option (Bool)) : Nat → Int → Option (Bool)
  | 0, _ => none
  | n14 + 1, v13 => (bif (decide (v13 < ((a0.ay.length : Nat) : Int))) then gd (ix a0.ay v13) ((lz ((((nth a0.ay v13).gY.xType == (2 : Int)) == true)) (lZ F a0 ((nth a0.ay v13).gY.iG) v13)).bind fun x17 => (bif (((nth a0.ay v13).gY.xType == (2 : Int)) && x17) then some true else gd (inI (v13 + (1 : Int))) (fQ F a0 k1 n14 (v13 + (1 : Int))))) else k1 ())
noncomputable def kW (F : Nat) (a0 : aI) : Option (Bool) :=
  (jn (fun (_ : Unit) => some false) fun k1 => fQ F a0 k1 F (0 : Int))
noncomputable def iw (F : Nat) (a0 : aI) (k2 : (List Int) → Option (iF)) : Nat → Int → (List Int) → Option (iF)
  | 0, _, _ => none
  | n23 + 1, v21, v22 => (bif (decide (v21 < ((a0.ay.length : Nat) : Int))) then gd (ix a0.ay v21) ((jn (fun (v26 : Int) => gd ((v22.length + ([v26] : List Int).length) * 8 ≤ 140737488355328) (gd (inI (v21 + (1 : Int))) (iw F a0 k2 n23 (v21 + (1 : Int)) (v22 ++ ([v26] : List Int))))) fun k27 => (jq F ((nth a0.ay v21).gY)).bind fun x30 => (bif x30 then k27 (-2 : Int) else k27 ((nth a0.ay v21).xUp)))) else k2 v22)
noncomputable def lU (F : Nat) (a0 : aI) : Option (iF) :=
  (jn (fun (v1 : (List Int)) => some (⟨v1⟩ : iF)) fun k2 => iw F a0 k2 F (0 : Int) ([] : List Int))
noncomputable def iD (F : Nat) (a0 : iF) (a1 : Int) : Option (Bool) :=
  gd (((decide ((0 : Int) ≤ a1)) && (decide (a1 < ((a0.xUp.length : Nat) : Int)))) = true → ix a0.xUp a1) (some (((decide ((0 : Int) ≤ a1)) && (decide (a1 < ((a0.xUp.length : Nat) : Int)))) && ((nth a0.xUp a1) != (-2 : Int))))
noncomputable def fG (F : Nat) (a0 : iF) (k54 : Unit → Option (Bool)) : Nat → Int → Int → Option (Bool)
  | 0, _, _ => none
  | n70 + 1, v68, v69 => (iD F a0 v69).bind fun x71 => (bif x71 then (bif (decide (((a0.xUp.length : Nat) : Int) < v68)) then some false else gd (inI (v68 + (1 : Int))) (gd (ix a0.xUp v69) (fG F a0 k54 n70 (v68 + (1 : Int)) (nth a0.xUp v69)))) else k54 ())
noncomputable def iU (F : Nat) (a0 : iF) (k3 : Unit → Option (Bool)) : Nat → Int → Option (Bool)
  | 0, _ => none
  | n52 + 1, v51 => (bif (decide (v51 < ((a0.xUp.length : Nat) : Int))) then (jn (fun (_ : Unit) => gd (inI (v51 + (1 : Int))) (iU F a0 k3 n52 (v51 + (1 : Int)))) fun k54 => fG F a0 k54 F (0 : Int) v51) else k3 ())
noncomputable def iT (F : Nat) (a0 : iF) (k2 : Unit → Option (Bool)) : Nat → Int → Option (Bool)
  | 0, _ => none
  | n88 + 1, v87 => (bif (decide (v87 < ((a0.xUp.length : Nat) : Int))) then gd (ix a0.xUp v87) ((lz (((((nth a0.xUp v87) != (-2 : Int)) && ((nth a0.xUp v87) != (-1 : Int))) == true)) (iD F a0 (nth a0.xUp v87))).bind fun x91 => (bif ((((nth a0.xUp v87) != (-2 : Int)) && ((nth a0.xUp v87) != (-1 : Int))) && (!x91)) then some false else gd (inI (v87 + (1 : Int))) (iT F a0 k2 n88 (v87 + (1 : Int))))) else k2 ())
noncomputable def oP (F : Nat) (a0 : iF) : Option (Bool) :=
  (bif (decide ((96 : Int) < ((a0.xUp.length : Nat) : Int))) then some false else (jn (fun (_ : Unit) => (jn (fun (_ : Unit) => some true) fun k3 => iU F a0 k3 F (0 : Int))) fun k2 => iT F a0 k2 F (0 : Int)))
noncomputable def vI (F : Nat) (a0 : Int) : Option (Int) :=
  (xu F a0).bind fun x1 => (bif (!x1) then some (0 : Int) else some a0)
noncomputable def xk (F : Nat) (a0 : Int) (a1 : Int) : Option (Int) :=
  (vI F a0).bind fun x1 => (vI F a1).bind fun x2 => some (Jb .i64 x1 x2)
noncomputable def rF (F : Nat) (a0 : Int) (a1 : Int) : Option (Bool) :=
  (xk F a0 a1).bind fun x1 => some (x1 == (0 : Int))
noncomputable def vH (F : Nat) (a0 : dS) (a1 : dS) : Option (Bool) :=
  (jq F a0).bind fun x1 => (bif x1 then some true else (lz ((((a0.xType == a1.xType) && (a0.iG == a1.iG)) == true)) (rF F a0.kS a1.kS)).bind fun x3 => some ((((a0.xType == a1.xType) && (a0.iG == a1.iG)) && x3) && ((a1.gI == (0 : Int)) || (a1.gI == a0.gI))))
noncomputable def dQ (F : Nat) (a0 : aI) (v57 : Int) (k60 : Unit → Option (Bool)) : Nat → Int → Int → Option (Bool)
  | 0, _, _ => none
  | n79 + 1, v77, v78 => (bif (decide (v78 < ((a0.ay.length : Nat) : Int))) then (bif (decide (v77 < (0 : Int))) then k60 () else gd (ix a0.ay v77) ((vH F ((nth a0.ay v57).gY) ((nth a0.ay v77).gY)).bind fun x83 => (bif ((!x83) && (((nth a0.ay v77).gY.xType != (1 : Int)) || ((nth a0.ay v57).gY.iG == (nth a0.ay v77).gY.iG))) then some false else gd (inI (v78 + (1 : Int))) (dQ F a0 v57 k60 n79 ((nth a0.ay v77).xUp) (v78 + (1 : Int)))))) else k60 ())
noncomputable def dX (F : Nat) (a0 : aI) (k1 : Unit → Option (Bool)) : Nat → Int → Option (Bool)
  | 0, _ => none
  | n58 + 1, v57 => (bif (decide (v57 < ((a0.ay.length : Nat) : Int))) then (jn (fun (_ : Unit) => gd (inI (v57 + (1 : Int))) (dX F a0 k1 n58 (v57 + (1 : Int)))) fun k60 => gd (ix a0.ay v57) (dQ F a0 v57 k60 F ((nth a0.ay v57).xUp) (0 : Int))) else k1 ())
noncomputable def jG (F : Nat) (a0 : aI) : Option (Bool) :=
  (jn (fun (_ : Unit) => some true) fun k1 => dX F a0 k1 F (0 : Int))
noncomputable def oH (F : Nat) (a0 : aI) : Option (Bool) :=
  (jF F a0.bH).bind fun x1 => (bif (((!x1) || (((a0.ay.length : Nat) : Int) != a0.bH.ay)) || (((a0.aA.length : Nat) : Int) != a0.bH.aA)) then some false else (kV F a0).bind fun x3 => (lz ((x3 == true)) (jO F a0)).bind fun x4 => (lz (((x3 && x4) == true)) (kD F a0)).bind fun x5 => (lz ((((x3 && x4) && x5) == true)) (kW F a0)).bind fun x6 => (lz (((((x3 && x4) && x5) && (!x6)) == true)) (lU F a0)).bind fun x7 => (lz (((((x3 && x4) && x5) && (!x6)) == true)) (oP F x7)).bind fun x8 => (lz ((((((x3 && x4) && x5) && (!x6)) && x8) == true)) (jG F a0)).bind fun x9 => some (((((x3 && x4) && x5) && (!x6)) && x8) && x9))
noncomputable def qQ (F : Nat) (a0 : aJ) : Option (Int) :=
  gd (inI (a0.ak * (1208 : Int))) (gd (inI ((16 : Int) + (a0.ak * (1208 : Int)))) (some ((16 : Int) + (a0.ak * (1208 : Int)))))
noncomputable def pJ (F : Nat) (a0 : aJ) : Option (Int) :=
  (qQ F a0).bind fun x1 => gd (inI ((2 : Int) * a0.ay)) (gd (inI (x1 + ((2 : Int) * a0.ay))) (some (x1 + ((2 : Int) * a0.ay))))
noncomputable def qA (F : Nat) (a0 : aJ) : Option (Int) :=
  (jF F a0).bind fun x1 => (bif (!x1) then some (0 : Int) else (pJ F a0).bind fun x3 => gd (inI ((8 : Int) * a0.aA)) (gd (inI (x3 + ((8 : Int) * a0.aA))) (some (x3 + ((8 : Int) * a0.aA)))))
noncomputable def tV (F : Nat) (a0 : aJ) : Option (Int) :=
  (jF F a0).bind fun x1 => (bif (!x1) then some (0 : Int) else (qA F a0).bind fun x3 => gd (inI ((IntKind.i64.wrap (Int.tdiv x3 8)) + (1 : Int))) (some ((IntKind.i64.wrap (Int.tdiv x3 8)) + (1 : Int))))
noncomputable def Fe (F : Nat) (a0 : Value) : Option (Value) :=
  ((xc Tryz.prog 226 [a0]).bind (int? .u64)).bind fun x1 => ((xc Tryz.prog 249 [(.int .u64 (Jb .u64 x1 (9223372036854775808 : Int)))]).bind (one?)).bind fun x2 => some x2
noncomputable def wM (F : Nat) (a0 : Value) (a1 : Value) : Option (Value) :=
  ((xc Tryz.prog 226 [a0]).bind (int? .u64)).bind fun x1 => ((xc Tryz.prog 226 [a1]).bind (int? .u64)).bind fun x2 => ((xc Tryz.prog 249 [(.int .u64 (ior .u64 (Jb .u64 x1 (9223372036854775808 : Int)) (tN .u64 x2 (9223372036854775808 : Int))))]).bind (one?)).bind fun x3 => some x3
noncomputable def Gv (F : Nat) (a0 : Value) : Option (Value) :=
  (Fe F a0).bind fun x1 => ((bn Tryz.prog .lss 244 (.tmp 6) (.const (.float .f64 4607182418800017408)) x1 (.float .f64 4607182418800017408 : Value)).bind (bool?)).bind fun x2 => (bif x2 then (wM F (.float .f64 0 : Value) a0).bind fun x4 => some x4 else ((xc Tryz.prog 226 [a0]).bind (int? .u64)).bind fun x5 => (jn (fun (v6 : Int) => ((xc Tryz.prog 249 [(.int .u64 v6)]).bind (one?)).bind fun x8 => some x8) fun k7 => (bif (decide ((IntKind.u64.wrap ((tN .u64 (kL .u64 x5 (52 : Int)) (2047 : Int)) - (1023 : Int))) < (52 : Int))) then gd (0 ≤ (IntKind.u64.wrap ((52 : Int) - (IntKind.u64.wrap ((tN .u64 (kL .u64 x5 (52 : Int)) (2047 : Int)) - (1023 : Int)))))) (k7 (Jb .u64 x5 (IntKind.u64.wrap ((pF .u64 (1 : Int) (IntKind.u64.wrap ((52 : Int) - (IntKind.u64.wrap ((tN .u64 (kL .u64 x5 (52 : Int)) (2047 : Int)) - (1023 : Int)))))) - (1 : Int))))) else k7 x5)))
noncomputable def xg (F : Nat) (a0 : Value) : Option (Value) :=
  ((xc Tryz.prog 224 [a0]).bind (one?)).bind fun x2 => some x2
noncomputable def qW (F : Nat) (a0 : Value) : Option (Bool) :=
  ((xc Tryz.prog 226 [a0]).bind (int? .u64)).bind fun x1 => some (decide ((IntKind.i64.wrap x1) < (0 : Int)))
noncomputable def qP (F : Nat) (a0 : Value) : Option (Int × Bool) :=
  ((bn Tryz.prog .geq 244 (.tmp 4) (.const (.float .f64 14010698440749613056)) a0 (.float .f64 14010698440749613056 : Value)).bind (bool?)).bind fun x1 => (lz ((x1 == true)) ((bn Tryz.prog .leq 244 (.tmp 7) (.const (.float .f64 4787326403894837248)) a0 (.float .f64 4787326403894837248 : Value)).bind (bool?))).bind fun x2 => (lz (((!(x1 && x2)) == false)) (xg F a0)).bind fun x3 => (lz (((!(x1 && x2)) == false)) ((bn Tryz.prog .neq 244 (.tmp 12) (.tmp 14) a0 x3).bind (bool?))).bind fun x4 => (lz ((((!(x1 && x2)) || x4) == false)) ((bn Tryz.prog .eql 244 (.tmp 18) (.const (.float .f64 0)) a0 (.float .f64 0 : Value)).bind (bool?))).bind fun x5 => (lz ((((!(x1 && x2)) || x4) == false) && (x5 == true)) (qW F a0)).bind fun x6 => (bif (((!(x1 && x2)) || x4) || (x5 && x6)) then some ((0 : Int), false) else ((cv Tryz.prog 244 2 a0).bind (int? .i64)).bind fun x8 => some (x8, true))
noncomputable def ny (F : Nat) (a0 : Value) : Option (Int × Int × Bool) :=
  ((bu Tryz.prog .real #[188] 244 #[false] [a0]).bind (one?)).bind fun x1 => (qP F x1).bind fun x2 => ((bu Tryz.prog .imag #[188] 244 #[false] [a0]).bind (one?)).bind fun x3 => (qP F x3).bind fun x4 => (bif ((!x2.2) || (!x4.2)) then some ((0 : Int), (0 : Int), false) else some (x2.1, x4.1, true))
noncomputable def xI (F : Nat) (a0 : Int) : Option (Bool) :=
  some ((decide ((-1099511627776 : Int) ≤ a0)) && (decide (a0 ≤ (1099511627776 : Int))))
noncomputable def qX (F : Nat) (a0 : Int) (a1 : Int) : Option (Value × Bool) :=
  (xI F a0).bind fun x1 => (lz (((!x1) == false)) (xI F a1)).bind fun x2 => (bif ((!x1) || (!x2)) then some ((.complex .f64 0 0 : Value), false) else ((cv Tryz.prog 2 244 (.int .i64 a0)).bind (one?)).bind fun x4 => ((cv Tryz.prog 2 244 (.int .i64 a1)).bind (one?)).bind fun x5 => ((bu Tryz.prog .complex #[244, 244] 188 #[false, false] [x4, x5]).bind (one?)).bind fun x6 => some (x6, true))
noncomputable def mP (F : Nat) (a1 : Int) (k5 : Int → Int → Option (Value)) : Nat → Int → Int → Int → Option (Value)
  | 0, _, _, _ => none
  | n20 + 1, v17, v18, v19 => (bif (decide (v19 < (Int.tmod ((Int.tmod a1 4) + (4 : Int)) 4))) then gd (-9223372036854775807 ≤ v18 ∧ v18 ≤ 9223372036854775807) (gd (inI (v19 + (1 : Int))) (mP F a1 k5 n20 (-v18) v17 (v19 + (1 : Int)))) else k5 v17 v18)
noncomputable def uG (F : Nat) (a0 : Value) (a1 : Int) : Option (Value) :=
  (ny F a0).bind fun x1 => (bif (!x1.2.2) then some (.complex .f64 0 0 : Value) else (jn (fun (v3 : Int) (v4 : Int) => (qX F v3 v4).bind fun x6 => some x6.1) fun k5 => gd (inI ((Int.tmod a1 4) + (4 : Int))) (mP F a1 k5 F x1.1 x1.2.1 (0 : Int))))
noncomputable def rW (F : Nat) (a0 : Int) : Option (Int) :=
  gd (inI ((Int.tmod a0 1000003) + (1000003 : Int))) (some (Int.tmod ((Int.tmod a0 1000003) + (1000003 : Int)) 1000003))
noncomputable def oz (F : Nat) (a0 : (List Int)) (k2 : Value → Option (Value)) : Nat → Value → Int → Option (Value)
  | 0, _, _ => none
  | n31 + 1, v29, v30 => (bif (decide (v30 < ((a0.length : Nat) : Int))) then gd (ix a0 v30) ((uG F v29 (1 : Int)).bind fun x34 => (ny F x34).bind fun x35 => gd (inI ((IntKind.i64.wrap (IntKind.u16.wrap (nth a0 v30))) - (IntKind.i64.wrap (IntKind.u16.wrap (kL .u64 (nth a0 v30) (32 : Int)))))) (gd (inI (x35.1 + ((IntKind.i64.wrap (IntKind.u16.wrap (nth a0 v30))) - (IntKind.i64.wrap (IntKind.u16.wrap (kL .u64 (nth a0 v30) (32 : Int))))))) (gd (inI ((IntKind.i64.wrap (IntKind.u16.wrap (kL .u64 (nth a0 v30) (16 : Int)))) - (IntKind.i64.wrap (IntKind.u16.wrap (kL .u64 (nth a0 v30) (48 : Int)))))) (gd (inI (x35.2.1 + ((IntKind.i64.wrap (IntKind.u16.wrap (kL .u64 (nth a0 v30) (16 : Int)))) - (IntKind.i64.wrap (IntKind.u16.wrap (kL .u64 (nth a0 v30) (48 : Int))))))) ((rW F (x35.1 + ((IntKind.i64.wrap (IntKind.u16.wrap (nth a0 v30))) - (IntKind.i64.wrap (IntKind.u16.wrap (kL .u64 (nth a0 v30) (32 : Int))))))).bind fun x40 => (rW F (x35.2.1 + ((IntKind.i64.wrap (IntKind.u16.wrap (kL .u64 (nth a0 v30) (16 : Int)))) - (IntKind.i64.wrap (IntKind.u16.wrap (kL .u64 (nth a0 v30) (48 : Int))))))).bind fun x41 => (qX F x40 x41).bind fun x42 => gd (inI (v30 + (1 : Int))) (oz F a0 k2 n31 x42.1 (v30 + (1 : Int)))))))) else k2 v29)
noncomputable def uH (F : Nat) (a0 : (List Int)) : Option (Value) :=
  (jn (fun (v1 : Value) => some v1) fun k2 => oz F a0 k2 F (.complex .f64 0 0 : Value) (0 : Int))
noncomputable def uI (F : Nat) (a0 : Value) : Option (Int × Bool) :=
  (ny F a0).bind fun x1 => (bif (((((!x1.2.2) || (decide (x1.1 < (0 : Int)))) || (decide ((4294967295 : Int) < x1.1))) || (decide (x1.2.1 < (0 : Int)))) || (decide ((4294967295 : Int) < x1.2.1))) then some ((0 : Int), false) else some ((ior .u64 (pF .u64 (IntKind.u64.wrap x1.2.1) (32 : Int)) (IntKind.u64.wrap x1.1)), true))
noncomputable def pY (F : Nat) (a0 : dK) : Option ((List Int)) :=
  (jF F a0.bH).bind fun x1 => (bif (!x1) then some ([] : (List Int)) else (uH F ([(8243106252149764145 : Int), (IntKind.u64.wrap a0.bH.ak), (IntKind.u64.wrap a0.bH.ay), (IntKind.u64.wrap a0.bH.aA), a0.uj, (0 : Int), (0 : Int)] : List Int)).bind fun x3 => (uI F x3).bind fun x4 => gd ((([(8243106252149764145 : Int), (IntKind.u64.wrap a0.bH.ak), (IntKind.u64.wrap a0.bH.ay), (IntKind.u64.wrap a0.bH.aA), a0.uj, (0 : Int), (0 : Int)] : List Int).length + ([x4.1] : List Int).length) * 8 ≤ 140737488355328) (some (([(8243106252149764145 : Int), (IntKind.u64.wrap a0.bH.ak), (IntKind.u64.wrap a0.bH.ay), (IntKind.u64.wrap a0.bH.aA), a0.uj, (0 : Int), (0 : Int)] : List Int) ++ ([x4.1] : List Int))))
noncomputable def tX (F : Nat) (a0 : aJ) (a1 : Int) : Option (Int) :=
  (jF F a0).bind fun x1 => gd ((!x1) = false → inI (a0.ay - (1 : Int))) ((lz (((!x1) == false)) (oD F a1 (0 : Int) (a0.ay - (1 : Int)))).bind fun x3 => (bif ((!x1) || (!x3)) then some (0 : Int) else (qQ F a0).bind fun x5 => gd (inI ((2 : Int) * a1)) (gd (inI (x5 + ((2 : Int) * a1))) (some (x5 + ((2 : Int) * a1))))))
noncomputable def sD (F : Nat)  : Option ((List aU)) :=
  gd (4 = ([(⟨(0 : Int), (8 : Int)⟩ : aU), (⟨(8 : Int), (8 : Int)⟩ : aU), (⟨(16 : Int), (16 : Int)⟩ : aU), (⟨(32 : Int), (16 : Int)⟩ : aU)] : List aU).length) (some ([(⟨(0 : Int), (8 : Int)⟩ : aU), (⟨(8 : Int), (8 : Int)⟩ : aU), (⟨(16 : Int), (16 : Int)⟩ : aU), (⟨(32 : Int), (16 : Int)⟩ : aU)] : List aU))
noncomputable def gW (F : Nat) (a0 : aU) : Option (Int) :=
  gd (0 ≤ a0.Ik) (gd (0 ≤ a0.eH) (some (pF .u64 (IntKind.u64.wrap ((pF .u64 (1 : Int) a0.Ik) - (1 : Int))) a0.eH)))
noncomputable def xA (F : Nat) (a0 : (List aU)) (k2 : Int → Option (Int × Bool)) : Nat → Int → Int → Option (Int × Bool)
  | 0, _, _ => none
  | n21 + 1, v19, v20 => (bif (decide (v20 < ((a0.length : Nat) : Int))) then gd (ix a0 v20) (gd ((((decide ((nth a0 v20).eH < (0 : Int))) || (decide ((64 : Int) ≤ (nth a0 v20).eH))) || (decide ((nth a0 v20).Ik < (1 : Int)))) = false → inI ((64 : Int) - (nth a0 v20).eH)) ((lz ((((((decide ((nth a0 v20).eH < (0 : Int))) || (decide ((64 : Int) ≤ (nth a0 v20).eH))) || (decide ((nth a0 v20).Ik < (1 : Int)))) || (decide (((64 : Int) - (nth a0 v20).eH) < (nth a0 v20).Ik))) == false)) (gW F (nth a0 v20))).bind fun x25 => (bif (((((decide ((nth a0 v20).eH < (0 : Int))) || (decide ((64 : Int) ≤ (nth a0 v20).eH))) || (decide ((nth a0 v20).Ik < (1 : Int)))) || (decide (((64 : Int) - (nth a0 v20).eH) < (nth a0 v20).Ik))) || ((tN .u64 v19 x25) != (0 : Int))) then some ((0 : Int), false) else (gW F (nth a0 v20)).bind fun x27 => gd (inI (v20 + (1 : Int))) (xA F a0 k2 n21 (ior .u64 v19 x27) (v20 + (1 : Int)))))) else k2 v19)
noncomputable def Eb (F : Nat) (a0 : (List aU)) : Option (Int × Bool) :=
  (jn (fun (v1 : Int) => some (v1, true)) fun k2 => xA F a0 k2 F (0 : Int) (0 : Int))
noncomputable def fE (F : Nat) (a0 : (List aU)) : Option (Bool) :=
  (Eb F a0).bind fun x1 => some x1.2
noncomputable def fZ (F : Nat) (a0 : (List aU)) (a1 : (List Int)) (k4 : Int → Option (Int × Bool)) : Nat → Int → Int → Option (Int × Bool)
  | 0, _, _ => none
  | n27 + 1, v25, v26 => (bif (decide (v26 < ((a0.length : Nat) : Int))) then gd (ix a0 v26) (gd (ix a1 v26) ((gW F (nth a0 v26)).bind fun x31 => gd (0 ≤ (nth a0 v26).eH) ((bif (decide ((kL .u64 x31 ((nth a0 v26).eH)) < (nth a1 v26))) then some ((0 : Int), false) else gd (ix a1 v26) (gd (0 ≤ (nth a0 v26).eH) (gd (inI (v26 + (1 : Int))) (fZ F a0 a1 k4 n27 (ior .u64 v25 (pF .u64 (nth a1 v26) ((nth a0 v26).eH))) (v26 + (1 : Int))))))))) else k4 v25)
noncomputable def jB (F : Nat) (a0 : (List aU)) (a1 : (List Int)) : Option (Int × Bool) :=
  (fE F a0).bind fun x1 => (bif ((!x1) || (((a0.length : Nat) : Int) != ((a1.length : Nat) : Int))) then some ((0 : Int), false) else (jn (fun (v3 : Int) => some (v3, true)) fun k4 => fZ F a0 a1 k4 F (0 : Int) (0 : Int)))
noncomputable def qy (F : Nat) (a0 : dS) : Option (Int × Bool) :=
  (oO F a0).bind fun x1 => (bif (!x1) then some ((0 : Int), false) else (jn (fun (v3 : Int) (v4 : Bool) => some (v3, v4)) fun k5 => (sD F ).bind fun x6 => (jB F x6 ([(IntKind.u64.wrap a0.xType), (IntKind.u64.wrap a0.kS), (IntKind.u64.wrap a0.gI), (IntKind.u64.wrap a0.iG)] : List Int)).bind fun x7 => k5 x7.1 x7.2))
noncomputable def um (F : Nat) (a0 : aJ) (a1 : Int) : Option (Int) :=
  (jF F a0).bind fun x1 => gd ((!x1) = false → inI (a0.aA - (1 : Int))) ((lz (((!x1) == false)) (oD F a1 (0 : Int) (a0.aA - (1 : Int)))).bind fun x3 => (bif ((!x1) || (!x3)) then some (0 : Int) else (pJ F a0).bind fun x5 => gd (inI ((8 : Int) * a1)) (gd (inI (x5 + ((8 : Int) * a1))) (some (x5 + ((8 : Int) * a1))))))
noncomputable def sG (F : Nat) (k2 : (List aU) → Option ((List aU))) : Nat → Int → (List aU) → Option ((List aU))
  | 0, _, _ => none
  | n15 + 1, v13, v14 => (bif (decide (v13 < (5 : Int))) then gd (inI ((8 : Int) * v13)) (gd ((v14.length + ([(⟨((8 : Int) * v13), (8 : Int)⟩ : aU)] : List aU).length) * 16 ≤ 140737488355328) (gd (inI (v13 + (1 : Int))) (sG F k2 n15 (v13 + (1 : Int)) (v14 ++ ([(⟨((8 : Int) * v13), (8 : Int)⟩ : aU)] : List aU))))) else k2 v14)
noncomputable def lQ (F : Nat)  : Option ((List aU)) :=
  (jn (fun (v1 : (List aU)) => some v1) fun k2 => sG F k2 F (0 : Int) ([] : List aU))
noncomputable def oQ (F : Nat)  : Option ((List aU)) :=
  gd (3 = ([(⟨(0 : Int), (16 : Int)⟩ : aU), (⟨(16 : Int), (16 : Int)⟩ : aU), (⟨(32 : Int), (16 : Int)⟩ : aU)] : List aU).length) (some ([(⟨(0 : Int), (16 : Int)⟩ : aU), (⟨(16 : Int), (16 : Int)⟩ : aU), (⟨(32 : Int), (16 : Int)⟩ : aU)] : List aU))
noncomputable def jo (F : Nat) (a0 : aH) : Option ((List Int)) :=
  (jH F a0).bind fun x1 => (bif (!x1) then some ([] : (List Int)) else (jn (fun (v3 : Int) => (jn (fun (v5 : Int) => (jn (fun (v7 : Int) => (jn (fun (_ : Unit) => some ((([v5, v7, a0.lD] : List Int) ++ ([a0.dn.c0, a0.dn.c1, a0.dn.c2, a0.dn.c3] : List Int)) ++ ([(0 : Int)] : List Int))) fun k9 => gd ((([v5, v7, a0.lD] : List Int).length + ([a0.dn.c0, a0.dn.c1, a0.dn.c2, a0.dn.c3] : List Int).length) * 8 ≤ 140737488355328) (gd (((([v5, v7, a0.lD] : List Int) ++ ([a0.dn.c0, a0.dn.c1, a0.dn.c2, a0.dn.c3] : List Int)).length + ([(0 : Int)] : List Int).length) * 8 ≤ 140737488355328) (k9 ())))) fun k8 => (oQ F ).bind fun x12 => (jB F x12 ([(IntKind.u64.wrap a0.mM), (IntKind.u64.wrap a0.nK), (IntKind.u64.wrap a0.gI)] : List Int)).bind fun x13 => k8 x13.1)) fun k6 => (lQ F ).bind fun x14 => (jB F x14 ([(IntKind.u64.wrap a0.xType), (IntKind.u64.wrap a0.iY), (IntKind.u64.wrap a0.jw), v3, (IntKind.u64.wrap a0.eH)] : List Int)).bind fun x15 => k6 x15.1)) fun k4 => (bif a0.qJ then k4 (1 : Int) else k4 (0 : Int))))
noncomputable def jk (F : Nat) (a0 : aI) (k14 : (List Int) → Option ((List Int))) : Nat → Int → (List Int) → Option ((List Int))
  | 0, _, _ => none
  | n33 + 1, v31, v32 => (bif (decide (v31 < ((a0.aA.length : Nat) : Int))) then gd (ix a0.aA v31) ((um F a0.bH v31).bind fun x36 => gd (0 ≤ x36 ∧ x36 ≤ ((v32.length : Nat) : Int) ∧ ((v32.length : Nat) : Int) ≤ ((v32.length : Nat) : Int)) ((jo F (nth a0.aA v31)).bind fun x38 => gd ((0 + x36.toNat * 1) + min x38.length (((v32.length : Nat) : Int).toNat - x36.toNat) ≤ v32.length) (gd (inI (v31 + (1 : Int))) (jk F a0 k14 n33 (v31 + (1 : Int)) (cpy v32 (0 + x36.toNat * 1) (((v32.length : Nat) : Int).toNat - x36.toNat) x38))))) else k14 v32)
noncomputable def ji (F : Nat) (a0 : aI) (k12 : (List Int) → Option ((List Int))) : Nat → Int → (List Int) → Option ((List Int))
  | 0, _, _ => none
  | n63 + 1, v61, v62 => (bif (decide (v61 < ((a0.ay.length : Nat) : Int))) then gd (ix a0.ay v61) ((tX F a0.bH v61).bind fun x66 => (qy F ((nth a0.ay v61).gY)).bind fun x67 => gd (ix v62 x66) (gd (inI (x66 + (1 : Int))) (gd (inI ((nth a0.ay v61).xUp + (1 : Int))) (gd (ix v62 (x66 + (1 : Int))) (gd (inI (v61 + (1 : Int))) (ji F a0 k12 n63 (v61 + (1 : Int)) (dZ (dZ v62 x66 x67.1) (x66 + (1 : Int)) (IntKind.u64.wrap ((nth a0.ay v61).xUp + (1 : Int)))))))))) else k12 v62)
noncomputable def rC (F : Nat) (a0 : aI) (a1 : Int) : Option ((List Int)) :=
  (oH F a0).bind fun x1 => (bif (!x1) then some ([] : (List Int)) else (tV F a0.bH).bind fun x3 => gd (inI (x3 * (8 : Int))) (gd (0 ≤ (x3 * (8 : Int)) ∧ (x3 * (8 : Int)) ≤ (x3 * (8 : Int)) ∧ 8 * (x3 * (8 : Int)) ≤ 281474976710656 ∧ (x3 * (8 : Int)) ≤ 9223372036854775807) ((pY F (⟨a0.bH, a1⟩ : dK)).bind fun x6 => gd (0 + min x6.length (List.replicate (x3 * (8 : Int)).toNat (0 : Int)).length ≤ (List.replicate (x3 * (8 : Int)).toNat (0 : Int)).length) ((qA F a0.bH).bind fun x8 => gd (0 ≤ x8 ∧ x8 ≤ (((List.replicate (x3 * (8 : Int)).toNat (0 : Int)).length : Nat) : Int) ∧ (((List.replicate (x3 * (8 : Int)).toNat (0 : Int)).length : Nat) : Int) ≤ (((List.replicate (x3 * (8 : Int)).toNat (0 : Int)).length : Nat) : Int)) (gd ((0 + x8.toNat * 1) + min x6.length ((((List.replicate (x3 * (8 : Int)).toNat (0 : Int)).length : Nat) : Int).toNat - x8.toNat) ≤ (cpy (List.replicate (x3 * (8 : Int)).toNat (0 : Int)) 0 ((List.replicate (x3 * (8 : Int)).toNat (0 : Int)).length) x6).length) ((jn (fun (v11 : (List Int)) => (jn (fun (v13 : (List Int)) => some v13) fun k14 => jk F a0 k14 F (0 : Int) v11)) fun k12 => ji F a0 k12 F (0 : Int) (cpy (cpy (List.replicate (x3 * (8 : Int)).toNat (0 : Int)) 0 ((List.replicate (x3 * (8 : Int)).toNat (0 : Int)).length) x6) (0 + x8.toNat * 1) ((((List.replicate (x3 * (8 : Int)).toNat (0 : Int)).length : Nat) : Int).toNat - x8.toNat) x6))))))))
noncomputable def zM (F : Nat) (a0 : Int) : Option (Option aC × Int) :=
  (bif ((decide (a0 < (1 : Int))) || (decide ((4096 : Int) < a0))) then some (none, (1 : Int)) else gd (0 ≤ a0 ∧ a0 ≤ a0 ∧ 136 * a0 ≤ 281474976710656 ∧ a0 ≤ 9223372036854775807) (some ((some (⟨(List.replicate a0.toNat (⟨(⟨(0 : Int), (0 : Int), (0 : Int), (0 : Int), (0 : Int), (0 : Int), (0 : Int), (0 : Int)⟩ : V8 Int), (⟨(0 : Int), (0 : Int), (0 : Int), (0 : Int), (0 : Int), (0 : Int), (0 : Int), (0 : Int)⟩ : V8 Int), false, false⟩ : bV)), false, (0 : Int), (0 : Int), ([] : (List Int))⟩ : aC)), (0 : Int))))
noncomputable def zx (F : Nat) (a0 : (List Int)) (k4 : Unit → Option (Option aC × Int)) : Nat → Unit → Option (Option aC × Int)
  | 0, _ => none
  | n7 + 1, _ => (bif (decide ((0 : Int) < ((a0.length : Nat) : Int))) then gd (ix a0 (0 : Int)) (none) else k4 ())
noncomputable def oU (F : Nat) (a0 : (List Int)) (k12 : (List bV) → Option (Option aC × Int)) : Nat → Int → (List bV) → Option (Option aC × Int)
  | 0, _, _ => none
  | n29 + 1, v27, v28 => (bif (decide (v27 < ((a0.length : Nat) : Int))) then gd (ix a0 v27) (gd (ix v28 (IntKind.i64.wrap (Int.tdiv v27 8))) (gd (0 ≤ (Int.tmod v27 8) ∧ (Int.tmod v27 8) < ((8 : Nat) : Int)) (gd (0 ≤ (Int.tmod v27 8) ∧ (Int.tmod v27 8) < ((8 : Nat) : Int)) (gd (inI (v27 + (1 : Int))) (oU F a0 k12 n29 (v27 + (1 : Int)) (dZ v28 (IntKind.i64.wrap (Int.tdiv v27 8)) (⟨(((nth v28 (IntKind.i64.wrap (Int.tdiv v27 8))).jl).put (Int.tmod v27 8).toNat (nth a0 v27)), (((nth v28 (IntKind.i64.wrap (Int.tdiv v27 8))).xNew).put (Int.tmod v27 8).toNat (nth a0 v27)), (nth v28 (IntKind.i64.wrap (Int.tdiv v27 8))).rZ, (nth v28 (IntKind.i64.wrap (Int.tdiv v27 8))).pO⟩ : bV))))))) else k12 v28)
noncomputable def xM (F : Nat) (a0 : (List Int)) : Option (Option aC × Int) :=
  (zM F (IntKind.i64.wrap (Int.tdiv ((a0.length : Nat) : Int) 8))).bind fun x1 => Eo (x1.1) (bif ((x1.2 != (0 : Int)) || ((Int.tmod ((a0.length : Nat) : Int) 8) != (0 : Int))) then some (none, (1 : Int)) else (jn (fun (_ : Unit) => some (none, (0 : Int))) fun k4 => zx F a0 k4 F ())) fun o2 => (bif ((x1.2 != (0 : Int)) || ((Int.tmod ((a0.length : Nat) : Int) 8) != (0 : Int))) then some (none, (1 : Int)) else (jn (fun (v11 : (List bV)) => some ((some (⟨v11, o2.dD, o2.bC, o2.bP, o2.bQ⟩ : aC)), (0 : Int))) fun k12 => oU F a0 k12 F (0 : Int) o2.xl))
noncomputable def uo (F : Nat) (a0 : aJ) (a1 : Int) : Option (Option aC × Int) :=
  (qZ F a0 a1).bind fun x1 => (bif (x1.2 != (0 : Int)) then some (none, x1.2) else (rC F x1.1 (0 : Int)).bind fun x3 => (xM F x3).bind fun x4 => Eo (x4.1) (some (none, x4.2)) fun o5 => some ((some o5), x4.2))
noncomputable def jC (F : Nat) (a0 : aC) : Option (Bool) :=
  some a0.dD
noncomputable def kX (F : Nat) (a0 : aC) (k4 : (List Int) → Option ((List Int))) : Nat → Int → (List Int) → Option ((List Int))
  | 0, _, _ => none
  | n17 + 1, v15, v16 => (bif (decide (v15 < ((a0.xl.length : Nat) : Int))) then gd (ix a0.xl v15) (gd ((v16.length + ([(nth a0.xl v15).xNew.c0, (nth a0.xl v15).xNew.c1, (nth a0.xl v15).xNew.c2, (nth a0.xl v15).xNew.c3, (nth a0.xl v15).xNew.c4, (nth a0.xl v15).xNew.c5, (nth a0.xl v15).xNew.c6, (nth a0.xl v15).xNew.c7] : List Int).length) * 8 ≤ 140737488355328) (gd (inI (v15 + (1 : Int))) (kX F a0 k4 n17 (v15 + (1 : Int)) (v16 ++ ([(nth a0.xl v15).xNew.c0, (nth a0.xl v15).xNew.c1, (nth a0.xl v15).xNew.c2, (nth a0.xl v15).xNew.c3, (nth a0.xl v15).xNew.c4, (nth a0.xl v15).xNew.c5, (nth a0.xl v15).xNew.c6, (nth a0.xl v15).xNew.c7] : List Int))))) else k4 v16)
noncomputable def gK (F : Nat) (a0 : aC) : Option ((List Int)) :=
  gd (inI (((a0.xl.length : Nat) : Int) * (8 : Int))) (gd (0 ≤ (0 : Int) ∧ (0 : Int) ≤ (((a0.xl.length : Nat) : Int) * (8 : Int)) ∧ 8 * (((a0.xl.length : Nat) : Int) * (8 : Int)) ≤ 281474976710656 ∧ (((a0.xl.length : Nat) : Int) * (8 : Int)) ≤ 9223372036854775807) ((jn (fun (v3 : (List Int)) => some v3) fun k4 => kX F a0 k4 F (0 : Int) (List.replicate (0 : Int).toNat (0 : Int)))))
noncomputable def eP (F : Nat) (a0 : (List Int)) (a1 : (List Int)) (k2 : Unit → Option (Bool)) : Nat → Int → Option (Bool)
  | 0, _ => none
  | n15 + 1, v14 => (bif (decide (v14 < ((a0.length : Nat) : Int))) then gd (ix a0 v14) (gd (ix a1 v14) ((bif ((nth a0 v14) != (nth a1 v14)) then some false else gd (inI (v14 + (1 : Int))) (eP F a0 a1 k2 n15 (v14 + (1 : Int)))))) else k2 ())
noncomputable def je (F : Nat) (a0 : (List Int)) (a1 : (List Int)) : Option (Bool) :=
  (bif (((a0.length : Nat) : Int) != ((a1.length : Nat) : Int)) then some false else (jn (fun (_ : Unit) => some true) fun k2 => eP F a0 a1 k2 F (0 : Int)))
noncomputable def oI (F : Nat) (a0 : (List Int)) : Option (dK × Bool) :=
  gd ((((a0.length : Nat) : Int) != (8 : Int)) = false → ix a0 (1 : Int)) (gd ((((a0.length : Nat) : Int) != (8 : Int)) = false → ix a0 (2 : Int)) (gd ((((a0.length : Nat) : Int) != (8 : Int)) = false → ix a0 (3 : Int)) ((lz (((((a0.length : Nat) : Int) != (8 : Int)) == false)) ((bu Tryz.prog .max #[22, 22, 22] 22 #[false, false, false] [(.int .u64 (nth a0 (1 : Int))), (.int .u64 (nth a0 (2 : Int))), (.int .u64 (nth a0 (3 : Int)))]).bind (int? .u64))).bind fun x4 => (bif ((((a0.length : Nat) : Int) != (8 : Int)) || (decide ((4096 : Int) < x4))) then some ((⟨(⟨(0 : Int), (0 : Int), (0 : Int)⟩ : aJ), (0 : Int)⟩ : dK), false) else gd (ix a0 (1 : Int)) (gd (ix a0 (2 : Int)) (gd (ix a0 (3 : Int)) (gd (ix a0 (4 : Int)) ((pY F (⟨(⟨(IntKind.i64.wrap (nth a0 (1 : Int))), (IntKind.i64.wrap (nth a0 (2 : Int))), (IntKind.i64.wrap (nth a0 (3 : Int)))⟩ : aJ), (nth a0 (4 : Int))⟩ : dK)).bind fun x10 => (je F x10 a0).bind fun x11 => (bif (!x11) then some ((⟨(⟨(0 : Int), (0 : Int), (0 : Int)⟩ : aJ), (0 : Int)⟩ : dK), false) else some ((⟨(⟨(IntKind.i64.wrap (nth a0 (1 : Int))), (IntKind.i64.wrap (nth a0 (2 : Int))), (IntKind.i64.wrap (nth a0 (3 : Int)))⟩ : aJ), (nth a0 (4 : Int))⟩ : dK), true))))))))))
noncomputable def iV (F : Nat) (a0 : (List Int)) : Option (dK × Bool × Bool) :=
  (bif ((decide (((a0.length : Nat) : Int) < (8 : Int))) || ((Int.tmod ((a0.length : Nat) : Int) 8) != (0 : Int))) then some ((⟨(⟨(0 : Int), (0 : Int), (0 : Int)⟩ : aJ), (0 : Int)⟩ : dK), false, false) else gd (0 ≤ (0 : Int) ∧ (0 : Int) ≤ (8 : Int) ∧ (8 : Int) ≤ ((a0.length : Nat) : Int)) ((oI F (cut a0 (0 : Int) (8 : Int))).bind fun x3 => (lz ((x3.2 == true)) (tV F x3.1.bH)).bind fun x4 => gd (inI (((a0.length : Nat) : Int) - (8 : Int))) (gd (0 ≤ (((a0.length : Nat) : Int) - (8 : Int)) ∧ (((a0.length : Nat) : Int) - (8 : Int)) ≤ ((a0.length : Nat) : Int) ∧ ((a0.length : Nat) : Int) ≤ ((a0.length : Nat) : Int)) ((oI F (cut a0 (((a0.length : Nat) : Int) - (8 : Int)) ((a0.length : Nat) : Int))).bind fun x7 => (lz ((x7.2 == true)) (tV F x7.1.bH)).bind fun x8 => (bif (x3.2 && (x4 == (IntKind.i64.wrap (Int.tdiv ((a0.length : Nat) : Int) 8)))) then some (x3.1, (x3.2 && (x4 == (IntKind.i64.wrap (Int.tdiv ((a0.length : Nat) : Int) 8)))), (x7.2 && (x8 == (IntKind.i64.wrap (Int.tdiv ((a0.length : Nat) : Int) 8))))) else (bif (x7.2 && (x8 == (IntKind.i64.wrap (Int.tdiv ((a0.length : Nat) : Int) 8)))) then some (x7.1, (x3.2 && (x4 == (IntKind.i64.wrap (Int.tdiv ((a0.length : Nat) : Int) 8)))), (x7.2 && (x8 == (IntKind.i64.wrap (Int.tdiv ((a0.length : Nat) : Int) 8))))) else some ((⟨(⟨(0 : Int), (0 : Int), (0 : Int)⟩ : aJ), (0 : Int)⟩ : dK), false, false)))))))
noncomputable def kE (F : Nat) (a0 : aJ) (a1 : Int) : Option (Int × Int) :=
  (jF F a0).bind fun x1 => gd ((!x1) = false → inI (a0.ak - (1 : Int))) ((lz (((!x1) == false)) (oD F a1 (0 : Int) (a0.ak - (1 : Int)))).bind fun x3 => (bif ((!x1) || (!x3)) then some ((0 : Int), (0 : Int)) else gd (inI (a1 * (1208 : Int))) (gd (inI ((16 : Int) + (a1 * (1208 : Int)))) (some (((16 : Int) + (a1 * (1208 : Int))), (1208 : Int))))))
noncomputable def uK (F : Nat)  : Option ((List aU)) :=
  gd (4 = ([(⟨(0 : Int), (8 : Int)⟩ : aU), (⟨(8 : Int), (8 : Int)⟩ : aU), (⟨(16 : Int), (16 : Int)⟩ : aU), (⟨(32 : Int), (32 : Int)⟩ : aU)] : List aU).length) (some ([(⟨(0 : Int), (8 : Int)⟩ : aU), (⟨(8 : Int), (8 : Int)⟩ : aU), (⟨(16 : Int), (16 : Int)⟩ : aU), (⟨(32 : Int), (32 : Int)⟩ : aU)] : List aU))
noncomputable def jX (F : Nat) (a0 : Int) (a1 : (List aU)) (k5 : (List Int) → Option ((List Int))) : Nat → Int → (List Int) → Option ((List Int))
  | 0, _, _ => none
  | n22 + 1, v20, v21 => (bif (decide (v20 < ((a1.length : Nat) : Int))) then gd (ix a1 v20) ((gW F (nth a1 v20)).bind fun x25 => gd (0 ≤ (nth a1 v20).eH) (gd ((v21.length + ([(kL .u64 (tN .u64 a0 x25) ((nth a1 v20).eH))] : List Int).length) * 8 ≤ 140737488355328) (gd (inI (v20 + (1 : Int))) (jX F a0 a1 k5 n22 (v20 + (1 : Int)) (v21 ++ ([(kL .u64 (tN .u64 a0 x25) ((nth a1 v20).eH))] : List Int)))))) else k5 v21)
noncomputable def nH (F : Nat) (a0 : Int) (a1 : (List aU)) : Option ((List Int)) :=
  (fE F a1).bind fun x1 => (bif (!x1) then some ([] : (List Int)) else gd (0 ≤ (0 : Int) ∧ (0 : Int) ≤ ((a1.length : Nat) : Int) ∧ 8 * ((a1.length : Nat) : Int) ≤ 281474976710656 ∧ ((a1.length : Nat) : Int) ≤ 9223372036854775807) ((jn (fun (v4 : (List Int)) => some v4) fun k5 => jX F a0 a1 k5 F (0 : Int) (List.replicate (0 : Int).toNat (0 : Int)))))
noncomputable def lF (F : Nat) (a0 : aJ) (a1 : (List aB)) (k5 : Unit → Option (Bool)) : Nat → Int → Int → Option (Bool)
  | 0, _, _ => none
  | n20 + 1, v18, v19 => (bif (decide (v19 < ((a1.length : Nat) : Int))) then gd (ix a1 v19) ((lz (((decide ((nth a1 v19).xAt ≤ v18)) == false)) (qA F a0)).bind fun x23 => (bif ((decide ((nth a1 v19).xAt ≤ v18)) || (decide (x23 ≤ (nth a1 v19).xAt))) then some false else gd (inI (v19 + (1 : Int))) (lF F a0 a1 k5 n20 ((nth a1 v19).xAt) (v19 + (1 : Int))))) else k5 ())
noncomputable def oL (F : Nat) (a0 : aJ) (a1 : (List aB)) : Option (Bool) :=
  (jF F a0).bind fun x1 => (bif ((!x1) || (decide ((600 : Int) < ((a1.length : Nat) : Int)))) then some false else (tX F a0 (0 : Int)).bind fun x3 => gd (inI (x3 - (1 : Int))) ((jn (fun (_ : Unit) => some true) fun k5 => lF F a0 a1 k5 F (x3 - (1 : Int)) (0 : Int))))
noncomputable def oW (F : Nat) (a0 : aJ) (a1 : aV) : Option (Bool) :=
  (oL F a0 a1.xW).bind fun x1 => (bif (((((!x1) || (decide (a1.bJ.kP < (0 : Int)))) || (decide ((255 : Int) < a1.bJ.kP))) || (decide (a1.bJ.xN < (0 : Int)))) || (decide ((2147483647 : Int) < a1.bJ.xN))) then some false else (bif (a1.bK == (0 : Int)) then some (((((a1.bJ.kP == (0 : Int)) && ((a1.bJ.xW == (0 : Int)) && ((a1.bJ.xN == (0 : Int)) && true))) && (((a1.xW.length : Nat) : Int) == (0 : Int))) && (a1.jD == (0 : Int))) && ((a1.xL.c0 == (0 : Int)) && ((a1.xL.c1 == (0 : Int)) && ((a1.xL.c2 == (0 : Int)) && ((a1.xL.c3 == (0 : Int)) && true))))) else (jn (fun (v4 : Bool) => (bif v4 then some (((((a1.bJ.kP == (0 : Int)) && ((a1.bJ.xW == (0 : Int)) && ((a1.bJ.xN == (0 : Int)) && true))) && (((a1.xW.length : Nat) : Int) == (0 : Int))) && (decide ((1 : Int) ≤ a1.jD))) && (decide (a1.jD ≤ (4294967295 : Int)))) else (jn (fun (v7 : Bool) => (bif v7 then some ((decide ((1 : Int) ≤ a1.jD)) && (decide (a1.jD ≤ (4294967295 : Int)))) else some false)) fun k8 => (bif (a1.bK == (2 : Int)) then k8 (a1.bK == (2 : Int)) else k8 (a1.bK == (3 : Int)))))) fun k5 => (bif (a1.bK == (1 : Int)) then k5 (a1.bK == (1 : Int)) else k5 (a1.bK == (4 : Int))))))
noncomputable def iK (F : Nat) (a1 : (List Int)) (x9 : ((List Int))) (k21 : (List aB) → Option (aV × Bool)) : Nat → Int → (List aB) → Option (aV × Bool)
  | 0, _, _ => none
  | n51 + 1, v49, v50 => (bif (decide (v49 < (IntKind.i64.wrap (nth x9 (2 : Int))))) then gd (inI ((2 : Int) * v49)) (gd (inI ((8 : Int) + ((2 : Int) * v49))) (gd (ix a1 ((8 : Int) + ((2 : Int) * v49))) ((bif (decide ((2147483647 : Int) < (nth a1 ((8 : Int) + ((2 : Int) * v49))))) then some ((⟨(0 : Int), (0 : Int), (⟨(0 : Int), (0 : Int), (0 : Int), (0 : Int)⟩ : V4 Int), (⟨(0 : Int), (0 : Int), (0 : Int)⟩ : dP), ([] : (List aB))⟩ : aV), false) else gd (inI ((2 : Int) * v49)) (gd (inI ((8 : Int) + ((2 : Int) * v49))) (gd (inI (((8 : Int) + ((2 : Int) * v49)) + (1 : Int))) (gd (ix a1 (((8 : Int) + ((2 : Int) * v49)) + (1 : Int))) (gd ((v50.length + ([(⟨(IntKind.i64.wrap (nth a1 ((8 : Int) + ((2 : Int) * v49)))), (nth a1 (((8 : Int) + ((2 : Int) * v49)) + (1 : Int)))⟩ : aB)] : List aB).length) * 16 ≤ 140737488355328) (gd (inI (v49 + (1 : Int))) (iK F a1 x9 k21 n51 (v49 + (1 : Int)) (v50 ++ ([(⟨(IntKind.i64.wrap (nth a1 ((8 : Int) + ((2 : Int) * v49)))), (nth a1 (((8 : Int) + ((2 : Int) * v49)) + (1 : Int)))⟩ : aB)] : List aB)))))))))))) else k21 v50)
noncomputable def kZ (F : Nat) (a0 : aJ) (a1 : (List Int)) : Option (aV × Bool) :=
  (kE F a0 (0 : Int)).bind fun x1 => (bif ((x1.2 == (0 : Int)) || (((a1.length : Nat) : Int) != x1.2)) then some ((⟨(0 : Int), (0 : Int), (⟨(0 : Int), (0 : Int), (0 : Int), (0 : Int)⟩ : V4 Int), (⟨(0 : Int), (0 : Int), (0 : Int)⟩ : dP), ([] : (List aB))⟩ : aV), false) else gd (ix a1 (0 : Int)) ((bif ((nth a1 (0 : Int)) == (0 : Int)) then (jn (fun (_ : Unit) => some ((⟨(0 : Int), (0 : Int), (⟨(0 : Int), (0 : Int), (0 : Int), (0 : Int)⟩ : V4 Int), (⟨(0 : Int), (0 : Int), (0 : Int)⟩ : dP), ([] : (List aB))⟩ : aV), ((nth a1 (7 : Int)) == (0 : Int)))) fun k5 => gd (ix a1 (7 : Int)) (k5 ())) else gd (ix a1 (0 : Int)) ((uK F ).bind fun x8 => (nH F (nth a1 (0 : Int)) x8).bind fun x9 => gd (ix x9 (0 : Int)) (gd (ix x9 (3 : Int)) (gd (0 ≤ (1 : Int) ∧ (1 : Int) ≤ ((a1.length : Nat) : Int) ∧ ((a1.length : Nat) : Int) ≤ ((a1.length : Nat) : Int)) (gd (4 ≤ (cut a1 (1 : Int) ((a1.length : Nat) : Int)).length) (gd (ix x9 (1 : Int)) (gd (ix x9 (2 : Int)) ((bif (decide ((600 : Int) < (IntKind.i64.wrap (nth x9 (2 : Int))))) then some ((⟨(0 : Int), (0 : Int), (⟨(0 : Int), (0 : Int), (0 : Int), (0 : Int)⟩ : V4 Int), (⟨(0 : Int), (0 : Int), (0 : Int)⟩ : dP), ([] : (List aB))⟩ : aV), false) else (jn (fun (v17 : Int) (v18 : Int) => (jn (fun (v20 : (List aB)) => (oW F a0 (⟨(IntKind.i64.wrap (nth x9 (0 : Int))), (nth x9 (3 : Int)), (⟨(nth (cut a1 (1 : Int) ((a1.length : Nat) : Int)) 0), (nth (cut a1 (1 : Int) ((a1.length : Nat) : Int)) 1), (nth (cut a1 (1 : Int) ((a1.length : Nat) : Int)) 2), (nth (cut a1 (1 : Int) ((a1.length : Nat) : Int)) 3)⟩ : V4 Int), (⟨(IntKind.i64.wrap (nth x9 (1 : Int))), v17, v18⟩ : dP), v20⟩ : aV)).bind fun x22 => gd ((!x22) = false → ix a1 (7 : Int)) ((bif ((!x22) || ((nth a1 (7 : Int)) != (0 : Int))) then some ((⟨(0 : Int), (0 : Int), (⟨(0 : Int), (0 : Int), (0 : Int), (0 : Int)⟩ : V4 Int), (⟨(0 : Int), (0 : Int), (0 : Int)⟩ : dP), ([] : (List aB))⟩ : aV), false) else some ((⟨(IntKind.i64.wrap (nth x9 (0 : Int))), (nth x9 (3 : Int)), (⟨(nth (cut a1 (1 : Int) ((a1.length : Nat) : Int)) 0), (nth (cut a1 (1 : Int) ((a1.length : Nat) : Int)) 1), (nth (cut a1 (1 : Int) ((a1.length : Nat) : Int)) 2), (nth (cut a1 (1 : Int) ((a1.length : Nat) : Int)) 3)⟩ : V4 Int), (⟨(IntKind.i64.wrap (nth x9 (1 : Int))), v17, v18⟩ : dP), v20⟩ : aV), true)))) fun k21 => iK F a1 x9 k21 F (0 : Int) ([] : List aB))) fun k19 => (bif ((IntKind.i64.wrap (nth x9 (0 : Int))) != (1 : Int)) then gd (ix a1 (6 : Int)) ((bif (decide ((2147483647 : Int) < (nth a1 (6 : Int)))) then some ((⟨(0 : Int), (0 : Int), (⟨(0 : Int), (0 : Int), (0 : Int), (0 : Int)⟩ : V4 Int), (⟨(0 : Int), (0 : Int), (0 : Int)⟩ : dP), ([] : (List aB))⟩ : aV), false) else gd (ix a1 (5 : Int)) (gd (ix a1 (6 : Int)) (k19 (nth a1 (5 : Int)) (IntKind.i64.wrap (nth a1 (6 : Int))))))) else k19 (0 : Int) (0 : Int))))))))))))))
noncomputable def ng (F : Nat) (a1 : (List aB)) (k3 : (List Int) → Option ((List Int))) : Nat → Int → (List Int) → Option ((List Int))
  | 0, _, _ => none
  | n22 + 1, v20, v21 => (bif (decide (v20 < ((a1.length : Nat) : Int))) then (jn (fun (v24 : (List Int)) => gd (inI (v20 + (1 : Int))) (ng F a1 k3 n22 (v20 + (1 : Int)) v24)) fun k25 => gd (ix a1 v20) ((bif ((decide ((0 : Int) ≤ (nth a1 v20).xAt)) && (decide ((nth a1 v20).xAt < ((v21.length : Nat) : Int)))) then gd (ix v21 ((nth a1 v20).xAt)) (k25 (dZ v21 ((nth a1 v20).xAt) ((nth a1 v20).xV))) else k25 v21))) else k3 v21)
noncomputable def vJ (F : Nat) (a0 : (List Int)) (a1 : (List aB)) : Option ((List Int)) :=
  gd (a0.length * 8 ≤ 140737488355328) ((jn (fun (v2 : (List Int)) => some v2) fun k3 => ng F a1 k3 F (0 : Int) a0))
noncomputable def xR (F : Nat) (a0 : Int) (a1 : (List aU)) : Option (Int) :=
  (Eb F a1).bind fun x1 => some (Jb .u64 a0 x1.1)
noncomputable def rX (F : Nat) (a0 : Int) : Option (dS × Bool) :=
  (sD F ).bind fun x1 => (nH F a0 x1).bind fun x2 => gd (ix x2 (0 : Int)) (gd (ix x2 (3 : Int)) (gd (ix x2 (1 : Int)) (gd (ix x2 (2 : Int)) ((sD F ).bind fun x7 => (xR F a0 x7).bind fun x8 => (lz (((x8 != (0 : Int)) == false)) (oO F (⟨(IntKind.i64.wrap (nth x2 (0 : Int))), (IntKind.i64.wrap (nth x2 (3 : Int))), (IntKind.i64.wrap (nth x2 (1 : Int))), (IntKind.i64.wrap (nth x2 (2 : Int)))⟩ : dS))).bind fun x9 => (bif ((x8 != (0 : Int)) || (!x9)) then some ((⟨(0 : Int), (0 : Int), (0 : Int), (0 : Int)⟩ : dS), false) else some ((⟨(IntKind.i64.wrap (nth x2 (0 : Int))), (IntKind.i64.wrap (nth x2 (3 : Int))), (IntKind.i64.wrap (nth x2 (1 : Int))), (IntKind.i64.wrap (nth x2 (2 : Int)))⟩ : dS), true))))))
noncomputable def kG (F : Nat) (a0 : (List Int)) : Option (aH × Bool) :=
  (bif (((a0.length : Nat) : Int) != (8 : Int)) then some ((⟨(0 : Int), (0 : Int), (0 : Int), (0 : Int), (0 : Int), (0 : Int), (0 : Int), false, (0 : Int), (⟨(0 : Int), (0 : Int), (0 : Int), (0 : Int)⟩ : V4 Int)⟩ : aH), false) else gd (ix a0 (0 : Int)) ((lQ F ).bind fun x3 => (nH F (nth a0 (0 : Int)) x3).bind fun x4 => gd (ix a0 (1 : Int)) ((oQ F ).bind fun x6 => (nH F (nth a0 (1 : Int)) x6).bind fun x7 => gd (ix x4 (0 : Int)) (gd (ix x4 (1 : Int)) (gd (ix x4 (2 : Int)) (gd (ix x4 (3 : Int)) (gd (ix x4 (4 : Int)) (gd (ix x7 (0 : Int)) (gd (ix x7 (1 : Int)) (gd (ix x7 (2 : Int)) (gd (ix a0 (2 : Int)) (gd (0 ≤ (3 : Int) ∧ (3 : Int) ≤ ((a0.length : Nat) : Int) ∧ ((a0.length : Nat) : Int) ≤ ((a0.length : Nat) : Int)) (gd (4 ≤ (cut a0 (3 : Int) ((a0.length : Nat) : Int)).length) ((jo F (⟨(IntKind.i64.wrap (nth x4 (0 : Int))), (IntKind.i64.wrap (nth x4 (1 : Int))), (IntKind.i64.wrap (nth x4 (2 : Int))), (IntKind.i64.wrap (nth x7 (0 : Int))), (IntKind.i64.wrap (nth x7 (1 : Int))), (IntKind.i64.wrap (nth x4 (4 : Int))), (IntKind.i64.wrap (nth x7 (2 : Int))), ((nth x4 (3 : Int)) == (1 : Int)), (nth a0 (2 : Int)), (⟨(nth (cut a0 (3 : Int) ((a0.length : Nat) : Int)) 0), (nth (cut a0 (3 : Int) ((a0.length : Nat) : Int)) 1), (nth (cut a0 (3 : Int) ((a0.length : Nat) : Int)) 2), (nth (cut a0 (3 : Int) ((a0.length : Nat) : Int)) 3)⟩ : V4 Int)⟩ : aH)).bind fun x19 => (je F x19 a0).bind fun x20 => (bif (!x20) then some ((⟨(0 : Int), (0 : Int), (0 : Int), (0 : Int), (0 : Int), (0 : Int), (0 : Int), false, (0 : Int), (⟨(0 : Int), (0 : Int), (0 : Int), (0 : Int)⟩ : V4 Int)⟩ : aH), false) else some ((⟨(IntKind.i64.wrap (nth x4 (0 : Int))), (IntKind.i64.wrap (nth x4 (1 : Int))), (IntKind.i64.wrap (nth x4 (2 : Int))), (IntKind.i64.wrap (nth x7 (0 : Int))), (IntKind.i64.wrap (nth x7 (1 : Int))), (IntKind.i64.wrap (nth x4 (4 : Int))), (IntKind.i64.wrap (nth x7 (2 : Int))), ((nth x4 (3 : Int)) == (1 : Int)), (nth a0 (2 : Int)), (⟨(nth (cut a0 (3 : Int) ((a0.length : Nat) : Int)) 0), (nth (cut a0 (3 : Int) ((a0.length : Nat) : Int)) 1), (nth (cut a0 (3 : Int) ((a0.length : Nat) : Int)) 2), (nth (cut a0 (3 : Int) ((a0.length : Nat) : Int)) 3)⟩ : V4 Int)⟩ : aH), true))))))))))))))))
noncomputable def iI (F : Nat) (a0 : (List Int)) (x1 : (dK × Bool × Bool)) (k6 : (List aH) → Option (aI × Int)) : Nat → Int → (List aH) → Option (aI × Int)
  | 0, _, _ => none
  | n29 + 1, v27, v28 => (bif (decide (v27 < x1.1.bH.aA)) then (um F x1.1.bH v27).bind fun x31 => gd (inI (x31 + (8 : Int))) (gd (0 ≤ x31 ∧ x31 ≤ (x31 + (8 : Int)) ∧ (x31 + (8 : Int)) ≤ ((a0.length : Nat) : Int)) ((kG F (cut a0 x31 (x31 + (8 : Int)))).bind fun x34 => (bif (!x34.2) then some ((⟨(⟨(0 : Int), (0 : Int), (0 : Int)⟩ : aJ), ([] : (List aZ)), ([] : (List aH))⟩ : aI), (2 : Int)) else gd ((v28.length + ([x34.1] : List aH).length) * 104 ≤ 140737488355328) (gd (inI (v27 + (1 : Int))) (iI F a0 x1 k6 n29 (v27 + (1 : Int)) (v28 ++ ([x34.1] : List aH))))))) else k6 v28)
noncomputable def iH (F : Nat) (a0 : (List Int)) (x1 : (dK × Bool × Bool)) (k4 : (List aZ) → Option (aI × Int)) : Nat → Int → (List aZ) → Option (aI × Int)
  | 0, _, _ => none
  | n70 + 1, v68, v69 => (bif (decide (v68 < x1.1.bH.ay)) then (jn (fun (v72 : (List aZ)) => gd (inI (v68 + (1 : Int))) (iH F a0 x1 k4 n70 (v68 + (1 : Int)) v72)) fun k73 => (tX F x1.1.bH v68).bind fun x75 => gd (ix a0 x75) ((rX F (nth a0 x75)).bind fun x77 => gd ((!x77.2) = false → inI (x75 + (1 : Int))) (gd ((!x77.2) = false → ix a0 (x75 + (1 : Int))) ((bif ((!x77.2) || (decide ((96 : Int) < (nth a0 (x75 + (1 : Int)))))) then some ((⟨(⟨(0 : Int), (0 : Int), (0 : Int)⟩ : aJ), ([] : (List aZ)), ([] : (List aH))⟩ : aI), (2 : Int)) else gd (inI (x75 + (1 : Int))) (gd (ix a0 (x75 + (1 : Int))) (gd (inI ((IntKind.i64.wrap (nth a0 (x75 + (1 : Int)))) - (1 : Int))) (gd ((v69.length + ([(⟨x77.1, ((IntKind.i64.wrap (nth a0 (x75 + (1 : Int)))) - (1 : Int))⟩ : aZ)] : List aZ).length) * 40 ≤ 140737488355328) (k73 (v69 ++ ([(⟨x77.1, ((IntKind.i64.wrap (nth a0 (x75 + (1 : Int)))) - (1 : Int))⟩ : aZ)] : List aZ))))))))))) else k4 v69)
noncomputable def jQ (F : Nat) (a0 : (List Int)) : Option (aI × Int) :=
  (iV F a0).bind fun x1 => (bif ((!x1.2.1) && (!x1.2.2)) then some ((⟨(⟨(0 : Int), (0 : Int), (0 : Int)⟩ : aJ), ([] : (List aZ)), ([] : (List aH))⟩ : aI), (2 : Int)) else (jn (fun (v3 : (List aZ)) => (jn (fun (v5 : (List aH)) => (oH F (⟨x1.1.bH, v3, v5⟩ : aI)).bind fun x7 => (bif (!x7) then some ((⟨(⟨(0 : Int), (0 : Int), (0 : Int)⟩ : aJ), ([] : (List aZ)), ([] : (List aH))⟩ : aI), (2 : Int)) else some ((⟨x1.1.bH, v3, v5⟩ : aI), (0 : Int)))) fun k6 => iI F a0 x1 k6 F (0 : Int) ([] : List aH))) fun k4 => iH F a0 x1 k4 F (0 : Int) ([] : List aZ)))
noncomputable def iO (F : Nat) (x1 : (dK × Bool × Bool)) (k9 : (List Int) → Int → (List aV) → Option (gQ × Bool)) : Nat → (List Int) → Int → Int → (List aV) → Option (gQ × Bool)
  | 0, _, _, _, _ => none
  | n71 + 1, v67, v68, v69, v70 => (bif (decide (v69 < x1.1.bH.ak)) then (kE F x1.1.bH v69).bind fun x73 => (jn (fun (v74 : Bool) (v75 : Int) (v76 : Int) (v77 : Int) (v78 : Int) (v79 : Int) (v80 : Int) (v81 : Int) (v82 : Int) (v83 : Int) (v84 : (List aB)) => (bif (!v74) then some ((⟨(⟨(⟨(0 : Int), (0 : Int), (0 : Int)⟩ : aJ), ([] : (List aZ)), ([] : (List aH))⟩ : aI), ([] : (List aV)), (0 : Int), false⟩ : gQ), false) else (jn (fun (v87 : (List Int)) (v88 : Int) => gd ((v70.length + ([(⟨v75, v76, (⟨v77, v78, v79, v80⟩ : V4 Int), (⟨v81, v82, v83⟩ : dP), v84⟩ : aV)] : List aV).length) * 96 ≤ 140737488355328) (gd (inI (v69 + (1 : Int))) (iO F x1 k9 n71 v87 v88 (v69 + (1 : Int)) (v70 ++ ([(⟨v75, v76, (⟨v77, v78, v79, v80⟩ : V4 Int), (⟨v81, v82, v83⟩ : dP), v84⟩ : aV)] : List aV))))) fun k89 => (bif (v75 == (2 : Int)) then gd (inI (v68 + (1 : Int))) ((vJ F v67 v84).bind fun x94 => k89 x94 (v68 + (1 : Int))) else k89 v67 v68)))) fun k85 => gd (inI (x73.1 + x73.2)) (gd (0 ≤ x73.1 ∧ x73.1 ≤ (x73.1 + x73.2) ∧ (x73.1 + x73.2) ≤ ((v67.length : Nat) : Int)) ((kZ F x1.1.bH (cut v67 x73.1 (x73.1 + x73.2))).bind fun x97 => k85 x97.2 x97.1.bK x97.1.jD x97.1.xL.c0 x97.1.xL.c1 x97.1.xL.c2 x97.1.xL.c3 x97.1.bJ.kP x97.1.bJ.xW x97.1.bJ.xN x97.1.xW))) else k9 v67 v68 v70)
noncomputable def nD (F : Nat) (a0 : (List Int)) : Option (gQ × Bool) :=
  (iV F a0).bind fun x1 => (bif ((!x1.2.1) && (!x1.2.2)) then some ((⟨(⟨(⟨(0 : Int), (0 : Int), (0 : Int)⟩ : aJ), ([] : (List aZ)), ([] : (List aH))⟩ : aI), ([] : (List aV)), (0 : Int), false⟩ : gQ), false) else (jn (fun (v3 : Int) => (bif (decide ((4611686018427387904 : Int) ≤ v3)) then some ((⟨(⟨(⟨(0 : Int), (0 : Int), (0 : Int)⟩ : aJ), ([] : (List aZ)), ([] : (List aH))⟩ : aI), ([] : (List aV)), (0 : Int), false⟩ : gQ), false) else (jn (fun (v6 : (List Int)) (v7 : Int) (v8 : (List aV)) => (jQ F v6).bind fun x10 => some ((⟨x10.1, v8, (IntKind.u64.wrap (v3 + (1 : Int))), x1.2.1⟩ : gQ), ((decide (v7 ≤ (1 : Int))) && (x10.2 == (0 : Int))))) fun k9 => iO F x1 k9 F a0 (0 : Int) (0 : Int) ([] : List aV)))) fun k4 => gd (inI (((a0.length : Nat) : Int) - (8 : Int))) (gd (0 ≤ (((a0.length : Nat) : Int) - (8 : Int)) ∧ (((a0.length : Nat) : Int) - (8 : Int)) ≤ ((a0.length : Nat) : Int) ∧ ((a0.length : Nat) : Int) ≤ ((a0.length : Nat) : Int)) ((oI F (cut a0 (((a0.length : Nat) : Int) - (8 : Int)) ((a0.length : Nat) : Int))).bind fun x100 => (bif (x100.2 && x1.2.2) then ((bu Tryz.prog .max #[22, 22] 22 #[false, false] [(.int .u64 x1.1.uj), (.int .u64 x100.1.uj)]).bind (int? .u64)).bind fun x102 => k4 x102 else k4 x1.1.uj)))))
noncomputable def qh (F : Nat) (a0 : aV) : Option (aV) :=
  (jn (fun (v1 : Int) => some (⟨v1, a0.jD, a0.xL, a0.bJ, a0.xW⟩ : aV)) fun k2 => (bif (a0.bK == (2 : Int)) then k2 (3 : Int) else (bif (a0.bK == (1 : Int)) then k2 (4 : Int) else k2 a0.bK)))
noncomputable def jZ (F : Nat) (a0 : (List Int)) (k4 : Int → Option (Int)) : Nat → Int → Int → Option (Int)
  | 0, _, _ => none
  | n17 + 1, v15, v16 => (bif (decide (v16 < ((a0.length : Nat) : Int))) then gd (ix a0 v16) (((bu Tryz.prog .max #[22, 22] 22 #[false, false] [(.int .u64 v15), (.int .u64 (nth a0 v16))]).bind (int? .u64)).bind fun x20 => gd (inI (v16 + (1 : Int))) (jZ F a0 k4 n17 x20 (v16 + (1 : Int)))) else k4 v15)
noncomputable def mY (F : Nat) (a0 : (List Int)) : Option (Int) :=
  (jn (fun (_ : Unit) => gd (ix a0 (0 : Int)) ((jn (fun (v3 : Int) => some v3) fun k4 => jZ F a0 k4 F (nth a0 (0 : Int)) (1 : Int)))) fun k1 => (bif (decide (((a0.length : Nat) : Int) < (1 : Int))) then none else k1 ()))
noncomputable def lg (F : Nat) (a0 : aV) : Option (Int) :=
  (uK F ).bind fun x1 => (jB F x1 ([(IntKind.u64.wrap a0.bK), (IntKind.u64.wrap a0.bJ.kP), (IntKind.u64.wrap ((a0.xW.length : Nat) : Int)), a0.jD] : List Int)).bind fun x2 => gd (((!x2.2) || (decide ((600 : Int) < ((a0.xW.length : Nat) : Int)))) = false → 0 ≤ (0 : Int) ∧ (0 : Int) ≤ (2 : Int) ∧ (2 : Int) ≤ ((4 : Nat) : Int)) ((lz ((((!x2.2) || (decide ((600 : Int) < ((a0.xW.length : Nat) : Int)))) == false)) (mY F ([(IntKind.u64.wrap a0.bK), (IntKind.u64.wrap a0.bJ.kP)] : List Int))).bind fun x4 => (bif (((!x2.2) || (decide ((600 : Int) < ((a0.xW.length : Nat) : Int)))) || (decide ((255 : Int) < x4))) then some (0 : Int) else some x2.1))
noncomputable def ru (F : Nat) (a0 : aJ) : Option (Int) :=
  (jF F a0).bind fun x1 => (bif (!x1) then some (0 : Int) else some (8 : Int))
noncomputable def mW (F : Nat) (a1 : Int) (k2 : (List aB) → Option ((List aB))) (x3 : ((List Int))) : Nat → Int → (List aB) → Option ((List aB))
  | 0, _, _ => none
  | n18 + 1, v16, v17 => (bif (decide (v16 < ((x3.length : Nat) : Int))) then gd (ix x3 v16) (gd (inI (a1 + v16)) (gd ((v17.length + ([(⟨(a1 + v16), (nth x3 v16)⟩ : aB)] : List aB).length) * 16 ≤ 140737488355328) (gd (inI (v16 + (1 : Int))) (mW F a1 k2 x3 n18 (v16 + (1 : Int)) (v17 ++ ([(⟨(a1 + v16), (nth x3 v16)⟩ : aB)] : List aB)))))) else k2 v17)
noncomputable def kT (F : Nat) (a0 : gQ) (a1 : Int) : Option ((List aB)) :=
  (jn (fun (v1 : (List aB)) => some v1) fun k2 => (pY F (⟨a0.xs.bH, a0.lG⟩ : dK)).bind fun x3 => mW F a1 k2 x3 F (0 : Int) ([] : List aB))
noncomputable def gX (F : Nat) (a0 : gQ) (k3 : (List aB) → (List (List aB)) → Option ((List (List aB)))) : Nat → Int → (List aB) → (List (List aB)) → Option ((List (List aB)))
  | 0, _, _, _ => none
  | n57 + 1, v54, v55, v56 => (bif (decide (v54 < ((a0.mG.length : Nat) : Int))) then gd (ix a0.mG v54) ((kE F a0.xs.bH v54).bind fun x60 => (jn (fun (v61 : (List (List aB))) => (jn (fun (v63 : (List aB)) => (qh F (nth a0.mG v54)).bind fun x65 => (lg F x65).bind fun x66 => gd ((v63.length + ([(⟨x60.1, x66⟩ : aB)] : List aB).length) * 16 ≤ 140737488355328) (gd (inI (v54 + (1 : Int))) (gX F a0 k3 n57 (v54 + (1 : Int)) (v63 ++ ([(⟨x60.1, x66⟩ : aB)] : List aB)) v61))) fun k64 => (bif ((nth a0.mG v54).bK == (1 : Int)) then gd (inI (x60.1 + (5 : Int))) (gd (inI (x60.1 + (6 : Int))) (gd ((v55.length + ([(⟨(x60.1 + (5 : Int)), (0 : Int)⟩ : aB), (⟨(x60.1 + (6 : Int)), (0 : Int)⟩ : aB)] : List aB).length) * 16 ≤ 140737488355328) (k64 (v55 ++ ([(⟨(x60.1 + (5 : Int)), (0 : Int)⟩ : aB), (⟨(x60.1 + (6 : Int)), (0 : Int)⟩ : aB)] : List aB))))) else k64 v55))) fun k62 => (bif ((nth a0.mG v54).bK == (2 : Int)) then gd ((v56.length + ([(nth a0.mG v54).xW] : List (List aB)).length) * 24 ≤ 140737488355328) (k62 (v56 ++ ([(nth a0.mG v54).xW] : List (List aB)))) else k62 v56))) else k3 v55 v56)
noncomputable def oK (F : Nat) (a0 : gQ) : Option ((List (List aB))) :=
  (jn (fun (v1 : (List aB)) (v2 : (List (List aB))) => (ru F a0.xs.bH).bind fun x4 => gd (1 = ([(⟨x4, (0 : Int)⟩ : aB)] : List aB).length) (gd (1 = ([(⟨x4, (0 : Int)⟩ : aB)] : List aB).length) (gd ((v2.length + ([v1, ([(⟨x4, (0 : Int)⟩ : aB)] : List aB)] : List (List aB)).length) * 24 ≤ 140737488355328) ((bif a0.lM then (qA F a0.xs.bH).bind fun x9 => (kT F a0 x9).bind fun x10 => (kT F a0 (0 : Int)).bind fun x11 => gd (((v2 ++ ([v1, ([(⟨x4, (0 : Int)⟩ : aB)] : List aB)] : List (List aB))).length + ([x10, x11] : List (List aB)).length) * 24 ≤ 140737488355328) (some ((v2 ++ ([v1, ([(⟨x4, (0 : Int)⟩ : aB)] : List aB)] : List (List aB))) ++ ([x10, x11] : List (List aB)))) else (kT F a0 (0 : Int)).bind fun x13 => (qA F a0.xs.bH).bind fun x14 => (kT F a0 x14).bind fun x15 => gd (((v2 ++ ([v1, ([(⟨x4, (0 : Int)⟩ : aB)] : List aB)] : List (List aB))).length + ([x13, x15] : List (List aB)).length) * 24 ≤ 140737488355328) (some ((v2 ++ ([v1, ([(⟨x4, (0 : Int)⟩ : aB)] : List aB)] : List (List aB))) ++ ([x13, x15] : List (List aB))))))))) fun k3 => gX F a0 k3 F (0 : Int) ([] : List aB) ([] : List (List aB)))
noncomputable def nG (F : Nat) (a0 : aC) (a1 : Int) (a2 : Int) : Option (Int) :=
  (bif a0.dD then some (12 : Int) else (bif ((decide (a1 < (0 : Int))) || (decide (a2 ≤ a1))) then some (1 : Int) else some (0 : Int)))
noncomputable def og (F : Nat) (a0 : (List Int)) (a1 : Int) (k1 : Unit → Option (Int)) : Nat → Int → Option (Int)
  | 0, _ => none
  | n12 + 1, v11 => (bif (decide (v11 < ((a0.length : Nat) : Int))) then gd (ix a0 v11) ((bif (a1 == (nth a0 v11)) then some v11 else gd (inI (v11 + (1 : Int))) (og F a0 a1 k1 n12 (v11 + (1 : Int))))) else k1 ())
noncomputable def uf (F : Nat) (a0 : (List Int)) (a1 : Int) : Option (Int) :=
  (jn (fun (_ : Unit) => some (-1 : Int)) fun k1 => og F a0 a1 k1 F (0 : Int))
noncomputable def nZ (F : Nat) (a0 : (List Int)) (a1 : Int) : Option (Bool) :=
  (uf F a0 a1).bind fun x1 => some (decide ((0 : Int) ≤ x1))
noncomputable def mV (F : Nat) (a0 : aC) (a0i : Int) : Option (aC × Bool) :=
  gd (ix a0.xl a0i) ((bif (!(nth a0.xl a0i).rZ) then some (a0, false) else some ((⟨(dZ a0.xl a0i (⟨(nth a0.xl a0i).xNew, (nth a0.xl a0i).xNew, false, false⟩ : bV)), a0.dD, a0.bC, a0.bP, a0.bQ⟩ : aC), true)))
noncomputable def rH (F : Nat) (a0 : aC) (a0i : Int) (a1 : Bool) : Option (aC × Bool) :=
  gd (ix a0.xl a0i) ((bif (a1 || (!(nth a0.xl a0i).rZ)) then (mV F a0 a0i).bind fun x2 => some (x2.1, x2.2) else some ((⟨(dZ a0.xl a0i (⟨(nth a0.xl a0i).jl, (nth a0.xl a0i).jl, false, false⟩ : bV)), a0.dD, a0.bC, a0.bP, a0.bQ⟩ : aC), true)))
noncomputable def jr (F : Nat) (a0 : aC) (a1 : (List Int)) (k7 : (List bV) → Bool → Int → Int → (List Int) → Option (aC)) : Nat → Int → (List bV) → Bool → Int → Int → (List Int) → Option (aC)
  | 0, _, _, _, _, _, _ => none
  | n30 + 1, v24, v25, v26, v27, v28, v29 => (bif (decide (v24 < ((a0.xl.length : Nat) : Int))) then gd (ix v25 v24) ((nZ F a1 v24).bind fun x33 => (rH F (⟨v25, v26, v27, v28, v29⟩ : aC) v24 x33).bind fun x34 => gd (inI (v24 + (1 : Int))) (jr F a0 a1 k7 n30 (v24 + (1 : Int)) x34.1.xl x34.1.dD x34.1.bC x34.1.bP x34.1.bQ)) else k7 v25 v26 v27 v28 v29)
noncomputable def oC (F : Nat) (a0 : aC) (a1 : (List Int)) : Option (aC) :=
  (bif a0.dD then some a0 else (jn (fun (v2 : (List bV)) (v3 : Bool) (v4 : Int) (v5 : Int) (v6 : (List Int)) => some (⟨v2, true, v4, (0 : Int), v6⟩ : aC)) fun k7 => jr F a0 a1 k7 F (0 : Int) a0.xl a0.dD a0.bC a0.bP a0.bQ))
noncomputable def nM (F : Nat) (a0 : aC) : Option (aC × Bool) :=
  (jn (fun (v1 : Int) => gd (inI (a0.bC + (1 : Int))) (some ((⟨a0.xl, a0.dD, (a0.bC + (1 : Int)), v1, a0.bQ⟩ : aC), true))) fun k2 => (bif (decide ((0 : Int) < a0.bP)) then gd (inI (a0.bP - (1 : Int))) ((bif ((a0.bP - (1 : Int)) == (0 : Int)) then (oC F (⟨a0.xl, a0.dD, a0.bC, (a0.bP - (1 : Int)), a0.bQ⟩ : aC) a0.bQ).bind fun x7 => some (x7, false) else k2 (a0.bP - (1 : Int)))) else k2 a0.bP))
noncomputable def xO (F : Nat) (a0 : Int) : Option (Bool) :=
  some ((decide ((0 : Int) ≤ a0)) && (decide (a0 < (8 : Int))))
noncomputable def qK (F : Nat) (a0 : aC) (a0i : Int) (a1 : Int) (a2 : Int) : Option (aC × Bool) :=
  gd (ix a0.xl a0i) ((xO F a1).bind fun x1 => (bif (!x1) then some (a0, false) else gd (0 ≤ a1 ∧ a1 < ((8 : Nat) : Int)) (some ((⟨(dZ a0.xl a0i (⟨(nth a0.xl a0i).jl, (((nth a0.xl a0i).xNew).put a1.toNat a2), true, false⟩ : bV)), a0.dD, a0.bC, a0.bP, a0.bQ⟩ : aC), true))))
noncomputable def jh (F : Nat) (a0 : aC) (a1 : Int) (a2 : Int) : Option (aC × Int) :=
  gd (inI (((a0.xl.length : Nat) : Int) * (8 : Int))) ((nG F a0 a1 (((a0.xl.length : Nat) : Int) * (8 : Int))).bind fun x2 => (bif (x2 != (0 : Int)) then some (a0, x2) else (nM F a0).bind fun x4 => (bif (!x4.2) then some (x4.1, (12 : Int)) else gd (ix x4.1.xl (IntKind.i64.wrap (Int.tdiv a1 8))) ((qK F x4.1 (IntKind.i64.wrap (Int.tdiv a1 8)) (Int.tmod a1 8) a2).bind fun x7 => some (x7.1, (0 : Int))))))
noncomputable def kN (F : Nat) (a0 : (List aB)) (k2 : (List Int) → Option ((List Int))) : Nat → Int → (List Int) → Option ((List Int))
  | 0, _, _ => none
  | n23 + 1, v21, v22 => (bif (decide (v21 < ((a0.length : Nat) : Int))) then (jn (fun (v25 : (List Int)) => gd (inI (v21 + (1 : Int))) (kN F a0 k2 n23 (v21 + (1 : Int)) v25)) fun k26 => gd (ix a0 v21) ((bif (decide ((0 : Int) ≤ (nth a0 v21).xAt)) then gd ((v22.length + ([(IntKind.i64.wrap (Int.tdiv ((nth a0 v21).xAt) 8))] : List Int).length) * 8 ≤ 140737488355328) (k26 (v22 ++ ([(IntKind.i64.wrap (Int.tdiv ((nth a0 v21).xAt) 8))] : List Int))) else k26 v22))) else k2 v22)
noncomputable def oJ (F : Nat) (a0 : (List aB)) : Option ((List Int)) :=
  (jn (fun (v1 : (List Int)) => gd (v1.length < 4611686018427387904) (gd ((qj v1).length < 4611686018427387904) (some (rD (qj v1))))) fun k2 => kN F a0 k2 F (0 : Int) ([] : List Int))
noncomputable def qL (F : Nat) (a0 : aC) (a0i : Int) : Option (aC) :=
  gd (ix a0.xl a0i) (some (⟨(dZ a0.xl a0i (⟨(nth a0.xl a0i).jl, (nth a0.xl a0i).xNew, (nth a0.xl a0i).rZ, ((nth a0.xl a0i).pO || (nth a0.xl a0i).rZ)⟩ : bV)), a0.dD, a0.bC, a0.bP, a0.bQ⟩ : aC))
noncomputable def jU (F : Nat) (a0 : aC) (a1 : Int) : Option (aC × Int) :=
  (nG F a0 a1 ((a0.xl.length : Nat) : Int)).bind fun x1 => (bif (x1 != (0 : Int)) then some (a0, x1) else (nM F a0).bind fun x3 => (bif (!x3.2) then some (x3.1, (12 : Int)) else gd (ix x3.1.xl a1) ((qL F x3.1 a1).bind fun x6 => some (x6, (0 : Int)))))
noncomputable def mQ (F : Nat) (a0 : aC) (a0i : Int) : Option (aC × Bool) :=
  gd (ix a0.xl a0i) ((bif (nth a0.xl a0i).pO then (mV F a0 a0i).bind fun x2 => some (x2.1, x2.2) else some (a0, false)))
noncomputable def jR (F : Nat) (x3 : (aC × Bool)) (k10 : (List bV) → Bool → Int → Int → (List Int) → Option (aC × Int)) : Nat → Int → (List bV) → Bool → Int → Int → (List Int) → Option (aC × Int)
  | 0, _, _, _, _, _, _ => none
  | n31 + 1, v25, v26, v27, v28, v29, v30 => (bif (decide (v25 < ((x3.1.xl.length : Nat) : Int))) then gd (ix v26 v25) ((mQ F (⟨v26, v27, v28, v29, v30⟩ : aC) v25).bind fun x34 => gd (inI (v25 + (1 : Int))) (jR F x3 k10 n31 (v25 + (1 : Int)) x34.1.xl x34.1.dD x34.1.bC x34.1.bP x34.1.bQ)) else k10 v26 v27 v28 v29 v30)
noncomputable def lI (F : Nat) (a0 : aC) : Option (aC × Int) :=
  (nG F a0 (0 : Int) (1 : Int)).bind fun x1 => (bif (x1 != (0 : Int)) then some (a0, x1) else (nM F a0).bind fun x3 => (bif (!x3.2) then some (x3.1, (12 : Int)) else (jn (fun (v5 : (List bV)) (v6 : Bool) (v7 : Int) (v8 : Int) (v9 : (List Int)) => some ((⟨v5, v6, v7, v8, v9⟩ : aC), (0 : Int))) fun k10 => jR F x3 k10 F (0 : Int) x3.1.xl x3.1.dD x3.1.bC x3.1.bP x3.1.bQ)))
noncomputable def lW (F : Nat) (k12 : (List bV) → Bool → Int → Int → (List Int) → Option (aC × Int)) (x14 : ((List Int))) : Nat → Int → (List bV) → Bool → Int → Int → (List Int) → Option (aC × Int)
  | 0, _, _, _, _, _, _ => none
  | n37 + 1, v31, v32, v33, v34, v35, v36 => (bif (decide (v31 < ((x14.length : Nat) : Int))) then gd (ix x14 v31) ((jU F (⟨v32, v33, v34, v35, v36⟩ : aC) (nth x14 v31)).bind fun x40 => (bif (x40.2 != (0 : Int)) then some (x40.1, x40.2) else gd (inI (v31 + (1 : Int))) (lW F k12 x14 n37 (v31 + (1 : Int)) x40.1.xl x40.1.dD x40.1.bC x40.1.bP x40.1.bQ))) else k12 v32 v33 v34 v35 v36)
noncomputable def lV (F : Nat) (a1 : (List aB)) (k6 : (List bV) → Bool → Int → Int → (List Int) → Option (aC × Int)) : Nat → Int → (List bV) → Bool → Int → Int → (List Int) → Option (aC × Int)
  | 0, _, _, _, _, _, _ => none
  | n65 + 1, v59, v60, v61, v62, v63, v64 => (bif (decide (v59 < ((a1.length : Nat) : Int))) then gd (ix a1 v59) ((jh F (⟨v60, v61, v62, v63, v64⟩ : aC) ((nth a1 v59).xAt) ((nth a1 v59).xV)).bind fun x68 => (bif (x68.2 != (0 : Int)) then some (x68.1, x68.2) else gd (inI (v59 + (1 : Int))) (lV F a1 k6 n65 (v59 + (1 : Int)) x68.1.xl x68.1.dD x68.1.bC x68.1.bP x68.1.bQ))) else k6 v60 v61 v62 v63 v64)
noncomputable def rE (F : Nat) (a0 : aC) (a1 : (List aB)) : Option (aC × Int) :=
  (jn (fun (v1 : (List bV)) (v2 : Bool) (v3 : Int) (v4 : Int) (v5 : (List Int)) => (jn (fun (v7 : (List bV)) (v8 : Bool) (v9 : Int) (v10 : Int) (v11 : (List Int)) => (lI F (⟨v7, v8, v9, v10, v11⟩ : aC)).bind fun x13 => some (x13.1, x13.2)) fun k12 => (oJ F a1).bind fun x14 => lW F k12 x14 F (0 : Int) v1 v2 v3 v4 v5)) fun k6 => lV F a1 k6 F (0 : Int) a0.xl a0.dD a0.bC a0.bP a0.bQ)
noncomputable def jV (F : Nat) (x4 : ((List Int))) (x5 : (aI × Int)) (k9 : Unit → Option (Option aW × Int)) : Nat → Int → Option (Option aW × Int)
  | 0, _ => none
  | n51 + 1, v50 => (bif (decide (v50 < x5.1.bH.ak)) then (kE F x5.1.bH v50).bind fun x53 => (jn (fun (v54 : Bool) (v55 : Int) (v56 : Int) (v57 : Int) (v58 : Int) (v59 : Int) (v60 : Int) (v61 : Int) (v62 : Int) (v63 : Int) (v64 : (List aB)) => (bif (((!v54) || (v55 == (1 : Int))) || (v55 == (2 : Int))) then some (none, (2 : Int)) else gd (inI (v50 + (1 : Int))) (jV F x4 x5 k9 n51 (v50 + (1 : Int))))) fun k65 => gd (inI (x53.1 + x53.2)) (gd (0 ≤ x53.1 ∧ x53.1 ≤ (x53.1 + x53.2) ∧ (x53.1 + x53.2) ≤ ((x4.length : Nat) : Int)) ((kZ F x5.1.bH (cut x4 x53.1 (x53.1 + x53.2))).bind fun x70 => k65 x70.2 x70.1.bK x70.1.jD x70.1.xL.c0 x70.1.xL.c1 x70.1.xL.c2 x70.1.xL.c3 x70.1.bJ.kP x70.1.bJ.xW x70.1.bJ.xN x70.1.xW))) else k9 ())
noncomputable def oV (F : Nat) (a0 : aC) : Option (Option aW × Int) :=
  (jC F a0).bind fun x2 => (bif x2 then some (none, (12 : Int)) else (gK F a0).bind fun x4 => (jQ F x4).bind fun x5 => (lz (((x5.2 != (0 : Int)) == false)) (ru F x5.1.bH)).bind fun x6 => gd ((x5.2 != (0 : Int)) = false → ix x4 x6) ((bif ((x5.2 != (0 : Int)) || ((nth x4 x6) != (0 : Int))) then some (none, (2 : Int)) else (jn (fun (_ : Unit) => gd (0 ≤ x5.1.bH.ak ∧ x5.1.bH.ak ≤ x5.1.bH.ak ∧ 128 * x5.1.bH.ak ≤ 281474976710656 ∧ x5.1.bH.ak ≤ 9223372036854775807) (some ((some (⟨a0, x5.1.bH, (List.replicate x5.1.bH.ak.toNat (⟨(0 : Int), (⟨(0 : Int), (0 : Int), (⟨(0 : Int), (0 : Int), (0 : Int), (0 : Int)⟩ : V4 Int), (⟨(0 : Int), (0 : Int), (0 : Int)⟩ : dP), ([] : (List aB))⟩ : aV), ([] : (List bI))⟩ : aY)), ([] : List Int), false⟩ : aW)), (0 : Int)))) fun k9 => jV F x4 x5 k9 F (0 : Int)))))
noncomputable def lX (F : Nat) (k12 : (List bV) → Bool → Int → Int → (List Int) → Option (aC × Option aW × Int)) (x15 : ((List (List aB)))) : Nat → Int → (List bV) → Bool → Int → Int → (List Int) → Option (aC × Option aW × Int)
  | 0, _, _, _, _, _, _ => none
  | n38 + 1, v32, v33, v34, v35, v36, v37 => (bif (decide (v32 < ((x15.length : Nat) : Int))) then gd (ix x15 v32) ((rE F (⟨v33, v34, v35, v36, v37⟩ : aC) (nth x15 v32)).bind fun x41 => (bif (x41.2 != (0 : Int)) then some (x41.1, none, x41.2) else gd (inI (v32 + (1 : Int))) (lX F k12 x15 n38 (v32 + (1 : Int)) x41.1.xl x41.1.dD x41.1.bC x41.1.bP x41.1.bQ))) else k12 v33 v34 v35 v36 v37)
noncomputable def lY (F : Nat) (a0 : aC) : Option (aC × Option aW × Int) :=
  (jC F a0).bind fun x2 => (bif x2 then some (a0, none, (12 : Int)) else (gK F a0).bind fun x4 => (nD F x4).bind fun x5 => (bif (!x5.2) then some (a0, none, (2 : Int)) else (jn (fun (v7 : (List bV)) (v8 : Bool) (v9 : Int) (v10 : Int) (v11 : (List Int)) => (oV F (⟨v7, v8, v9, v10, v11⟩ : aC)).bind fun x13 => Eo (x13.1) (some ((⟨v7, v8, v9, v10, v11⟩ : aC), none, x13.2)) fun o14 => some ((⟨v7, v8, v9, v10, v11⟩ : aC), (some (⟨(⟨v7, v8, v9, v10, v11⟩ : aC), o14.dB, o14.xw, o14.cu, o14.fP⟩ : aW)), x13.2)) fun k12 => (oK F x5.1).bind fun x15 => lX F k12 x15 F (0 : Int) a0.xl a0.dD a0.bC a0.bP a0.bQ)))
noncomputable def jy (F : Nat) (a0 : aW) (a1 : Int) : Option (Int) :=
  (jC F a0.xm).bind fun x1 => (bif (x1 || a0.fP) then some (12 : Int) else (bif ((decide (a1 < (0 : Int))) || (decide (((a0.xw.length : Nat) : Int) ≤ a1))) then some (1 : Int) else some (0 : Int)))
noncomputable def nI (F : Nat) (a0 : aW) (a1 : (List Int)) (a2 : Int) : Option (aV × Bool) :=
  (kE F a0.dB a2).bind fun x1 => gd (inI (x1.1 + x1.2)) (gd (0 ≤ x1.1 ∧ x1.1 ≤ (x1.1 + x1.2) ∧ (x1.1 + x1.2) ≤ ((a1.length : Nat) : Int)) ((kZ F a0.dB (cut a1 x1.1 (x1.1 + x1.2))).bind fun x4 => some (x4.1, x4.2)))
noncomputable def jS (F : Nat) (a0 : aW) (k5 : (List Int) → Option (aI × Int)) : Nat → (List Int) → Int → Option (aI × Int)
  | 0, _, _ => none
  | n25 + 1, v23, v24 => (bif (decide (v24 < ((a0.xw.length : Nat) : Int))) then (jn (fun (v27 : (List Int)) => gd (inI (v24 + (1 : Int))) (jS F a0 k5 n25 v27 (v24 + (1 : Int)))) fun k28 => (nI F a0 v23 v24).bind fun x30 => (bif (x30.2 && (x30.1.bK == (2 : Int))) then (vJ F v23 x30.1.xW).bind fun x32 => k28 x32 else k28 v23)) else k5 v23)
noncomputable def mO (F : Nat) (a0 : aW) : Option (aI × Int) :=
  (jy F a0 (0 : Int)).bind fun x1 => (bif (x1 != (0 : Int)) then some ((⟨(⟨(0 : Int), (0 : Int), (0 : Int)⟩ : aJ), ([] : (List aZ)), ([] : (List aH))⟩ : aI), x1) else (gK F a0.xm).bind fun x3 => (jn (fun (v4 : (List Int)) => (jQ F v4).bind fun x6 => some (x6.1, x6.2)) fun k5 => jS F a0 k5 F x3 (0 : Int)))
noncomputable def iE (F : Nat) (a0 : (List aZ)) (a1 : (List aZ)) (k2 : Unit → Option (Bool)) : Nat → Int → Option (Bool)
  | 0, _ => none
  | n15 + 1, v14 => (bif (decide (v14 < ((a0.length : Nat) : Int))) then gd (ix a0 v14) (gd (ix a1 v14) ((bif (!(((nth a0 v14).gY.xType == (nth a1 v14).gY.xType) && (((nth a0 v14).gY.iG == (nth a1 v14).gY.iG) && (((nth a0 v14).gY.kS == (nth a1 v14).gY.kS) && (((nth a0 v14).gY.gI == (nth a1 v14).gY.gI) && (((nth a0 v14).xUp == (nth a1 v14).xUp) && true)))))) then some false else gd (inI (v14 + (1 : Int))) (iE F a0 a1 k2 n15 (v14 + (1 : Int)))))) else k2 ())
noncomputable def ku (F : Nat) (a0 : (List aZ)) (a1 : (List aZ)) : Option (Bool) :=
  (bif (((a0.length : Nat) : Int) != ((a1.length : Nat) : Int)) then some false else (jn (fun (_ : Unit) => some true) fun k2 => iE F a0 a1 k2 F (0 : Int)))
noncomputable def iq (F : Nat) (a0 : (List aH)) (a1 : (List aH)) (k2 : Unit → Option (Bool)) : Nat → Int → Option (Bool)
  | 0, _ => none
  | n15 + 1, v14 => (bif (decide (v14 < ((a0.length : Nat) : Int))) then gd (ix a0 v14) (gd (ix a1 v14) ((bif (!(((nth a0 v14).xType == (nth a1 v14).xType) && (((nth a0 v14).iY == (nth a1 v14).iY) && (((nth a0 v14).jw == (nth a1 v14).jw) && (((nth a0 v14).mM == (nth a1 v14).mM) && (((nth a0 v14).nK == (nth a1 v14).nK) && (((nth a0 v14).eH == (nth a1 v14).eH) && (((nth a0 v14).gI == (nth a1 v14).gI) && (((nth a0 v14).qJ == (nth a1 v14).qJ) && (((nth a0 v14).lD == (nth a1 v14).lD) && (((nth a0 v14).dn.c0 == (nth a1 v14).dn.c0) && (((nth a0 v14).dn.c1 == (nth a1 v14).dn.c1) && (((nth a0 v14).dn.c2 == (nth a1 v14).dn.c2) && (((nth a0 v14).dn.c3 == (nth a1 v14).dn.c3) && true)))))))))))))) then some false else gd (inI (v14 + (1 : Int))) (iq F a0 a1 k2 n15 (v14 + (1 : Int)))))) else k2 ())
noncomputable def jP (F : Nat) (a0 : (List aH)) (a1 : (List aH)) : Option (Bool) :=
  (bif (((a0.length : Nat) : Int) != ((a1.length : Nat) : Int)) then some false else (jn (fun (_ : Unit) => some true) fun k2 => iq F a0 a1 k2 F (0 : Int)))
noncomputable def rY (F : Nat) (a0 : aI) (a1 : aI) : Option (Bool) :=
  (lz ((((a0.bH.ak == a1.bH.ak) && ((a0.bH.ay == a1.bH.ay) && ((a0.bH.aA == a1.bH.aA) && true))) == true)) (ku F a0.ay a1.ay)).bind fun x1 => (lz (((((a0.bH.ak == a1.bH.ak) && ((a0.bH.ay == a1.bH.ay) && ((a0.bH.aA == a1.bH.aA) && true))) && x1) == true)) (jP F a0.aA a1.aA)).bind fun x2 => some ((((a0.bH.ak == a1.bH.ak) && ((a0.bH.ay == a1.bH.ay) && ((a0.bH.aA == a1.bH.aA) && true))) && x1) && x2)
noncomputable def uJ (F : Nat) (a0 : (List Int)) : Option (Bool) :=
  (nD F a0).bind fun x1 => some x1.2
noncomputable def nN (F : Nat)  : Option (Bool) :=
  (ql F ).bind fun x1 => (uo F x1 (64 : Int)).bind fun x2 => Eo (x2.1) (bif ((x2.2 != (0 : Int)) || true) then some false else none) fun o3 => (bif ((x2.2 != (0 : Int)) || false) then some false else (lY F o3).bind fun x6 => Eo (x6.2.1) (bif ((x6.2.2 != (0 : Int)) || true) then some false else none) fun o7 => (bif ((x6.2.2 != (0 : Int)) || false) then some false else (mO F (⟨x6.1, o7.dB, o7.xw, o7.cu, o7.fP⟩ : aW)).bind fun x10 => (ql F ).bind fun x11 => (qZ F x11 (64 : Int)).bind fun x12 => (gK F x6.1).bind fun x13 => (lz (((x10.2 == (0 : Int)) == true)) (rY F x10.1 x12.1)).bind fun x14 => gd ((((x10.2 == (0 : Int)) && x14) && (decide ((8 : Int) < ((x13.length : Nat) : Int)))) = true → ix x13 (4 : Int)) ((lz ((((((x10.2 == (0 : Int)) && x14) && (decide ((8 : Int) < ((x13.length : Nat) : Int)))) && ((nth x13 (4 : Int)) == (1 : Int))) == true)) (uJ F x13)).bind fun x16 => some (((((x10.2 == (0 : Int)) && x14) && (decide ((8 : Int) < ((x13.length : Nat) : Int)))) && ((nth x13 (4 : Int)) == (1 : Int))) && x16))))
noncomputable def uM (F : Nat) (a0 : aC) (a0i : Int) (a1 : Int) : Option (Int) :=
  gd (ix a0.xl a0i) ((xO F a1).bind fun x1 => (bif (!x1) then some (0 : Int) else gd (0 ≤ a1 ∧ a1 < ((8 : Nat) : Int)) (some (((nth a0.xl a0i).xNew).get a1.toNat))))
noncomputable def lH (F : Nat) (a0 : aC) (a1 : Int) : Option (Int × Int) :=
  gd (inI (((a0.xl.length : Nat) : Int) * (8 : Int))) ((nG F a0 a1 (((a0.xl.length : Nat) : Int) * (8 : Int))).bind fun x2 => (bif (x2 != (0 : Int)) then some ((0 : Int), x2) else gd (ix a0.xl (IntKind.i64.wrap (Int.tdiv a1 8))) ((uM F a0 (IntKind.i64.wrap (Int.tdiv a1 8)) (Int.tmod a1 8)).bind fun x5 => some (x5, (0 : Int)))))
noncomputable def jK (F : Nat) (v1 : (List Int)) (k5 : (List bI) → Option ((List bI))) : Nat → Int → (List bI) → Option ((List bI))
  | 0, _, _ => none
  | n20 + 1, v18, v19 => (bif (decide (v18 < (((rD (qj v1)).length : Nat) : Int))) then gd (ix (rD (qj v1)) v18) (gd ((v19.length + ([(⟨(1 : Int), (nth (rD (qj v1)) v18), (0 : Int)⟩ : bI)] : List bI).length) * 24 ≤ 140737488355328) (gd (inI (v18 + (1 : Int))) (jK F v1 k5 n20 (v18 + (1 : Int)) (v19 ++ ([(⟨(1 : Int), (nth (rD (qj v1)) v18), (0 : Int)⟩ : bI)] : List bI))))) else k5 v19)
noncomputable def jJ (F : Nat) (a0 : (List Int)) (k2 : (List Int) → Option ((List bI))) : Nat → Int → (List Int) → Option ((List bI))
  | 0, _, _ => none
  | n37 + 1, v35, v36 => (bif (decide (v35 < ((a0.length : Nat) : Int))) then gd (ix v36 v35) (gd (ix v36 v35) (gd (inI (v35 + (1 : Int))) (jJ F a0 k2 n37 (v35 + (1 : Int)) (dZ v36 v35 (IntKind.i64.wrap (Int.tdiv (nth v36 v35) 8)))))) else k2 v36)
noncomputable def nO (F : Nat) (a0 : (List Int)) : Option ((List bI)) :=
  (jn (fun (v1 : (List Int)) => gd (v1.length < 4611686018427387904) ((jn (fun (v4 : (List bI)) => gd ((v4.length + ([(⟨(2 : Int), (0 : Int), (0 : Int)⟩ : bI)] : List bI).length) * 24 ≤ 140737488355328) (some (v4 ++ ([(⟨(2 : Int), (0 : Int), (0 : Int)⟩ : bI)] : List bI)))) fun k5 => gd ((qj v1).length < 4611686018427387904) (jK F v1 k5 F (0 : Int) ([] : List bI))))) fun k2 => jJ F a0 k2 F (0 : Int) a0)
noncomputable def jv (F : Nat) (a3 : (List Int)) (x3 : (Int × Int)) (k11 : (List bI) → Option (aW × Int)) : Nat → Int → (List bI) → Option (aW × Int)
  | 0, _, _ => none
  | n35 + 1, v33, v34 => (bif (decide (v33 < ((a3.length : Nat) : Int))) then gd (ix a3 v33) (gd (inI (x3.1 + (1 : Int))) (gd (inI ((x3.1 + (1 : Int)) + v33)) (gd ((v34.length + ([(⟨(0 : Int), ((x3.1 + (1 : Int)) + v33), (nth a3 v33)⟩ : bI)] : List bI).length) * 24 ≤ 140737488355328) (gd (inI (v33 + (1 : Int))) (jv F a3 x3 k11 n35 (v33 + (1 : Int)) (v34 ++ ([(⟨(0 : Int), ((x3.1 + (1 : Int)) + v33), (nth a3 v33)⟩ : bI)] : List bI))))))) else k11 v34)
noncomputable def qN (F : Nat) (a0 : aW) (a1 : Int) (a2 : Int) (a3 : (List Int)) : Option (aW × Int) :=
  (jy F a0 a1).bind fun x1 => (bif (x1 != (0 : Int)) then some (a0, x1) else (kE F a0.dB a1).bind fun x3 => (lH F a0.xm x3.1).bind fun x4 => (bif (((a3.length : Nat) : Int) != (4 : Int)) then some (a0, (1 : Int)) else gd (ix a0.xw a1) ((bif ((nth a0.xw a1).l7 != (0 : Int)) then some (a0, (13 : Int)) else (bif ((a2 != (IntKind.u64.wrap ((kL .u64 x4.1 (32 : Int)) + (1 : Int)))) || (decide ((4294967295 : Int) < a2))) then some (a0, (11 : Int)) else gd ((4 : Nat) ≤ a3.length) ((jn (fun (v10 : (List bI)) => (lg F (⟨(1 : Int), a2, (⟨(nth a3 (0 : Int)), (nth a3 (1 : Int)), (nth a3 (2 : Int)), (nth a3 (3 : Int))⟩ : V4 Int), (⟨(0 : Int), (0 : Int), (0 : Int)⟩ : dP), ([] : (List aB))⟩ : aV)).bind fun x12 => gd ((v10.length + ([(⟨(0 : Int), x3.1, x12⟩ : bI)] : List bI).length) * 24 ≤ 140737488355328) ((jn (fun (v14 : (List bI)) => gd (ix a0.xw a1) (some ((⟨a0.xm, a0.dB, (dZ a0.xw a1 (⟨(1 : Int), (⟨(1 : Int), a2, (⟨(nth a3 (0 : Int)), (nth a3 (1 : Int)), (nth a3 (2 : Int)), (nth a3 (3 : Int))⟩ : V4 Int), (⟨(0 : Int), (0 : Int), (0 : Int)⟩ : dP), ([] : (List aB))⟩ : aV), v14⟩ : aY)), a0.cu, a0.fP⟩ : aW), (0 : Int)))) fun k15 => (nO F ([x3.1] : List Int)).bind fun x17 => gd (((v10 ++ ([(⟨(0 : Int), x3.1, x12⟩ : bI)] : List bI)).length + x17.length) * 24 ≤ 140737488355328) (k15 ((v10 ++ ([(⟨(0 : Int), x3.1, x12⟩ : bI)] : List bI)) ++ x17))))) fun k11 => jv F a3 x3 k11 F (0 : Int) ([] : List bI))))))))
noncomputable def rG (F : Nat) (a0 : aW) (a1 : Int) (a2 : bI) : Option (aW × Int) :=
  (bif (a2.OL == (1 : Int)) then (jU F a0.xm a2.xat).bind fun x2 => some ((⟨x2.1, a0.dB, a0.xw, a0.cu, a0.fP⟩ : aW), x2.2) else (bif (a2.OL == (2 : Int)) then (lI F a0.xm).bind fun x4 => some ((⟨x4.1, a0.dB, a0.xw, a0.cu, a0.fP⟩ : aW), x4.2) else (jh F a0.xm a2.xat a2.xv).bind fun x5 => (jn (fun (v6 : (List Int)) => some ((⟨x5.1, a0.dB, a0.xw, v6, a0.fP⟩ : aW), x5.2)) fun k7 => (kE F a0.dB a1).bind fun x8 => (bif (((x5.2 == (0 : Int)) && (a2.xat == x8.1)) && ((tN .u64 a2.xv (255 : Int)) == (2 : Int))) then gd ((a0.cu.length + ([a1] : List Int).length) * 8 ≤ 140737488355328) (k7 (a0.cu ++ ([a1] : List Int))) else k7 a0.cu))))
noncomputable def xX (F : Nat) (a0 : aC) (a1 : Int) (a2 : Int) (a3 : Int) : Option (aC × Bool × Int) :=
  (lH F a0 a1).bind fun x1 => (bif ((x1.2 != (0 : Int)) || (x1.1 != a2)) then some (a0, false, x1.2) else (jh F a0 a1 a3).bind fun x3 => some (x3.1, (x3.2 == (0 : Int)), x3.2))
noncomputable def sH (F : Nat) (a0 : aW) (a1 : Int) (a2 : Int) : Option (aW × (List bI)) :=
  gd (ix a0.xw a1) ((kE F a0.dB a1).bind fun x2 => (lg F (⟨a2, (nth a0.xw a1).xd.jD, (nth a0.xw a1).xd.xL, (nth a0.xw a1).xd.bJ, (nth a0.xw a1).xd.xW⟩ : aV)).bind fun x3 => (nO F ([x2.1] : List Int)).bind fun x4 => gd ((([(⟨(0 : Int), x2.1, x3⟩ : bI)] : List bI).length + x4.length) * 24 ≤ 140737488355328) (some ((⟨a0.xm, a0.dB, (dZ a0.xw a1 (⟨(nth a0.xw a1).l7, (⟨a2, (nth a0.xw a1).xd.jD, (nth a0.xw a1).xd.xL, (nth a0.xw a1).xd.bJ, (nth a0.xw a1).xd.xW⟩ : aV), (nth a0.xw a1).xl⟩ : aY)), a0.cu, a0.fP⟩ : aW), (([(⟨(0 : Int), x2.1, x3⟩ : bI)] : List bI) ++ x4))))
noncomputable def oh (F : Nat) (a0 : aW) (a1 : Int) (k3 : (List Int) → (List bI) → Option ((List bI))) : Nat → Int → (List Int) → (List bI) → Option ((List bI))
  | 0, _, _, _ => none
  | n23 + 1, v20, v21, v22 => (bif (decide (v20 < ((((nth a0.xw a1).xd.xW).length : Nat) : Int))) then gd (ix ((nth a0.xw a1).xd.xW) v20) (gd ((v22.length + ([(⟨(0 : Int), (nth ((nth a0.xw a1).xd.xW) v20).xAt, (nth ((nth a0.xw a1).xd.xW) v20).xV⟩ : bI)] : List bI).length) * 24 ≤ 140737488355328) (gd ((v21.length + ([(nth ((nth a0.xw a1).xd.xW) v20).xAt] : List Int).length) * 8 ≤ 140737488355328) (gd (inI (v20 + (1 : Int))) (oh F a0 a1 k3 n23 (v20 + (1 : Int)) (v21 ++ ([(nth ((nth a0.xw a1).xd.xW) v20).xAt] : List Int)) (v22 ++ ([(⟨(0 : Int), (nth ((nth a0.xw a1).xd.xW) v20).xAt, (nth ((nth a0.xw a1).xd.xW) v20).xV⟩ : bI)] : List bI)))))) else k3 v21 v22)
noncomputable def ug (F : Nat) (a0 : aW) (a1 : Int) : Option ((List bI)) :=
  (jn (fun (v1 : (List Int)) (v2 : (List bI)) => (nO F v1).bind fun x4 => gd ((v2.length + x4.length) * 24 ≤ 140737488355328) (some (v2 ++ x4))) fun k3 => gd (ix a0.xw a1) (oh F a0 a1 k3 F (0 : Int) ([] : List Int) ([] : List bI)))
noncomputable def pq (F : Nat) (a0 : aW) (a1 : Int) (k1 : Unit → Option (Int)) : Nat → Int → Option (Int)
  | 0, _ => none
  | n21 + 1, v20 => (bif (decide (v20 < (((a0.xw.length : Nat) : Int) - (1 : Int)))) then gd (inI (a1 + (1 : Int))) (gd (inI ((a1 + (1 : Int)) + v20)) (gd (0 ≤ ((a1 + (1 : Int)) + v20) ∧ 0 < ((a0.xw.length : Nat) : Int)) ((kE F a0.dB (((a1 + (1 : Int)) + v20) % ((a0.xw.length : Nat) : Int))).bind fun x26 => (lH F a0.xm x26.1).bind fun x27 => (bif ((tN .u64 x27.1 (255 : Int)) == (1 : Int)) then some (IntKind.u64.wrap ((IntKind.u64.wrap (((a1 + (1 : Int)) + v20) % ((a0.xw.length : Nat) : Int))) + (1 : Int))) else gd (inI (v20 + (1 : Int))) (pq F a0 a1 k1 n21 (v20 + (1 : Int))))))) else k1 ())
noncomputable def vK (F : Nat) (a0 : aW) (a1 : Int) : Option (Int) :=
  (jn (fun (_ : Unit) => some (0 : Int)) fun k1 => gd (inI (((a0.xw.length : Nat) : Int) - (1 : Int))) (pq F a0 a1 k1 F (0 : Int)))
noncomputable def jE (F : Nat) (a1 : Int) : Nat → (List bV) → Bool → Int → Int → (List Int) → (List aY) → Int → Int → Int → Bool → (List Int) → Option (aW × Int)
  | 0, _, _, _, _, _, _, _, _, _, _, _ => none
  | n81 + 1, v70, v71, v72, v73, v74, v75, v76, v77, v78, v79, v80 => gd (ix v75 a1) ((bif (decide ((0 : Int) < ((((nth v75 a1).xl).length : Nat) : Int))) then gd (ix ((nth v75 a1).xl) (0 : Int)) (gd (0 ≤ (1 : Int) ∧ (1 : Int) ≤ ((((nth v75 a1).xl).length : Nat) : Int) ∧ ((((nth v75 a1).xl).length : Nat) : Int) ≤ ((((nth v75 a1).xl).length : Nat) : Int)) ((rG F (⟨(⟨v70, v71, v72, v73, v74⟩ : aC), (⟨v76, v77, v78⟩ : aJ), (dZ v75 a1 (⟨(nth v75 a1).l7, (nth v75 a1).xd, (cut ((nth v75 a1).xl) (1 : Int) ((((nth v75 a1).xl).length : Nat) : Int))⟩ : aY)), v80, v79⟩ : aW) a1 (nth ((nth v75 a1).xl) (0 : Int))).bind fun x87 => some (x87.1, x87.2))) else (ru F (⟨v76, v77, v78⟩ : aJ)).bind fun x88 => (bif ((nth v75 a1).l7 == (1 : Int)) then jE F a1 n81 v70 v71 v72 v73 v74 (dZ v75 a1 (⟨(2 : Int), (nth v75 a1).xd, (nth v75 a1).xl⟩ : aY)) v76 v77 v78 v79 v80 else (bif ((nth v75 a1).l7 == (2 : Int)) then (lH F (⟨v70, v71, v72, v73, v74⟩ : aC) x88).bind fun x91 => (bif (x91.1 != (IntKind.u64.wrap ((IntKind.u64.wrap a1) + (1 : Int)))) then (xX F (⟨v70, v71, v72, v73, v74⟩ : aC) x88 (0 : Int) (IntKind.u64.wrap ((IntKind.u64.wrap a1) + (1 : Int)))).bind fun x93 => some ((⟨x93.1, (⟨v76, v77, v78⟩ : aJ), v75, v80, v79⟩ : aW), x93.2.2) else none) else (bif ((nth v75 a1).l7 == (3 : Int)) then (sH F (⟨(⟨v70, v71, v72, v73, v74⟩ : aC), (⟨v76, v77, v78⟩ : aJ), (dZ v75 a1 (⟨(4 : Int), (nth v75 a1).xd, (nth v75 a1).xl⟩ : aY)), v80, v79⟩ : aW) a1 (2 : Int)).bind fun x95 => gd (ix x95.1.xw a1) (jE F a1 n81 x95.1.xm.xl x95.1.xm.dD x95.1.xm.bC x95.1.xm.bP x95.1.xm.bQ (dZ x95.1.xw a1 (⟨(nth x95.1.xw a1).l7, (nth x95.1.xw a1).xd, x95.2⟩ : aY)) x95.1.dB.ak x95.1.dB.ay x95.1.dB.aA x95.1.fP x95.1.cu) else (bif ((nth v75 a1).l7 == (4 : Int)) then (ug F (⟨(⟨v70, v71, v72, v73, v74⟩ : aC), (⟨v76, v77, v78⟩ : aJ), (dZ v75 a1 (⟨(5 : Int), (nth v75 a1).xd, (nth v75 a1).xl⟩ : aY)), v80, v79⟩ : aW) a1).bind fun x98 => jE F a1 n81 v70 v71 v72 v73 v74 (dZ v75 a1 (⟨(5 : Int), (nth v75 a1).xd, x98⟩ : aY)) v76 v77 v78 v79 v80 else (bif ((nth v75 a1).l7 == (5 : Int)) then (sH F (⟨(⟨v70, v71, v72, v73, v74⟩ : aC), (⟨v76, v77, v78⟩ : aJ), (dZ v75 a1 (⟨(6 : Int), (nth v75 a1).xd, (nth v75 a1).xl⟩ : aY)), v80, v79⟩ : aW) a1 (3 : Int)).bind fun x100 => gd (ix x100.1.xw a1) (jE F a1 n81 x100.1.xm.xl x100.1.xm.dD x100.1.xm.bC x100.1.xm.bP x100.1.xm.bQ (dZ x100.1.xw a1 (⟨(nth x100.1.xw a1).l7, (nth x100.1.xw a1).xd, x100.2⟩ : aY)) x100.1.dB.ak x100.1.dB.ay x100.1.dB.aA x100.1.fP x100.1.cu) else (bif ((nth v75 a1).l7 == (6 : Int)) then (jn (fun (acU : Int) (acV : (List bV)) (v105 : Bool) (acW : Int) (v107 : Int) (acX : (List Int)) => some ((⟨(⟨acV, v105, acW, v107, acX⟩ : aC), (⟨v76, v77, v78⟩ : aJ), (dZ v75 a1 (⟨(7 : Int), (nth v75 a1).xd, (nth v75 a1).xl⟩ : aY)), v80, v79⟩ : aW), acU)) fun abB => (vK F (⟨(⟨v70, v71, v72, v73, v74⟩ : aC), (⟨v76, v77, v78⟩ : aJ), (dZ v75 a1 (⟨(7 : Int), (nth v75 a1).xd, (nth v75 a1).xl⟩ : aY)), v80, v79⟩ : aW) a1).bind fun mJ => (jh F (⟨v70, v71, v72, v73, v74⟩ : aC) x88 mJ).bind fun dA => abB dA.2 dA.1.xl dA.1.dD dA.1.bC dA.1.bP dA.1.bQ) else some ((⟨(⟨v70, v71, v72, v73, v74⟩ : aC), (⟨v76, v77, v78⟩ : aJ), v75, v80, v79⟩ : aW), (0 : Int))))))))))
noncomputable def pV (F : Nat) (a0 : aW) (a1 : Int) : Option (aW × Int) :=
  gd (ix a0.xw a1) (jE F a1 F a0.xm.xl a0.xm.dD a0.xm.bC a0.xm.bP a0.xm.bQ a0.xw a0.dB.ak a0.dB.ay a0.dB.aA a0.fP a0.cu)
noncomputable def pU (F : Nat) (a0 : aW) (a1 : Int) : Option (aW × Bool × Int) :=
  (jy F a0 a1).bind fun x1 => (bif (x1 != (0 : Int)) then some (a0, false, x1) else gd (ix a0.xw a1) ((bif ((nth a0.xw a1).l7 == (0 : Int)) then some (a0, false, (14 : Int)) else (jn (fun (v5 : Int) => (jn (fun (v7 : Int) => (pV F a0 v7).bind fun x9 => (bif (x9.2 != (0 : Int)) then some ((⟨x9.1.xm, x9.1.dB, x9.1.xw, x9.1.cu, true⟩ : aW), false, x9.2) else gd (ix x9.1.xw a1) ((bif ((nth x9.1.xw a1).l7 != (7 : Int)) then some (x9.1, false, (0 : Int)) else gd (ix x9.1.xw a1) (some ((⟨x9.1.xm, x9.1.dB, (dZ x9.1.xw a1 (⟨(0 : Int), (⟨(0 : Int), (0 : Int), (⟨(0 : Int), (0 : Int), (0 : Int), (0 : Int)⟩ : V4 Int), (⟨(0 : Int), (0 : Int), (0 : Int)⟩ : dP), ([] : (List aB))⟩ : aV), ([] : (List bI))⟩ : aY)), x9.1.cu, x9.1.fP⟩ : aW), true, (0 : Int))))))) fun k8 => gd (ix a0.xw a1) ((bif ((((nth a0.xw a1).l7 == (2 : Int)) && (v5 != (0 : Int))) && (v5 != (IntKind.u64.wrap ((IntKind.u64.wrap a1) + (1 : Int))))) then gd (inI ((IntKind.i64.wrap v5) - (1 : Int))) (k8 ((IntKind.i64.wrap v5) - (1 : Int))) else k8 a1)))) fun k6 => (ru F a0.dB).bind fun x17 => (lH F a0.xm x17).bind fun x18 => k6 x18.1))))
noncomputable def xq (F : Nat) (a0 : aC) : Option (aC) :=
  some (⟨a0.xl, false, a0.bC, a0.bP, a0.bQ⟩ : aC)
noncomputable def pW (F : Nat) (a0 : aW) (a1 : Int) : Option (aV × Int) :=
  (jy F a0 a1).bind fun x1 => (bif (x1 != (0 : Int)) then some ((⟨(0 : Int), (0 : Int), (⟨(0 : Int), (0 : Int), (0 : Int), (0 : Int)⟩ : V4 Int), (⟨(0 : Int), (0 : Int), (0 : Int)⟩ : dP), ([] : (List aB))⟩ : aV), x1) else (gK F a0.xm).bind fun x3 => (nI F a0 x3 a1).bind fun x4 => (bif (!x4.2) then some ((⟨(0 : Int), (0 : Int), (⟨(0 : Int), (0 : Int), (0 : Int), (0 : Int)⟩ : V4 Int), (⟨(0 : Int), (0 : Int), (0 : Int)⟩ : dP), ([] : (List aB))⟩ : aV), (2 : Int)) else some (x4.1, (0 : Int))))
noncomputable def oM (F : Nat) (a0 : (List aB)) (k2 : (List dM) → Option ((List dM))) : Nat → Int → (List dM) → Option ((List dM))
  | 0, _, _ => none
  | n17 + 1, v15, v16 => (bif (decide (v15 < ((a0.length : Nat) : Int))) then gd (ix a0 v15) (gd (ix a0 v15) (gd ((v16.length + ([(⟨(nth a0 v15).xAt, (nth a0 v15).xV⟩ : dM)] : List dM).length) * 16 ≤ 140737488355328) (gd (inI (v15 + (1 : Int))) (oM F a0 k2 n17 (v15 + (1 : Int)) (v16 ++ ([(⟨(nth a0 v15).xAt, (nth a0 v15).xV⟩ : dM)] : List dM)))))) else k2 v16)
noncomputable def uN (F : Nat) (a0 : (List aB)) : Option ((List dM)) :=
  (jn (fun (v1 : (List dM)) => some v1) fun k2 => oM F a0 k2 F (0 : Int) ([] : List dM))
noncomputable def kF (F : Nat) (a0 : aV) : Option (jL) :=
  (uN F a0.xW).bind fun x1 => some (⟨a0.bK, a0.jD, a0.xL, (⟨a0.bJ.kP, a0.bJ.xW, a0.bJ.xN⟩ : xU), x1⟩ : jL)
noncomputable def oq (F : Nat) (a0 : jL) (a1 : jL) (k2 : Unit → Option (Bool)) : Nat → Int → Option (Bool)
  | 0, _ => none
  | n15 + 1, v14 => (bif (decide (v14 < ((a0.xW.length : Nat) : Int))) then gd (ix a0.xW v14) (gd (ix a1.xW v14) ((bif (!(((nth a0.xW v14).xAt == (nth a1.xW v14).xAt) && (((nth a0.xW v14).xV == (nth a1.xW v14).xV) && true))) then some false else gd (inI (v14 + (1 : Int))) (oq F a0 a1 k2 n15 (v14 + (1 : Int)))))) else k2 ())
noncomputable def nP (F : Nat) (a0 : jL) (a1 : jL) : Option (Bool) :=
  (bif (((((a0.bK != a1.bK) || (a0.jD != a1.jD)) || (!((a0.xL.c0 == a1.xL.c0) && ((a0.xL.c1 == a1.xL.c1) && ((a0.xL.c2 == a1.xL.c2) && ((a0.xL.c3 == a1.xL.c3) && true)))))) || (!((a0.bJ.kP == a1.bJ.kP) && ((a0.bJ.xW == a1.bJ.xW) && ((a0.bJ.xN == a1.bJ.xN) && true))))) || (((a0.xW.length : Nat) : Int) != ((a1.xW.length : Nat) : Int))) then some false else (jn (fun (_ : Unit) => some true) fun k2 => oq F a0 a1 k2 F (0 : Int)))
noncomputable def gu (F : Nat) (a1 : Int) (k22 : Bool → Int → Int → (List Int) → (List bV) → Option (Bool)) : Nat → Int → Int → Int → Int → Bool → (List Int) → (List aY) → Bool → Int → Int → (List Int) → (List bV) → Option (Bool)
  | 0, _, _, _, _, _, _, _, _, _, _, _, _ => none
  | n71 + 1, v59, v60, v61, v62, v63, v64, v65, v66, v67, v68, v69, v70 => (bif (decide (v59 < a1)) then (pU F (⟨(⟨v70, v66, v67, v68, v69⟩ : aC), (⟨v60, v61, v62⟩ : aJ), v65, v64, v63⟩ : aW) (0 : Int)).bind fun x73 => gd (inI (v59 + (1 : Int))) (gu F a1 k22 n71 (v59 + (1 : Int)) x73.1.dB.ak x73.1.dB.ay x73.1.dB.aA x73.1.fP x73.1.cu x73.1.xw x73.1.xm.dD x73.1.xm.bC x73.1.xm.bP x73.1.xm.bQ x73.1.xm.xl) else k22 v66 v67 v68 v69 v70)
noncomputable def lq (F : Nat) (a0 : (V4 Int)) (a1 : Int) : Option (Bool) :=
  (nN F ).bind fun x1 => (bif (!x1) then some false else (bif ((decide (a1 < (0 : Int))) || (decide ((6 : Int) < a1))) then some true else (ql F ).bind fun x4 => (uo F x4 (64 : Int)).bind fun x5 => Eo (x5.1) (bif ((x5.2 != (0 : Int)) || true) then some false else none) fun o6 => (bif ((x5.2 != (0 : Int)) || false) then some false else (lY F o6).bind fun x9 => Eo (x9.2.1) (bif ((x9.2.2 != (0 : Int)) || true) then some false else none) fun o10 => (bif ((x9.2.2 != (0 : Int)) || false) then some false else (qN F (⟨x9.1, o10.dB, o10.xw, o10.cu, o10.fP⟩ : aW) (0 : Int) (1 : Int) ([a0.c0, a0.c1, a0.c2, a0.c3] : List Int)).bind fun x15 => (bif (x15.2 != (0 : Int)) then some false else (jn (fun (v17 : Bool) (v18 : Int) (v19 : Int) (v20 : (List Int)) (v21 : (List bV)) => (oC F (⟨v21, v17, v18, v19, v20⟩ : aC) ([] : (List Int))).bind fun x23 => (xq F x23).bind fun x24 => (lY F x24).bind fun x25 => Eo (x25.2.1) (bif ((x25.2.2 != (0 : Int)) || true) then some false else none) fun o26 => (bif ((x25.2.2 != (0 : Int)) || false) then some false else (pW F (⟨x25.1, o26.dB, o26.xw, o26.cu, o26.fP⟩ : aW) (0 : Int)).bind fun x29 => (mO F (⟨x25.1, o26.dB, o26.xw, o26.cu, o26.fP⟩ : aW)).bind fun x30 => (ql F ).bind fun x31 => (qZ F x31 (64 : Int)).bind fun x32 => (lz ((((x29.2 != (0 : Int)) || (x30.2 != (0 : Int))) == false)) (rY F x30.1 x32.1)).bind fun x33 => (bif (((x29.2 != (0 : Int)) || (x30.2 != (0 : Int))) || (!x33)) then some false else (kF F x29.1).bind fun x35 => (kF F (⟨(0 : Int), (0 : Int), (⟨(0 : Int), (0 : Int), (0 : Int), (0 : Int)⟩ : V4 Int), (⟨(0 : Int), (0 : Int), (0 : Int)⟩ : dP), ([] : (List aB))⟩ : aV)).bind fun x36 => (nP F x35 x36).bind fun x37 => (lz ((x37 == false)) (kF F x29.1)).bind fun x38 => (lz ((x37 == false)) (kF F (⟨(4 : Int), (1 : Int), a0, (⟨(0 : Int), (0 : Int), (0 : Int)⟩ : dP), ([] : (List aB))⟩ : aV))).bind fun x39 => (lz ((x37 == false)) (nP F x38 x39)).bind fun x40 => some (x37 || x40)))) fun k22 => gu F a1 k22 F (0 : Int) x15.1.dB.ak x15.1.dB.ay x15.1.dB.aA x15.1.fP x15.1.cu x15.1.xw x15.1.xm.dD x15.1.xm.bC x15.1.xm.bP x15.1.xm.bQ x15.1.xm.xl))))))
theorem Y1 : P9 Tryz.prog 23 [.int, .int, .int, .int] := ⟨by kernel_rfl, by kernel_rfl, by kernel_rfl⟩
theorem abC : P9 Tryz.prog 30 [.int, .int, .int] := ⟨by kernel_rfl, by kernel_rfl, by kernel_rfl⟩
theorem abD : P9 Tryz.prog 41 [.int, .int, .int] := ⟨by kernel_rfl, by kernel_rfl, by kernel_rfl⟩
theorem abE : P9 Tryz.prog 81 [.int, .int, .int] := ⟨by kernel_rfl, by kernel_rfl, by kernel_rfl⟩
theorem Qa : P9 Tryz.prog 122 [.int, .int, .int, .int, .int, .int, .int, .bool, .int, .int, .int, .int, .int] := ⟨by kernel_rfl, by kernel_rfl, by kernel_rfl⟩
theorem aap : P9 Tryz.prog 126 [.int, .int, .int, .int] := ⟨by kernel_rfl, by kernel_rfl, by kernel_rfl⟩
theorem aaq : P9 Tryz.prog 128 [.int, .int, .int, .int, .int] := ⟨by kernel_rfl, by kernel_rfl, by kernel_rfl⟩
theorem aar : P9 Tryz.prog 141 [.int, .int] := ⟨by kernel_rfl, by kernel_rfl, by kernel_rfl⟩
end
end Go.V.P
