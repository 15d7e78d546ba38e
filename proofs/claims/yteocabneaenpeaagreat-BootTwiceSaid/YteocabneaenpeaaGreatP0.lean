/- Models of the program's functions: what each comes to, in plain Lean. Printed by mg.py. No premises. -/
import Derived.Test.YteocabneaenpeaaGreatG1
import Derived.Test.YteocabneaenpeaaGreatTS
import Derived.Test.YteocabneaenpeaaGreatProg
set_option linter.unusedVariables false
set_option linter.unusedSimpArgs false
set_option maxRecDepth 20000
set_option maxHeartbeats 4000000
namespace Go.V.P
open Go.V Go.Proofs
section
structure V2 (α : Type) where
  c0 : α
  c1 : α
  deriving Inhabited, DecidableEq
def V2.get {α : Type} (v : V2 α) (i : Nat) : α := match i with
  | 0 => v.c0
  | _ => v.c1
def V2.put {α : Type} (v : V2 α) (i : Nat) (x : α) : V2 α := match i with
  | 0 => { v with c0 := x }
  | _ => { v with c1 := x }
structure V4 (α : Type) where
  c0 : α
  c1 : α
  c2 : α
  c3 : α
  deriving Inhabited, DecidableEq
def V4.get {α : Type} (v : V4 α) (i : Nat) : α := match i with
  | 0 => v.c0
  | 1 => v.c1
  | 2 => v.c2
  | _ => v.c3
def V4.put {α : Type} (v : V4 α) (i : Nat) (x : α) : V4 α := match i with
  | 0 => { v with c0 := x }
  | 1 => { v with c1 := x }
  | 2 => { v with c2 := x }
  | _ => { v with c3 := x }
structure V8 (α : Type) where
  c0 : α
  c1 : α
  c2 : α
  c3 : α
  c4 : α
  c5 : α
  c6 : α
  c7 : α
  deriving Inhabited, DecidableEq
def V8.get {α : Type} (v : V8 α) (i : Nat) : α := match i with
  | 0 => v.c0
  | 1 => v.c1
  | 2 => v.c2
  | 3 => v.c3
  | 4 => v.c4
  | 5 => v.c5
  | 6 => v.c6
  | _ => v.c7
def V8.put {α : Type} (v : V8 α) (i : Nat) (x : α) : V8 α := match i with
  | 0 => { v with c0 := x }
  | 1 => { v with c1 := x }
  | 2 => { v with c2 := x }
  | 3 => { v with c3 := x }
  | 4 => { v with c4 := x }
  | 5 => { v with c5 := x }
  | 6 => { v with c6 := x }
  | _ => { v with c7 := x }
def EY (l : List Int) : List Int := l.mergeSort fun x y => decide (x ≤ y)
theorem aH (l : List Int) : (EY l).length = l.length := List.length_mergeSort l
def Hl (l : List Int) : List Int := Go.Lib.compact l
noncomputable def uf (k : IntKind) (a b : Int) : Int := k.wrap ((BitVec.ofInt k.bits a &&& BitVec.ofInt k.bits b).toNat)
noncomputable def ior (k : IntKind) (a b : Int) : Int := k.wrap ((BitVec.ofInt k.bits a ||| BitVec.ofInt k.bits b).toNat)
noncomputable def ad9 (k : IntKind) (a b : Int) : Int := k.wrap ((BitVec.ofInt k.bits a ^^^ BitVec.ofInt k.bits b).toNat)
noncomputable def Hr (k : IntKind) (a b : Int) : Int := k.wrap ((BitVec.ofInt k.bits a &&& ~~~ BitVec.ofInt k.bits b).toNat)
noncomputable def o9 (k : IntKind) (a b : Int) : Int := k.wrap (a * 2 ^ (min b.toNat k.bits))
noncomputable def kS (k : IntKind) (a b : Int) : Int := a.fdiv (2 ^ (min b.toNat k.bits))
structure bg where
  ak : Int
  au : Int
  ay : Int
  deriving Inhabited, DecidableEq
structure aJ where
  xType : Int
  jw : Int
  jJ : Int
  mQ : Int
  nT : Int
  fE : Int
  gX : Int
  qC : Bool
  lH : Int
  dH : (V4 Int)
  deriving Inhabited, DecidableEq
structure eG where
  xType : Int
  iO : Int
  kL : Int
  gX : Int
  deriving Inhabited, DecidableEq
structure aY where
  iF : eG
  xUp : Int
  deriving Inhabited, DecidableEq
structure aK where
  bH : bg
  au : (List aY)
  ay : (List aJ)
  deriving Inhabited, DecidableEq
structure iR where
  xUp : (List Int)
  deriving Inhabited, DecidableEq
structure dQ where
  bH : bg
  tq : Int
  deriving Inhabited, DecidableEq
structure aU where
  fE : Int
  Gw : Int
  deriving Inhabited, DecidableEq
structure bQ where
  jQ : (V8 Int)
  xNew : (V8 Int)
  yA : Bool
  rH : Bool
  deriving Inhabited, DecidableEq
structure aO where
  xl : (List bQ)
  gB : Bool
  dA : Int
  dO : Int
  dN : (List Int)
  deriving Inhabited, DecidableEq
structure aA where
  xAt : Int
  xV : Int
  deriving Inhabited, DecidableEq
structure jf where
  lW : Int
  xW : Int
  xN : Int
  deriving Inhabited, DecidableEq
structure bC where
  bY : Int
  lF : Int
  xL : (V4 Int)
  dh : jf
  xW : (List aA)
  deriving Inhabited, DecidableEq
structure iJ where
  xs : aK
  mO : (List bC)
  lQ : Int
  mZ : Bool
  deriving Inhabited, DecidableEq
structure CX where
  abr : Int
  xat : Int
  xv : Int
  deriving Inhabited, DecidableEq
structure vJ where
  Z4 : Int
  xd : bC
  xl : (List CX)
  deriving Inhabited, DecidableEq
structure eF where
  xm : aO
  lT : bg
  xw : (List vJ)
  jB : (List Int)
  nP : Bool
  deriving Inhabited, DecidableEq
structure jg where
  xAt : Int
  xV : Int
  deriving Inhabited, DecidableEq
noncomputable def aQ (x : aY) : List T := [.v (.int .i64 x.iF.xType), .v (.int .i64 x.iF.iO), .v (.int .i64 x.iF.kL), .v (.int .i64 x.iF.gX), .v (.int .i64 x.xUp)]
noncomputable def aS (x : aJ) : List T := [.v (.int .i64 x.xType), .v (.int .i64 x.jw), .v (.int .i64 x.jJ), .v (.int .i64 x.mQ), .v (.int .i64 x.nT), .v (.int .i64 x.fE), .v (.int .i64 x.gX), .v (.bool x.qC), .v (.int .u64 x.lH), .v (.int .u64 x.dH.c0), .v (.int .u64 x.dH.c1), .v (.int .u64 x.dH.c2), .v (.int .u64 x.dH.c3)]
noncomputable def bT (x : Int) : List T := [.v (.int .i64 x)]
noncomputable def D9 (x : Bool) : List T := [.v (.bool x)]
noncomputable def cO (x : Int) : List T := [.v (.int .u64 x)]
noncomputable def iH (x : aU) : List T := [.v (.int .i64 x.fE), .v (.int .i64 x.Gw)]
noncomputable def bJ (x : bQ) : List T := [.v (.int .u64 x.jQ.c0), .v (.int .u64 x.jQ.c1), .v (.int .u64 x.jQ.c2), .v (.int .u64 x.jQ.c3), .v (.int .u64 x.jQ.c4), .v (.int .u64 x.jQ.c5), .v (.int .u64 x.jQ.c6), .v (.int .u64 x.jQ.c7), .v (.int .u64 x.xNew.c0), .v (.int .u64 x.xNew.c1), .v (.int .u64 x.xNew.c2), .v (.int .u64 x.xNew.c3), .v (.int .u64 x.xNew.c4), .v (.int .u64 x.xNew.c5), .v (.int .u64 x.xNew.c6), .v (.int .u64 x.xNew.c7), .v (.bool x.yA), .v (.bool x.rH)]
noncomputable def bZ (x : aA) : List T := [.v (.int .i64 x.xAt), .v (.int .u64 x.xV)]
noncomputable def gI (x : bC) : List T := [.v (.int .i64 x.bY), .v (.int .u64 x.lF), .v (.int .u64 x.xL.c0), .v (.int .u64 x.xL.c1), .v (.int .u64 x.xL.c2), .v (.int .u64 x.xL.c3), .v (.int .i64 x.dh.lW), .v (.int .u64 x.dh.xW), .v (.int .i64 x.dh.xN), .sl (flat bZ x.xW) x.xW.length]
noncomputable def iM (x : (List aA)) : List T := [.sl (flat bZ x) x.length]
noncomputable def Qq (x : CX) : List T := [.v (.int .i64 x.abr), .v (.int .i64 x.xat), .v (.int .u64 x.xv)]
noncomputable def jZ (x : vJ) : List T := [.v (.int .i64 x.Z4), .v (.int .i64 x.xd.bY), .v (.int .u64 x.xd.lF), .v (.int .u64 x.xd.xL.c0), .v (.int .u64 x.xd.xL.c1), .v (.int .u64 x.xd.xL.c2), .v (.int .u64 x.xd.xL.c3), .v (.int .i64 x.xd.dh.lW), .v (.int .u64 x.xd.dh.xW), .v (.int .i64 x.xd.dh.xN), .sl (flat bZ x.xd.xW) x.xd.xW.length, .sl (flat Qq x.xl) x.xl.length]
noncomputable def iW (x : jg) : List T := [.v (.int .i64 x.xAt), .v (.int .u64 x.xV)]
noncomputable def vM (F : Nat)  : Option (bg) :=
  some (⟨(2 : Int), (32 : Int), (16 : Int)⟩ : bg)
noncomputable def qU (F : Nat) (a0 : aJ) : Option (aJ) :=
  (bif (a0.xType == (1 : Int)) then some (⟨a0.xType, (0 : Int), (0 : Int), a0.mQ, a0.nT, (0 : Int), (0 : Int), false, (0 : Int), (⟨(0 : Int), (0 : Int), (0 : Int), (0 : Int)⟩ : V4 Int)⟩ : aJ) else (bif (a0.xType == (2 : Int)) then some (⟨a0.xType, a0.jw, a0.jJ, (0 : Int), (0 : Int), (0 : Int), (0 : Int), false, (0 : Int), (⟨(0 : Int), (0 : Int), (0 : Int), (0 : Int)⟩ : V4 Int)⟩ : aJ) else (bif (a0.xType == (3 : Int)) then (bif (!a0.qC) then some (⟨a0.xType, (0 : Int), (0 : Int), (0 : Int), (0 : Int), (0 : Int), (0 : Int), false, (0 : Int), (⟨(0 : Int), (0 : Int), (0 : Int), (0 : Int)⟩ : V4 Int)⟩ : aJ) else some (⟨a0.xType, (0 : Int), (0 : Int), (0 : Int), (0 : Int), a0.fE, a0.gX, true, a0.lH, (⟨(0 : Int), (0 : Int), (0 : Int), (0 : Int)⟩ : V4 Int)⟩ : aJ)) else (bif (a0.xType == (4 : Int)) then some (⟨a0.xType, (0 : Int), (0 : Int), (0 : Int), (0 : Int), (0 : Int), (0 : Int), false, a0.lH, (⟨(0 : Int), (0 : Int), (0 : Int), (0 : Int)⟩ : V4 Int)⟩ : aJ) else (bif (a0.xType == (5 : Int)) then some (⟨a0.xType, (0 : Int), (0 : Int), (0 : Int), (0 : Int), (0 : Int), (0 : Int), false, (0 : Int), a0.dH⟩ : aJ) else some (⟨(0 : Int), (0 : Int), (0 : Int), (0 : Int), (0 : Int), (0 : Int), (0 : Int), false, (0 : Int), (⟨(0 : Int), (0 : Int), (0 : Int), (0 : Int)⟩ : V4 Int)⟩ : aJ))))))
noncomputable def nS (F : Nat) (a0 : Int) (a1 : Int) (a2 : Int) : Option (Bool) :=
  some ((decide (a1 ≤ a0)) && (decide (a0 ≤ a2)))
noncomputable def jO (F : Nat) (a0 : aJ) : Option (Bool) :=
  (qU F a0).bind fun x1 => (bif (!((x1.xType == a0.xType) && ((x1.jw == a0.jw) && ((x1.jJ == a0.jJ) && ((x1.mQ == a0.mQ) && ((x1.nT == a0.nT) && ((x1.fE == a0.fE) && ((x1.gX == a0.gX) && ((x1.qC == a0.qC) && ((x1.lH == a0.lH) && ((x1.dH.c0 == a0.dH.c0) && ((x1.dH.c1 == a0.dH.c1) && ((x1.dH.c2 == a0.dH.c2) && ((x1.dH.c3 == a0.dH.c3) && true)))))))))))))) then some false else (bif (a0.xType == (1 : Int)) then (nS F a0.mQ (1 : Int) (4096 : Int)).bind fun x4 => (lz ((x4 == true)) (nS F a0.nT (0 : Int) a0.mQ)).bind fun x5 => some (x4 && x5) else (bif (a0.xType == (2 : Int)) then (nS F a0.jw (1 : Int) (4 : Int)).bind fun x7 => gd (x7 = true → 0 ≤ a0.jw) (gd (x7 = true → inI ((96 : Int) - (o9 .i64 (1 : Int) a0.jw))) ((lz ((x7 == true)) (nS F a0.jJ (0 : Int) ((96 : Int) - (o9 .i64 (1 : Int) a0.jw)))).bind fun x10 => some (x7 && x10))) else (bif (a0.xType == (3 : Int)) then (nS F a0.gX (0 : Int) (65535 : Int)).bind fun x12 => (lz ((x12 == true)) (nS F a0.fE (0 : Int) (96 : Int))).bind fun x13 => some (x12 && x13) else some true))))
noncomputable def nO (F : Nat) (a0 : Int) (a1 : Int) (a2 : Int) : Option (aJ × Bool) :=
  (jn (fun (v1 : Int) (v2 : Int) (v3 : Int) => (jO F (⟨a0, v1, v2, v3, (0 : Int), (0 : Int), (0 : Int), false, (0 : Int), (⟨(0 : Int), (0 : Int), (0 : Int), (0 : Int)⟩ : V4 Int)⟩ : aJ)).bind fun x5 => (bif (!x5) then some ((⟨(0 : Int), (0 : Int), (0 : Int), (0 : Int), (0 : Int), (0 : Int), (0 : Int), false, (0 : Int), (⟨(0 : Int), (0 : Int), (0 : Int), (0 : Int)⟩ : V4 Int)⟩ : aJ), false) else some ((⟨a0, v1, v2, v3, (0 : Int), (0 : Int), (0 : Int), false, (0 : Int), (⟨(0 : Int), (0 : Int), (0 : Int), (0 : Int)⟩ : V4 Int)⟩ : aJ), true))) fun k4 => (bif (a0 == (1 : Int)) then k4 (0 : Int) (0 : Int) a1 else (bif (a0 == (2 : Int)) then k4 a1 a2 (0 : Int) else (jn (fun (v9 : Bool) => (bif v9 then k4 (0 : Int) (0 : Int) (0 : Int) else some ((⟨(0 : Int), (0 : Int), (0 : Int), (0 : Int), (0 : Int), (0 : Int), (0 : Int), false, (0 : Int), (⟨(0 : Int), (0 : Int), (0 : Int), (0 : Int)⟩ : V4 Int)⟩ : aJ), false))) fun k10 => (bif (a0 == (3 : Int)) then k10 (a0 == (3 : Int)) else (bif (a0 == (4 : Int)) then k10 (a0 == (4 : Int)) else k10 (a0 == (5 : Int))))))))
noncomputable def oH (F : Nat) (a0 : Int) (a1 : Int) (a2 : Int) : Option (Bool) :=
  some ((decide (a1 ≤ a0)) && (decide (a0 ≤ a2)))
noncomputable def jL (F : Nat) (a0 : bg) : Option (Bool) :=
  (oH F a0.ak (1 : Int) (4 : Int)).bind fun x1 => gd (x1 = true → inI ((8 : Int) * a0.ak)) ((lz ((x1 == true)) (oH F a0.au ((8 : Int) * a0.ak) (96 : Int))).bind fun x3 => gd (((x1 && x3) && ((Int.tmod a0.au 8) == (0 : Int))) = true → inI (a0.ak + (2 : Int))) ((lz ((((x1 && x3) && ((Int.tmod a0.au 8) == (0 : Int))) == true)) (oH F a0.ay (a0.ak + (2 : Int)) (48 : Int))).bind fun x5 => some (((x1 && x3) && ((Int.tmod a0.au 8) == (0 : Int))) && x5)))
noncomputable def sN (F : Nat) (a0 : bg) (a1 : Int) : Option (Int) :=
  (jL F a0).bind fun x1 => gd ((!x1) = false → inI (a0.ak - (1 : Int))) ((lz (((!x1) == false)) (oH F a1 (0 : Int) (a0.ak - (1 : Int)))).bind fun x3 => (bif ((!x1) || (!x3)) then some (0 : Int) else gd (inI ((8 : Int) * a1)) (some ((8 : Int) * a1))))
noncomputable def pz (F : Nat) (a0 : bg) (x10 : (Int)) (k14 : (List aJ) → (List aY) → Option (aK × Int)) : Nat → Int → (List aJ) → (List aY) → Option (aK × Int)
  | 0, _, _, _ => none
  | n46 + 1, v43, v44, v45 => (bif (decide (v43 < a0.ak)) then (sN F a0 v43).bind fun x48 => (jn (fun (v49 : (List aJ)) => gd (inI (x48 + (1 : Int))) (gd (inI (x10 + (1 : Int))) (gd (ix v45 (x48 + (1 : Int))) (gd (inI (v43 + (1 : Int))) (pz F a0 x10 k14 n46 (v43 + (1 : Int)) v49 (jl v45 (x48 + (1 : Int)) (⟨(⟨(3 : Int), (1 : Int), (7 : Int), (0 : Int)⟩ : eG), (x10 + (1 : Int))⟩ : aY))))))) fun k50 => gd (inI ((2 : Int) + v43)) ((nO F (2 : Int) (3 : Int) x48).bind fun x56 => gd (ix v44 ((2 : Int) + v43)) (k50 (jl v44 ((2 : Int) + v43) x56.1)))) else k14 v44 v45)
noncomputable def pq (F : Nat) (a0 : bg) (k6 : (List aY) → Option (aK × Int)) : Nat → Int → (List aY) → Option (aK × Int)
  | 0, _, _ => none
  | n70 + 1, v68, v69 => (bif (decide (v68 < (((List.replicate a0.au.toNat (⟨(⟨(0 : Int), (0 : Int), (0 : Int), (0 : Int)⟩ : eG), (0 : Int)⟩ : aY)).length : Nat) : Int))) then gd (ix v69 v68) (gd (inI (v68 + (1 : Int))) (pq F a0 k6 n70 (v68 + (1 : Int)) (jl v69 v68 (⟨(nth v69 v68).iF, (-1 : Int)⟩ : aY)))) else k6 v69)
noncomputable def tC (F : Nat) (a0 : bg) (a1 : Int) : Option (aK × Int) :=
  (nO F (1 : Int) a1 (0 : Int)).bind fun x1 => (jL F a0).bind fun x2 => (bif ((!x2) || (!x1.2)) then some ((⟨(⟨(0 : Int), (0 : Int), (0 : Int)⟩ : bg), ([] : (List aY)), ([] : (List aJ))⟩ : aK), (1 : Int)) else (jn (fun (_ : Unit) => (jn (fun (v5 : (List aY)) => gd (ix (List.replicate a0.ay.toNat (⟨(0 : Int), (0 : Int), (0 : Int), (0 : Int), (0 : Int), (0 : Int), (0 : Int), false, (0 : Int), (⟨(0 : Int), (0 : Int), (0 : Int), (0 : Int)⟩ : V4 Int)⟩ : aJ)) (0 : Int)) ((jn (fun (v8 : (List aJ)) => (sN F a0 (0 : Int)).bind fun x10 => gd (ix v5 x10) ((jn (fun (v12 : (List aJ)) (v13 : (List aY)) => gd (inI (x10 + (1 : Int))) (gd (ix v13 (x10 + (1 : Int))) (gd (v13.length = (jl v13 (x10 + (1 : Int)) (⟨(nth v13 (x10 + (1 : Int))).iF, (-1 : Int)⟩ : aY)).length) (some ((⟨a0, (jl v13 (x10 + (1 : Int)) (⟨(nth v13 (x10 + (1 : Int))).iF, (-1 : Int)⟩ : aY)), v12⟩ : aK), (0 : Int)))))) fun k14 => pz F a0 x10 k14 F (0 : Int) v8 (jl v5 x10 (⟨(⟨(1 : Int), (0 : Int), (7 : Int), (0 : Int)⟩ : eG), (nth v5 x10).xUp⟩ : aY))))) fun k9 => (nO F (3 : Int) (0 : Int) (0 : Int)).bind fun x58 => gd (ix (List.replicate a0.ay.toNat (⟨(0 : Int), (0 : Int), (0 : Int), (0 : Int), (0 : Int), (0 : Int), (0 : Int), false, (0 : Int), (⟨(0 : Int), (0 : Int), (0 : Int), (0 : Int)⟩ : V4 Int)⟩ : aJ)) (1 : Int)) (k9 (jl (jl (List.replicate a0.ay.toNat (⟨(0 : Int), (0 : Int), (0 : Int), (0 : Int), (0 : Int), (0 : Int), (0 : Int), false, (0 : Int), (⟨(0 : Int), (0 : Int), (0 : Int), (0 : Int)⟩ : V4 Int)⟩ : aJ)) (0 : Int) x1.1) (1 : Int) x58.1))))) fun k6 => pq F a0 k6 F (0 : Int) (List.replicate a0.au.toNat (⟨(⟨(0 : Int), (0 : Int), (0 : Int), (0 : Int)⟩ : eG), (0 : Int)⟩ : aY)))) fun k4 => gd (0 ≤ a0.au ∧ a0.au ≤ a0.au ∧ 40 * a0.au ≤ 281474976710656 ∧ a0.au ≤ 9223372036854775807) (gd (0 ≤ a0.ay ∧ a0.ay ≤ a0.ay ∧ 104 * a0.ay ≤ 281474976710656 ∧ a0.ay ≤ 9223372036854775807) (k4 ()))))
noncomputable def jI (F : Nat) (a0 : eG) : Option (Bool) :=
  some ((a0.xType == (0 : Int)) && ((a0.iO == (0 : Int)) && ((a0.kL == (0 : Int)) && ((a0.gX == (0 : Int)) && true))))
noncomputable def Fa (F : Nat) (a0 : Int) (a1 : Int) (a2 : Int) : Option (Bool) :=
  some ((decide (a1 ≤ a0)) && (decide (a0 ≤ a2)))
noncomputable def wQ (F : Nat) (a0 : Int) : Option (Bool) :=
  some ((decide ((0 : Int) ≤ a0)) && (decide (a0 ≤ (7 : Int))))
noncomputable def yP (F : Nat) (a0 : Int) : Option (Bool) :=
  some ((decide ((0 : Int) ≤ a0)) && (decide (a0 ≤ (65535 : Int))))
noncomputable def zL (F : Nat) (a0 : Int) : Option (Bool) :=
  some ((a0 == (3 : Int)) || (a0 == (4 : Int)))
noncomputable def oN (F : Nat) (a0 : eG) : Option (Bool) :=
  (jI F a0).bind fun x1 => (bif x1 then some true else (Fa F a0.xType (1 : Int) (5 : Int)).bind fun x3 => (lz ((x3 == true)) (Fa F a0.iO (0 : Int) (47 : Int))).bind fun x4 => (lz (((x3 && x4) == true)) (wQ F a0.kL)).bind fun x5 => (lz ((((x3 && x4) && x5) == true)) (yP F a0.gX)).bind fun x6 => (lz (((((x3 && x4) && x5) && x6) == true) && ((a0.gX == (0 : Int)) == false)) (zL F a0.xType)).bind fun x7 => some ((((x3 && x4) && x5) && x6) && ((a0.gX == (0 : Int)) || x7)))
noncomputable def fP (F : Nat) (a0 : aK) (a1 : Int) : Option (Bool) :=
  gd (((decide ((0 : Int) ≤ a1)) && (decide (a1 < ((a0.ay.length : Nat) : Int)))) = true → ix a0.ay a1) (some (((decide ((0 : Int) ≤ a1)) && (decide (a1 < ((a0.ay.length : Nat) : Int)))) && ((nth a0.ay a1).xType != (0 : Int))))
noncomputable def gu (F : Nat) (a0 : aK) (k1 : Unit → Option (Bool)) : Nat → Int → Option (Bool)
  | 0, _ => none
  | n34 + 1, v33 => (bif (decide (v33 < ((a0.au.length : Nat) : Int))) then gd (ix a0.au v33) ((oN F ((nth a0.au v33).iF)).bind fun x37 => (bif (!x37) then some false else (jn (fun (v39 : Bool) => (bif v39 then some false else (jI F ((nth a0.au v33).iF)).bind fun x42 => (lz (((!x42) == true)) (fP F a0 ((nth a0.au v33).iF.iO))).bind fun x43 => gd (((!x42) == true) = true → (!x43) = false → ix a0.ay ((nth a0.au v33).iF.iO)) ((bif ((!x42) && ((!x43) || ((nth a0.ay ((nth a0.au v33).iF.iO)).xType != (nth a0.au v33).iF.xType))) then some false else gd (inI (v33 + (1 : Int))) (gu F a0 k1 n34 (v33 + (1 : Int))))))) fun k40 => (jI F ((nth a0.au v33).iF)).bind fun x47 => (bif (x47 && ((nth a0.au v33).xUp != (-1 : Int))) then k40 (x47 && ((nth a0.au v33).xUp != (-1 : Int))) else (jI F ((nth a0.au v33).iF)).bind fun x49 => k40 ((!x49) && (decide ((nth a0.au v33).xUp < (-1 : Int)))))))) else k1 ())
noncomputable def kZ (F : Nat) (a0 : aK) : Option (Bool) :=
  (jn (fun (_ : Unit) => some true) fun k1 => gu F a0 k1 F (0 : Int))
noncomputable def jy (F : Nat) (a0 : aK) (a1 : Int) (k2 : (List Int) → Option ((List Int))) : Nat → Int → (List Int) → Option ((List Int))
  | 0, _, _ => none
  | n23 + 1, v21, v22 => (bif (decide (v21 < ((a0.au.length : Nat) : Int))) then (jn (fun (v25 : (List Int)) => gd (inI (v21 + (1 : Int))) (jy F a0 a1 k2 n23 (v21 + (1 : Int)) v25)) fun k26 => gd (ix a0.au v21) ((jI F ((nth a0.au v21).iF)).bind fun x29 => (bif ((!x29) && ((nth a0.au v21).iF.iO == a1)) then gd ((v22.length + ([v21] : List Int).length) * 8 ≤ 140737488355328) (k26 (v22 ++ ([v21] : List Int))) else k26 v22))) else k2 v22)
noncomputable def kR (F : Nat) (a0 : aK) (a1 : Int) : Option ((List Int)) :=
  (jn (fun (v1 : (List Int)) => some v1) fun k2 => jy F a0 a1 k2 F (0 : Int) ([] : List Int))
noncomputable def fK (F : Nat) (a0 : aK) (k1 : Unit → Option (Bool)) : Nat → Int → Option (Bool)
  | 0, _ => none
  | n34 + 1, v33 => (bif (decide (v33 < ((a0.ay.length : Nat) : Int))) then gd (ix a0.ay v33) ((jO F (nth a0.ay v33)).bind fun x37 => (bif (!x37) then some false else gd (((decide ((0 : Int) < (nth a0.ay v33).fE)) == true) = true → (decide (((a0.au.length : Nat) : Int) < (nth a0.ay v33).fE)) = false → inI ((nth a0.ay v33).fE - (1 : Int))) (gd (((decide ((0 : Int) < (nth a0.ay v33).fE)) == true) = true → (decide (((a0.au.length : Nat) : Int) < (nth a0.ay v33).fE)) = false → ix a0.au ((nth a0.ay v33).fE - (1 : Int))) ((lz (((decide ((0 : Int) < (nth a0.ay v33).fE)) == true) && ((decide (((a0.au.length : Nat) : Int) < (nth a0.ay v33).fE)) == false)) (jI F ((nth a0.au ((nth a0.ay v33).fE - (1 : Int))).iF))).bind fun x41 => (bif ((decide ((0 : Int) < (nth a0.ay v33).fE)) && ((decide (((a0.au.length : Nat) : Int) < (nth a0.ay v33).fE)) || x41)) then some false else gd ((decide ((2 : Int) ≤ v33)) = true → inI ((2 : Int) + a0.bH.ak)) (gd (((decide ((2 : Int) ≤ v33)) && (decide (v33 < ((2 : Int) + a0.bH.ak)))) = true → inI (v33 - (2 : Int))) ((lz ((((decide ((2 : Int) ≤ v33)) && (decide (v33 < ((2 : Int) + a0.bH.ak)))) == true)) (sN F a0.bH (v33 - (2 : Int)))).bind fun x45 => (bif (((decide ((2 : Int) ≤ v33)) && (decide (v33 < ((2 : Int) + a0.bH.ak)))) && (!(((nth a0.ay v33).xType == (2 : Int)) && (((nth a0.ay v33).jw == (3 : Int)) && (((nth a0.ay v33).jJ == x45) && (((nth a0.ay v33).mQ == (0 : Int)) && (((nth a0.ay v33).nT == (0 : Int)) && (((nth a0.ay v33).fE == (0 : Int)) && (((nth a0.ay v33).gX == (0 : Int)) && (((nth a0.ay v33).qC == false) && (((nth a0.ay v33).lH == (0 : Int)) && (((nth a0.ay v33).dH.c0 == (0 : Int)) && (((nth a0.ay v33).dH.c1 == (0 : Int)) && (((nth a0.ay v33).dH.c2 == (0 : Int)) && (((nth a0.ay v33).dH.c3 == (0 : Int)) && true))))))))))))))) then some false else (lz ((((!((decide ((2 : Int) ≤ v33)) && (decide (v33 < ((2 : Int) + a0.bH.ak))))) && ((nth a0.ay v33).xType != (0 : Int))) == true)) (kR F a0 v33)).bind fun x47 => (bif (((!((decide ((2 : Int) ≤ v33)) && (decide (v33 < ((2 : Int) + a0.bH.ak))))) && ((nth a0.ay v33).xType != (0 : Int))) && (((x47.length : Nat) : Int) == (0 : Int))) then some false else gd (inI (v33 + (1 : Int))) (fK F a0 k1 n34 (v33 + (1 : Int)))))))))))) else k1 ())
noncomputable def jS (F : Nat) (a0 : aK) : Option (Bool) :=
  (jn (fun (_ : Unit) => some true) fun k1 => fK F a0 k1 F (0 : Int))
noncomputable def gG (F : Nat) (a0 : aK) (v2 : (List Bool)) (k4 : Unit → Option (Bool)) : Nat → Int → Option (Bool)
  | 0, _ => none
  | n19 + 1, v18 => (bif (decide (v18 < ((a0.au.length : Nat) : Int))) then gd (ix a0.au v18) (gd (ix v2 v18) ((lz (((!(nth v2 v18)) == true)) (jI F ((nth a0.au v18).iF))).bind fun x23 => (bif ((!(nth v2 v18)) && (!x23)) then some false else gd (inI (v18 + (1 : Int))) (gG F a0 v2 k4 n19 (v18 + (1 : Int)))))) else k4 ())
noncomputable def fH (F : Nat) (a0 : aK) (v88 : Int) (k93 : (List Bool) → Option (Bool)) : Nat → Int → (List Bool) → Option (Bool)
  | 0, _, _ => none
  | n114 + 1, wR, IL => (bif (decide (wR < (o9 .i64 (1 : Int) ((nth a0.ay v88).jw)))) then gd (inI ((nth a0.ay v88).jJ + wR)) (gd ((decide (((IL.length : Nat) : Int) ≤ ((nth a0.ay v88).jJ + wR))) = false → ix IL ((nth a0.ay v88).jJ + wR)) ((bif ((decide (((IL.length : Nat) : Int) ≤ ((nth a0.ay v88).jJ + wR))) || (nth IL ((nth a0.ay v88).jJ + wR))) then some false else gd (ix IL ((nth a0.ay v88).jJ + wR)) (gd (inI (wR + (1 : Int))) (fH F a0 v88 k93 n114 (wR + (1 : Int)) (jl IL ((nth a0.ay v88).jJ + wR) true)))))) else k93 IL)
noncomputable def fJ (F : Nat) (a0 : aK) (k3 : (List Bool) → Option (Bool)) : Nat → Int → (List Bool) → Option (Bool)
  | 0, _, _ => none
  | n90 + 1, v88, v89 => (bif (decide (v88 < ((a0.ay.length : Nat) : Int))) then (jn (fun (v92 : (List Bool)) => gd (inI (v88 + (1 : Int))) (fJ F a0 k3 n90 (v88 + (1 : Int)) v92)) fun k93 => gd (ix a0.ay v88) ((bif ((nth a0.ay v88).xType != (2 : Int)) then k93 v89 else gd (0 ≤ (nth a0.ay v88).jw) (fH F a0 v88 k93 F (0 : Int) v89)))) else k3 v89)
noncomputable def kJ (F : Nat) (a0 : aK) : Option (Bool) :=
  gd (0 ≤ ((a0.au.length : Nat) : Int) ∧ ((a0.au.length : Nat) : Int) ≤ ((a0.au.length : Nat) : Int) ∧ 1 * ((a0.au.length : Nat) : Int) ≤ 281474976710656 ∧ ((a0.au.length : Nat) : Int) ≤ 9223372036854775807) ((jn (fun (v2 : (List Bool)) => (jn (fun (_ : Unit) => some true) fun k4 => gG F a0 v2 k4 F (0 : Int))) fun k3 => fJ F a0 k3 F (0 : Int) (List.replicate ((a0.au.length : Nat) : Int).toNat false)))
noncomputable def tK (F : Nat) (a0 : aJ) (a1 : Int) : Option (Bool) :=
  gd (((a0.xType == (2 : Int)) && (decide (a0.jJ ≤ a1))) = true → 0 ≤ a0.jw) (gd (((a0.xType == (2 : Int)) && (decide (a0.jJ ≤ a1))) = true → inI (a0.jJ + (o9 .i64 (1 : Int) a0.jw))) (some (((a0.xType == (2 : Int)) && (decide (a0.jJ ≤ a1))) && (decide (a1 < (a0.jJ + (o9 .i64 (1 : Int) a0.jw)))))))
noncomputable def jP (F : Nat) (a0 : aK) (a1 : Int) (rc : aK → Int → (List Int) → Option (List Int)) : Nat → Int → (List Int) → Option ((List Int))
  | 0, _, _ => none
  | n26 + 1, v24, v25 => (bif (decide (v24 < ((a0.au.length : Nat) : Int))) then (jn (fun (v28 : (List Int)) => gd (inI (v24 + (1 : Int))) (jP F a0 a1 rc n26 (v24 + (1 : Int)) v28)) fun k29 => gd (ix a0.au v24) (gd (((nth a0.au v24).iF.xType == (2 : Int)) = true → ix a0.ay a1) ((lz ((((nth a0.au v24).iF.xType == (2 : Int)) == true)) (tK F (nth a0.ay a1) v24)).bind fun x33 => (lz (((((nth a0.au v24).iF.xType == (2 : Int)) && x33) == true)) (fP F a0 ((nth a0.au v24).iF.iO))).bind fun x34 => (bif ((((nth a0.au v24).iF.xType == (2 : Int)) && x33) && x34) then (rc a0 ((nth a0.au v24).iF.iO) v25).bind fun x36 => k29 x36 else k29 v25)))) else some v25)
noncomputable def lY (F : Nat) : Nat → aK → Int → (List Int) → Option (List Int)
  | 0, _, _, _ => none
  | D + 1, a0, a1, a2 => (fun rc => (bif (a2.contains a1) then some a2 else jP F a0 a1 rc F (0 : Int) (a2 ++ [a1]))) (fun a0 a1 a2 => lY F D a0 a1 a2)
noncomputable def xI (F : Nat) (a0 : aK) (a1 : Int) (a2 : (List Int)) : Option (List Int) := lY F F a0 a1 a2
noncomputable def lV (F : Nat) (a0 : aJ) (a1 : Int) : Option (Bool) :=
  (tK F a0 a1).bind fun x1 => some x1
noncomputable def eY (F : Nat) (a0 : (List aJ)) (a1 : (aJ → Option (Bool))) (k1 : Unit → Option (Int)) : Nat → Int → Option (Int)
  | 0, _ => none
  | n14 + 1, v13 => (bif (decide (v13 < ((a0.length : Nat) : Int))) then gd (ix a0 v13) ((a1 (nth a0 v13)).bind fun x17 => (bif x17 then some v13 else gd (inI (v13 + (1 : Int))) (eY F a0 a1 k1 n14 (v13 + (1 : Int))))) else k1 ())
noncomputable def kC (F : Nat) (a0 : (List aJ)) (a1 : (aJ → Option (Bool))) : Option (Int) :=
  (jn (fun (_ : Unit) => some (-1 : Int)) fun k1 => eY F a0 a1 k1 F (0 : Int))
noncomputable def ng (F : Nat) (a0 : aK) (a1 : Int) : Option (Int) :=
  (kC F a0.ay (fun t => lV F t a1)).bind fun x1 => some x1
noncomputable def mG (F : Nat) (a0 : aK) (a1 : Int) (a2 : Int) : Option (Bool) :=
  (fP F a0 a1).bind fun x1 => gd ((!x1) = false → ix a0.ay a1) ((bif ((!x1) || ((nth a0.ay a1).xType != (2 : Int))) then some false else (xI F a0 a1 ([] : List Int)).bind fun x4 => (ng F a0 a2).bind fun x5 => some (x4.contains x5)))
noncomputable def gW (F : Nat) (a0 : aK) (k1 : Unit → Option (Bool)) : Nat → Int → Option (Bool)
  | 0, _ => none
  | n14 + 1, v13 => (bif (decide (v13 < ((a0.au.length : Nat) : Int))) then gd (ix a0.au v13) ((lz ((((nth a0.au v13).iF.xType == (2 : Int)) == true)) (mG F a0 ((nth a0.au v13).iF.iO) v13)).bind fun x17 => (bif (((nth a0.au v13).iF.xType == (2 : Int)) && x17) then some true else gd (inI (v13 + (1 : Int))) (gW F a0 k1 n14 (v13 + (1 : Int))))) else k1 ())
noncomputable def lg (F : Nat) (a0 : aK) : Option (Bool) :=
  (jn (fun (_ : Unit) => some false) fun k1 => gW F a0 k1 F (0 : Int))
noncomputable def iL (F : Nat) (a0 : aK) (k2 : (List Int) → Option (iR)) : Nat → Int → (List Int) → Option (iR)
  | 0, _, _ => none
  | n23 + 1, v21, v22 => (bif (decide (v21 < ((a0.au.length : Nat) : Int))) then gd (ix a0.au v21) ((jn (fun (v26 : Int) => gd ((v22.length + ([v26] : List Int).length) * 8 ≤ 140737488355328) (gd (inI (v21 + (1 : Int))) (iL F a0 k2 n23 (v21 + (1 : Int)) (v22 ++ ([v26] : List Int))))) fun k27 => (jI F ((nth a0.au v21).iF)).bind fun x30 => (bif x30 then k27 (-2 : Int) else k27 ((nth a0.au v21).xUp)))) else k2 v22)
noncomputable def mF (F : Nat) (a0 : aK) : Option (iR) :=
  (jn (fun (v1 : (List Int)) => some (⟨v1⟩ : iR)) fun k2 => iL F a0 k2 F (0 : Int) ([] : List Int))
noncomputable def iP (F : Nat) (a0 : iR) (a1 : Int) : Option (Bool) :=
  gd (((decide ((0 : Int) ≤ a1)) && (decide (a1 < ((a0.xUp.length : Nat) : Int)))) = true → ix a0.xUp a1) (some (((decide ((0 : Int) ≤ a1)) && (decide (a1 < ((a0.xUp.length : Nat) : Int)))) && ((nth a0.xUp a1) != (-2 : Int))))
noncomputable def gy (F : Nat) (a0 : iR) (k54 : Unit → Option (Bool)) : Nat → Int → Int → Option (Bool)
  | 0, _, _ => none
  | n70 + 1, v68, v69 => (iP F a0 v69).bind fun x71 => (bif x71 then (bif (decide (((a0.xUp.length : Nat) : Int) < v68)) then some false else gd (inI (v68 + (1 : Int))) (gd (ix a0.xUp v69) (gy F a0 k54 n70 (v68 + (1 : Int)) (nth a0.xUp v69)))) else k54 ())
noncomputable def jq (F : Nat) (a0 : iR) (k3 : Unit → Option (Bool)) : Nat → Int → Option (Bool)
  | 0, _ => none
  | n52 + 1, v51 => (bif (decide (v51 < ((a0.xUp.length : Nat) : Int))) then (jn (fun (_ : Unit) => gd (inI (v51 + (1 : Int))) (jq F a0 k3 n52 (v51 + (1 : Int)))) fun k54 => gy F a0 k54 F (0 : Int) v51) else k3 ())
noncomputable def jo (F : Nat) (a0 : iR) (k2 : Unit → Option (Bool)) : Nat → Int → Option (Bool)
  | 0, _ => none
  | n88 + 1, v87 => (bif (decide (v87 < ((a0.xUp.length : Nat) : Int))) then gd (ix a0.xUp v87) ((lz (((((nth a0.xUp v87) != (-2 : Int)) && ((nth a0.xUp v87) != (-1 : Int))) == true)) (iP F a0 (nth a0.xUp v87))).bind fun x91 => (bif ((((nth a0.xUp v87) != (-2 : Int)) && ((nth a0.xUp v87) != (-1 : Int))) && (!x91)) then some false else gd (inI (v87 + (1 : Int))) (jo F a0 k2 n88 (v87 + (1 : Int))))) else k2 ())
noncomputable def oO (F : Nat) (a0 : iR) : Option (Bool) :=
  (bif (decide ((96 : Int) < ((a0.xUp.length : Nat) : Int))) then some false else (jn (fun (_ : Unit) => (jn (fun (_ : Unit) => some true) fun k3 => jq F a0 k3 F (0 : Int))) fun k2 => jo F a0 k2 F (0 : Int)))
noncomputable def uS (F : Nat) (a0 : Int) : Option (Int) :=
  (wQ F a0).bind fun x1 => (bif (!x1) then some (0 : Int) else some a0)
noncomputable def wO (F : Nat) (a0 : Int) (a1 : Int) : Option (Int) :=
  (uS F a0).bind fun x1 => (uS F a1).bind fun x2 => some (Hr .i64 x1 x2)
noncomputable def qV (F : Nat) (a0 : Int) (a1 : Int) : Option (Bool) :=
  (wO F a0 a1).bind fun x1 => some (x1 == (0 : Int))
noncomputable def uP (F : Nat) (a0 : eG) (a1 : eG) : Option (Bool) :=
  (jI F a0).bind fun x1 => (bif x1 then some true else (lz ((((a0.xType == a1.xType) && (a0.iO == a1.iO)) == true)) (qV F a0.kL a1.kL)).bind fun x3 => some ((((a0.xType == a1.xType) && (a0.iO == a1.iO)) && x3) && ((a1.gX == (0 : Int)) || (a1.gX == a0.gX))))
noncomputable def eH (F : Nat) (a0 : aK) (v57 : Int) (k60 : Unit → Option (Bool)) : Nat → Int → Int → Option (Bool)
  | 0, _, _ => none
  | n79 + 1, v77, v78 => (bif (decide (v78 < ((a0.au.length : Nat) : Int))) then (bif (decide (v77 < (0 : Int))) then k60 () else gd (ix a0.au v77) ((uP F ((nth a0.au v57).iF) ((nth a0.au v77).iF)).bind fun x83 => (bif ((!x83) && (((nth a0.au v77).iF.xType != (1 : Int)) || ((nth a0.au v57).iF.iO == (nth a0.au v77).iF.iO))) then some false else gd (inI (v78 + (1 : Int))) (eH F a0 v57 k60 n79 ((nth a0.au v77).xUp) (v78 + (1 : Int)))))) else k60 ())
noncomputable def fB (F : Nat) (a0 : aK) (k1 : Unit → Option (Bool)) : Nat → Int → Option (Bool)
  | 0, _ => none
  | n58 + 1, v57 => (bif (decide (v57 < ((a0.au.length : Nat) : Int))) then (jn (fun (_ : Unit) => gd (inI (v57 + (1 : Int))) (fB F a0 k1 n58 (v57 + (1 : Int)))) fun k60 => gd (ix a0.au v57) (eH F a0 v57 k60 F ((nth a0.au v57).xUp) (0 : Int))) else k1 ())
noncomputable def jM (F : Nat) (a0 : aK) : Option (Bool) :=
  (jn (fun (_ : Unit) => some true) fun k1 => fB F a0 k1 F (0 : Int))
noncomputable def oI (F : Nat) (a0 : aK) : Option (Bool) :=
  (jL F a0.bH).bind fun x1 => (bif (((!x1) || (((a0.au.length : Nat) : Int) != a0.bH.au)) || (((a0.ay.length : Nat) : Int) != a0.bH.ay)) then some false else (kZ F a0).bind fun x3 => (lz ((x3 == true)) (jS F a0)).bind fun x4 => (lz (((x3 && x4) == true)) (kJ F a0)).bind fun x5 => (lz ((((x3 && x4) && x5) == true)) (lg F a0)).bind fun x6 => (lz (((((x3 && x4) && x5) && (!x6)) == true)) (mF F a0)).bind fun x7 => (lz (((((x3 && x4) && x5) && (!x6)) == true)) (oO F x7)).bind fun x8 => (lz ((((((x3 && x4) && x5) && (!x6)) && x8) == true)) (jM F a0)).bind fun x9 => some (((((x3 && x4) && x5) && (!x6)) && x8) && x9))
noncomputable def qL (F : Nat) (a0 : bg) : Option (Int) :=
  gd (inI (a0.ak * (1208 : Int))) (gd (inI ((16 : Int) + (a0.ak * (1208 : Int)))) (some ((16 : Int) + (a0.ak * (1208 : Int)))))
noncomputable def pG (F : Nat) (a0 : bg) : Option (Int) :=
  (qL F a0).bind fun x1 => gd (inI ((2 : Int) * a0.au)) (gd (inI (x1 + ((2 : Int) * a0.au))) (some (x1 + ((2 : Int) * a0.au))))
noncomputable def ql (F : Nat) (a0 : bg) : Option (Int) :=
  (jL F a0).bind fun x1 => (bif (!x1) then some (0 : Int) else (pG F a0).bind fun x3 => gd (inI ((8 : Int) * a0.ay)) (gd (inI (x3 + ((8 : Int) * a0.ay))) (some (x3 + ((8 : Int) * a0.ay)))))
noncomputable def sO (F : Nat) (a0 : bg) : Option (Int) :=
  (jL F a0).bind fun x1 => (bif (!x1) then some (0 : Int) else (ql F a0).bind fun x3 => gd (inI ((IntKind.i64.wrap (Int.tdiv x3 8)) + (1 : Int))) (some ((IntKind.i64.wrap (Int.tdiv x3 8)) + (1 : Int))))
noncomputable def Ea (F : Nat) (a0 : Value) : Option (Value) :=
  ((xc Tryz.prog 199 [a0]).bind (int? .u64)).bind fun x1 => ((xc Tryz.prog 205 [(.int .u64 (Hr .u64 x1 (9223372036854775808 : Int)))]).bind (one?)).bind fun x2 => some x2
noncomputable def wu (F : Nat) (a0 : Value) (a1 : Value) : Option (Value) :=
  ((xc Tryz.prog 199 [a0]).bind (int? .u64)).bind fun x1 => ((xc Tryz.prog 199 [a1]).bind (int? .u64)).bind fun x2 => ((xc Tryz.prog 205 [(.int .u64 (ior .u64 (Hr .u64 x1 (9223372036854775808 : Int)) (uf .u64 x2 (9223372036854775808 : Int))))]).bind (one?)).bind fun x3 => some x3
noncomputable def Fb (F : Nat) (a0 : Value) : Option (Value) :=
  (Ea F a0).bind fun x1 => ((bn Tryz.prog .lss 242 (.tmp 6) (.const (.float .f64 4607182418800017408)) x1 (.float .f64 4607182418800017408 : Value)).bind (bool?)).bind fun x2 => (bif x2 then (wu F (.float .f64 0 : Value) a0).bind fun x4 => some x4 else ((xc Tryz.prog 199 [a0]).bind (int? .u64)).bind fun x5 => (jn (fun (v6 : Int) => ((xc Tryz.prog 205 [(.int .u64 v6)]).bind (one?)).bind fun x8 => some x8) fun k7 => (bif (decide ((IntKind.u64.wrap ((uf .u64 (kS .u64 x5 (52 : Int)) (2047 : Int)) - (1023 : Int))) < (52 : Int))) then gd (0 ≤ (IntKind.u64.wrap ((52 : Int) - (IntKind.u64.wrap ((uf .u64 (kS .u64 x5 (52 : Int)) (2047 : Int)) - (1023 : Int)))))) (k7 (Hr .u64 x5 (IntKind.u64.wrap ((o9 .u64 (1 : Int) (IntKind.u64.wrap ((52 : Int) - (IntKind.u64.wrap ((uf .u64 (kS .u64 x5 (52 : Int)) (2047 : Int)) - (1023 : Int)))))) - (1 : Int))))) else k7 x5)))
noncomputable def wM (F : Nat) (a0 : Value) : Option (Value) :=
  ((xc Tryz.prog 197 [a0]).bind (one?)).bind fun x2 => some x2
noncomputable def qQ (F : Nat) (a0 : Value) : Option (Bool) :=
  ((xc Tryz.prog 199 [a0]).bind (int? .u64)).bind fun x1 => some (decide ((IntKind.i64.wrap x1) < (0 : Int)))
noncomputable def qK (F : Nat) (a0 : Value) : Option (Int × Bool) :=
  ((bn Tryz.prog .geq 242 (.tmp 4) (.const (.float .f64 14010698440749613056)) a0 (.float .f64 14010698440749613056 : Value)).bind (bool?)).bind fun x1 => (lz ((x1 == true)) ((bn Tryz.prog .leq 242 (.tmp 7) (.const (.float .f64 4787326403894837248)) a0 (.float .f64 4787326403894837248 : Value)).bind (bool?))).bind fun x2 => (lz (((!(x1 && x2)) == false)) (wM F a0)).bind fun x3 => (lz (((!(x1 && x2)) == false)) ((bn Tryz.prog .neq 242 (.tmp 12) (.tmp 14) a0 x3).bind (bool?))).bind fun x4 => (lz ((((!(x1 && x2)) || x4) == false)) ((bn Tryz.prog .eql 242 (.tmp 18) (.const (.float .f64 0)) a0 (.float .f64 0 : Value)).bind (bool?))).bind fun x5 => (lz ((((!(x1 && x2)) || x4) == false) && (x5 == true)) (qQ F a0)).bind fun x6 => (bif (((!(x1 && x2)) || x4) || (x5 && x6)) then some ((0 : Int), false) else ((cv Tryz.prog 242 2 a0).bind (int? .i64)).bind fun x8 => some (x8, true))
noncomputable def nN (F : Nat) (a0 : Value) : Option (Int × Int × Bool) :=
  ((bu Tryz.prog .real #[182] 242 #[false] [a0]).bind (one?)).bind fun x1 => (qK F x1).bind fun x2 => ((bu Tryz.prog .imag #[182] 242 #[false] [a0]).bind (one?)).bind fun x3 => (qK F x3).bind fun x4 => (bif ((!x2.2) || (!x4.2)) then some ((0 : Int), (0 : Int), false) else some (x2.1, x4.1, true))
noncomputable def xB (F : Nat) (a0 : Int) : Option (Bool) :=
  some ((decide ((-1099511627776 : Int) ≤ a0)) && (decide (a0 ≤ (1099511627776 : Int))))
noncomputable def qR (F : Nat) (a0 : Int) (a1 : Int) : Option (Value × Bool) :=
  (xB F a0).bind fun x1 => (lz (((!x1) == false)) (xB F a1)).bind fun x2 => (bif ((!x1) || (!x2)) then some ((.complex .f64 0 0 : Value), false) else ((cv Tryz.prog 2 242 (.int .i64 a0)).bind (one?)).bind fun x4 => ((cv Tryz.prog 2 242 (.int .i64 a1)).bind (one?)).bind fun x5 => ((bu Tryz.prog .complex #[242, 242] 182 #[false, false] [x4, x5]).bind (one?)).bind fun x6 => some (x6, true))
noncomputable def mW (F : Nat) (a1 : Int) (k5 : Int → Int → Option (Value)) : Nat → Int → Int → Int → Option (Value)
  | 0, _, _, _ => none
  | n20 + 1, v17, v18, v19 => (bif (decide (v19 < (Int.tmod ((Int.tmod a1 4) + (4 : Int)) 4))) then gd (-9223372036854775807 ≤ v18 ∧ v18 ≤ 9223372036854775807) (gd (inI (v19 + (1 : Int))) (mW F a1 k5 n20 (-v18) v17 (v19 + (1 : Int)))) else k5 v17 v18)
noncomputable def tX (F : Nat) (a0 : Value) (a1 : Int) : Option (Value) :=
  (nN F a0).bind fun x1 => (bif (!x1.2.2) then some (.complex .f64 0 0 : Value) else (jn (fun (v3 : Int) (v4 : Int) => (qR F v3 v4).bind fun x6 => some x6.1) fun k5 => gd (inI ((Int.tmod a1 4) + (4 : Int))) (mW F a1 k5 F x1.1 x1.2.1 (0 : Int))))
noncomputable def qZ (F : Nat) (a0 : Int) : Option (Int) :=
  gd (inI ((Int.tmod a0 1000003) + (1000003 : Int))) (some (Int.tmod ((Int.tmod a0 1000003) + (1000003 : Int)) 1000003))
noncomputable def oG (F : Nat) (a0 : (List Int)) (k2 : Value → Option (Value)) : Nat → Value → Int → Option (Value)
  | 0, _, _ => none
  | n31 + 1, v29, v30 => (bif (decide (v30 < ((a0.length : Nat) : Int))) then gd (ix a0 v30) ((tX F v29 (1 : Int)).bind fun x34 => (nN F x34).bind fun x35 => gd (inI ((IntKind.i64.wrap (IntKind.u16.wrap (nth a0 v30))) - (IntKind.i64.wrap (IntKind.u16.wrap (kS .u64 (nth a0 v30) (32 : Int)))))) (gd (inI (x35.1 + ((IntKind.i64.wrap (IntKind.u16.wrap (nth a0 v30))) - (IntKind.i64.wrap (IntKind.u16.wrap (kS .u64 (nth a0 v30) (32 : Int))))))) (gd (inI ((IntKind.i64.wrap (IntKind.u16.wrap (kS .u64 (nth a0 v30) (16 : Int)))) - (IntKind.i64.wrap (IntKind.u16.wrap (kS .u64 (nth a0 v30) (48 : Int)))))) (gd (inI (x35.2.1 + ((IntKind.i64.wrap (IntKind.u16.wrap (kS .u64 (nth a0 v30) (16 : Int)))) - (IntKind.i64.wrap (IntKind.u16.wrap (kS .u64 (nth a0 v30) (48 : Int))))))) ((qZ F (x35.1 + ((IntKind.i64.wrap (IntKind.u16.wrap (nth a0 v30))) - (IntKind.i64.wrap (IntKind.u16.wrap (kS .u64 (nth a0 v30) (32 : Int))))))).bind fun x40 => (qZ F (x35.2.1 + ((IntKind.i64.wrap (IntKind.u16.wrap (kS .u64 (nth a0 v30) (16 : Int)))) - (IntKind.i64.wrap (IntKind.u16.wrap (kS .u64 (nth a0 v30) (48 : Int))))))).bind fun x41 => (qR F x40 x41).bind fun x42 => gd (inI (v30 + (1 : Int))) (oG F a0 k2 n31 x42.1 (v30 + (1 : Int)))))))) else k2 v29)
noncomputable def tY (F : Nat) (a0 : (List Int)) : Option (Value) :=
  (jn (fun (v1 : Value) => some v1) fun k2 => oG F a0 k2 F (.complex .f64 0 0 : Value) (0 : Int))
noncomputable def tZ (F : Nat) (a0 : Value) : Option (Int × Bool) :=
  (nN F a0).bind fun x1 => (bif (((((!x1.2.2) || (decide (x1.1 < (0 : Int)))) || (decide ((4294967295 : Int) < x1.1))) || (decide (x1.2.1 < (0 : Int)))) || (decide ((4294967295 : Int) < x1.2.1))) then some ((0 : Int), false) else some ((ior .u64 (o9 .u64 (IntKind.u64.wrap x1.2.1) (32 : Int)) (IntKind.u64.wrap x1.1)), true))
noncomputable def pV (F : Nat) (a0 : dQ) : Option ((List Int)) :=
  (jL F a0.bH).bind fun x1 => (bif (!x1) then some ([] : (List Int)) else (tY F ([(8243106252149764145 : Int), (IntKind.u64.wrap a0.bH.ak), (IntKind.u64.wrap a0.bH.au), (IntKind.u64.wrap a0.bH.ay), a0.tq, (0 : Int), (0 : Int)] : List Int)).bind fun x3 => (tZ F x3).bind fun x4 => gd ((([(8243106252149764145 : Int), (IntKind.u64.wrap a0.bH.ak), (IntKind.u64.wrap a0.bH.au), (IntKind.u64.wrap a0.bH.ay), a0.tq, (0 : Int), (0 : Int)] : List Int).length + ([x4.1] : List Int).length) * 8 ≤ 140737488355328) (some (([(8243106252149764145 : Int), (IntKind.u64.wrap a0.bH.ak), (IntKind.u64.wrap a0.bH.au), (IntKind.u64.wrap a0.bH.ay), a0.tq, (0 : Int), (0 : Int)] : List Int) ++ ([x4.1] : List Int))))
noncomputable def sQ (F : Nat) (a0 : bg) (a1 : Int) : Option (Int) :=
  (jL F a0).bind fun x1 => gd ((!x1) = false → inI (a0.au - (1 : Int))) ((lz (((!x1) == false)) (oH F a1 (0 : Int) (a0.au - (1 : Int)))).bind fun x3 => (bif ((!x1) || (!x3)) then some (0 : Int) else (qL F a0).bind fun x5 => gd (inI ((2 : Int) * a1)) (gd (inI (x5 + ((2 : Int) * a1))) (some (x5 + ((2 : Int) * a1))))))
noncomputable def rD (F : Nat)  : Option ((List aU)) :=
  gd (4 = ([(⟨(0 : Int), (8 : Int)⟩ : aU), (⟨(8 : Int), (8 : Int)⟩ : aU), (⟨(16 : Int), (16 : Int)⟩ : aU), (⟨(32 : Int), (16 : Int)⟩ : aU)] : List aU).length) (some ([(⟨(0 : Int), (8 : Int)⟩ : aU), (⟨(8 : Int), (8 : Int)⟩ : aU), (⟨(16 : Int), (16 : Int)⟩ : aU), (⟨(32 : Int), (16 : Int)⟩ : aU)] : List aU))
noncomputable def iD (F : Nat) (a0 : aU) : Option (Int) :=
  gd (0 ≤ a0.Gw) (gd (0 ≤ a0.fE) (some (o9 .u64 (IntKind.u64.wrap ((o9 .u64 (1 : Int) a0.Gw) - (1 : Int))) a0.fE)))
noncomputable def wU (F : Nat) (a0 : (List aU)) (k2 : Int → Option (Int × Bool)) : Nat → Int → Int → Option (Int × Bool)
  | 0, _, _ => none
  | n21 + 1, v19, v20 => (bif (decide (v20 < ((a0.length : Nat) : Int))) then gd (ix a0 v20) (gd ((((decide ((nth a0 v20).fE < (0 : Int))) || (decide ((64 : Int) ≤ (nth a0 v20).fE))) || (decide ((nth a0 v20).Gw < (1 : Int)))) = false → inI ((64 : Int) - (nth a0 v20).fE)) ((lz ((((((decide ((nth a0 v20).fE < (0 : Int))) || (decide ((64 : Int) ≤ (nth a0 v20).fE))) || (decide ((nth a0 v20).Gw < (1 : Int)))) || (decide (((64 : Int) - (nth a0 v20).fE) < (nth a0 v20).Gw))) == false)) (iD F (nth a0 v20))).bind fun x25 => (bif (((((decide ((nth a0 v20).fE < (0 : Int))) || (decide ((64 : Int) ≤ (nth a0 v20).fE))) || (decide ((nth a0 v20).Gw < (1 : Int)))) || (decide (((64 : Int) - (nth a0 v20).fE) < (nth a0 v20).Gw))) || ((uf .u64 v19 x25) != (0 : Int))) then some ((0 : Int), false) else (iD F (nth a0 v20)).bind fun x27 => gd (inI (v20 + (1 : Int))) (wU F a0 k2 n21 (ior .u64 v19 x27) (v20 + (1 : Int)))))) else k2 v19)
noncomputable def CY (F : Nat) (a0 : (List aU)) : Option (Int × Bool) :=
  (jn (fun (v1 : Int) => some (v1, true)) fun k2 => wU F a0 k2 F (0 : Int) (0 : Int))
noncomputable def fQ (F : Nat) (a0 : (List aU)) : Option (Bool) :=
  (CY F a0).bind fun x1 => some x1.2
noncomputable def gY (F : Nat) (a0 : (List aU)) (a1 : (List Int)) (k4 : Int → Option (Int × Bool)) : Nat → Int → Int → Option (Int × Bool)
  | 0, _, _ => none
  | n27 + 1, v25, v26 => (bif (decide (v26 < ((a0.length : Nat) : Int))) then gd (ix a0 v26) (gd (ix a1 v26) ((iD F (nth a0 v26)).bind fun x31 => gd (0 ≤ (nth a0 v26).fE) ((bif (decide ((kS .u64 x31 ((nth a0 v26).fE)) < (nth a1 v26))) then some ((0 : Int), false) else gd (ix a1 v26) (gd (0 ≤ (nth a0 v26).fE) (gd (inI (v26 + (1 : Int))) (gY F a0 a1 k4 n27 (ior .u64 v25 (o9 .u64 (nth a1 v26) ((nth a0 v26).fE))) (v26 + (1 : Int))))))))) else k4 v25)
noncomputable def jK (F : Nat) (a0 : (List aU)) (a1 : (List Int)) : Option (Int × Bool) :=
  (fQ F a0).bind fun x1 => (bif ((!x1) || (((a0.length : Nat) : Int) != ((a1.length : Nat) : Int))) then some ((0 : Int), false) else (jn (fun (v3 : Int) => some (v3, true)) fun k4 => gY F a0 a1 k4 F (0 : Int) (0 : Int)))
noncomputable def qj (F : Nat) (a0 : eG) : Option (Int × Bool) :=
  (oN F a0).bind fun x1 => (bif (!x1) then some ((0 : Int), false) else (jn (fun (v3 : Int) (v4 : Bool) => some (v3, v4)) fun k5 => (rD F ).bind fun x6 => (jK F x6 ([(IntKind.u64.wrap a0.xType), (IntKind.u64.wrap a0.kL), (IntKind.u64.wrap a0.gX), (IntKind.u64.wrap a0.iO)] : List Int)).bind fun x7 => k5 x7.1 x7.2))
noncomputable def tH (F : Nat) (a0 : bg) (a1 : Int) : Option (Int) :=
  (jL F a0).bind fun x1 => gd ((!x1) = false → inI (a0.ay - (1 : Int))) ((lz (((!x1) == false)) (oH F a1 (0 : Int) (a0.ay - (1 : Int)))).bind fun x3 => (bif ((!x1) || (!x3)) then some (0 : Int) else (pG F a0).bind fun x5 => gd (inI ((8 : Int) * a1)) (gd (inI (x5 + ((8 : Int) * a1))) (some (x5 + ((8 : Int) * a1))))))
noncomputable def rE (F : Nat) (k2 : (List aU) → Option ((List aU))) : Nat → Int → (List aU) → Option ((List aU))
  | 0, _, _ => none
  | n15 + 1, v13, v14 => (bif (decide (v13 < (5 : Int))) then gd (inI ((8 : Int) * v13)) (gd ((v14.length + ([(⟨((8 : Int) * v13), (8 : Int)⟩ : aU)] : List aU).length) * 16 ≤ 140737488355328) (gd (inI (v13 + (1 : Int))) (rE F k2 n15 (v13 + (1 : Int)) (v14 ++ ([(⟨((8 : Int) * v13), (8 : Int)⟩ : aU)] : List aU))))) else k2 v14)
noncomputable def l9 (F : Nat)  : Option ((List aU)) :=
  (jn (fun (v1 : (List aU)) => some v1) fun k2 => rE F k2 F (0 : Int) ([] : List aU))
noncomputable def oP (F : Nat)  : Option ((List aU)) :=
  gd (3 = ([(⟨(0 : Int), (16 : Int)⟩ : aU), (⟨(16 : Int), (16 : Int)⟩ : aU), (⟨(32 : Int), (16 : Int)⟩ : aU)] : List aU).length) (some ([(⟨(0 : Int), (16 : Int)⟩ : aU), (⟨(16 : Int), (16 : Int)⟩ : aU), (⟨(32 : Int), (16 : Int)⟩ : aU)] : List aU))
noncomputable def jG (F : Nat) (a0 : aJ) : Option ((List Int)) :=
  (jO F a0).bind fun x1 => (bif (!x1) then some ([] : (List Int)) else (jn (fun (v3 : Int) => (jn (fun (v5 : Int) => (jn (fun (v7 : Int) => (jn (fun (_ : Unit) => some ((([v5, v7, a0.lH] : List Int) ++ ([a0.dH.c0, a0.dH.c1, a0.dH.c2, a0.dH.c3] : List Int)) ++ ([(0 : Int)] : List Int))) fun k9 => gd ((([v5, v7, a0.lH] : List Int).length + ([a0.dH.c0, a0.dH.c1, a0.dH.c2, a0.dH.c3] : List Int).length) * 8 ≤ 140737488355328) (gd (((([v5, v7, a0.lH] : List Int) ++ ([a0.dH.c0, a0.dH.c1, a0.dH.c2, a0.dH.c3] : List Int)).length + ([(0 : Int)] : List Int).length) * 8 ≤ 140737488355328) (k9 ())))) fun k8 => (oP F ).bind fun x12 => (jK F x12 ([(IntKind.u64.wrap a0.mQ), (IntKind.u64.wrap a0.nT), (IntKind.u64.wrap a0.gX)] : List Int)).bind fun x13 => k8 x13.1)) fun k6 => (l9 F ).bind fun x14 => (jK F x14 ([(IntKind.u64.wrap a0.xType), (IntKind.u64.wrap a0.jw), (IntKind.u64.wrap a0.jJ), v3, (IntKind.u64.wrap a0.fE)] : List Int)).bind fun x15 => k6 x15.1)) fun k4 => (bif a0.qC then k4 (1 : Int) else k4 (0 : Int))))
noncomputable def jE (F : Nat) (a0 : aK) (k14 : (List Int) → Option ((List Int))) : Nat → Int → (List Int) → Option ((List Int))
  | 0, _, _ => none
  | n33 + 1, v31, v32 => (bif (decide (v31 < ((a0.ay.length : Nat) : Int))) then gd (ix a0.ay v31) ((tH F a0.bH v31).bind fun x36 => gd (0 ≤ x36 ∧ x36 ≤ ((v32.length : Nat) : Int) ∧ ((v32.length : Nat) : Int) ≤ ((v32.length : Nat) : Int)) ((jG F (nth a0.ay v31)).bind fun x38 => gd ((0 + x36.toNat * 1) + min x38.length (((v32.length : Nat) : Int).toNat - x36.toNat) ≤ v32.length) (gd (inI (v31 + (1 : Int))) (jE F a0 k14 n33 (v31 + (1 : Int)) (cpy v32 (0 + x36.toNat * 1) (((v32.length : Nat) : Int).toNat - x36.toNat) x38))))) else k14 v32)
noncomputable def jD (F : Nat) (a0 : aK) (k12 : (List Int) → Option ((List Int))) : Nat → Int → (List Int) → Option ((List Int))
  | 0, _, _ => none
  | n63 + 1, v61, v62 => (bif (decide (v61 < ((a0.au.length : Nat) : Int))) then gd (ix a0.au v61) ((sQ F a0.bH v61).bind fun x66 => (qj F ((nth a0.au v61).iF)).bind fun x67 => gd (ix v62 x66) (gd (inI (x66 + (1 : Int))) (gd (inI ((nth a0.au v61).xUp + (1 : Int))) (gd (ix v62 (x66 + (1 : Int))) (gd (inI (v61 + (1 : Int))) (jD F a0 k12 n63 (v61 + (1 : Int)) (jl (jl v62 x66 x67.1) (x66 + (1 : Int)) (IntKind.u64.wrap ((nth a0.au v61).xUp + (1 : Int)))))))))) else k12 v62)
noncomputable def pX (F : Nat) (a0 : aK) (a1 : Int) : Option ((List Int)) :=
  (oI F a0).bind fun x1 => (bif (!x1) then some ([] : (List Int)) else (sO F a0.bH).bind fun x3 => gd (inI (x3 * (8 : Int))) (gd (0 ≤ (x3 * (8 : Int)) ∧ (x3 * (8 : Int)) ≤ (x3 * (8 : Int)) ∧ 8 * (x3 * (8 : Int)) ≤ 281474976710656 ∧ (x3 * (8 : Int)) ≤ 9223372036854775807) ((pV F (⟨a0.bH, a1⟩ : dQ)).bind fun x6 => gd (0 + min x6.length (List.replicate (x3 * (8 : Int)).toNat (0 : Int)).length ≤ (List.replicate (x3 * (8 : Int)).toNat (0 : Int)).length) ((ql F a0.bH).bind fun x8 => gd (0 ≤ x8 ∧ x8 ≤ (((List.replicate (x3 * (8 : Int)).toNat (0 : Int)).length : Nat) : Int) ∧ (((List.replicate (x3 * (8 : Int)).toNat (0 : Int)).length : Nat) : Int) ≤ (((List.replicate (x3 * (8 : Int)).toNat (0 : Int)).length : Nat) : Int)) (gd ((0 + x8.toNat * 1) + min x6.length ((((List.replicate (x3 * (8 : Int)).toNat (0 : Int)).length : Nat) : Int).toNat - x8.toNat) ≤ (cpy (List.replicate (x3 * (8 : Int)).toNat (0 : Int)) 0 ((List.replicate (x3 * (8 : Int)).toNat (0 : Int)).length) x6).length) ((jn (fun (v11 : (List Int)) => (jn (fun (v13 : (List Int)) => some v13) fun k14 => jE F a0 k14 F (0 : Int) v11)) fun k12 => jD F a0 k12 F (0 : Int) (cpy (cpy (List.replicate (x3 * (8 : Int)).toNat (0 : Int)) 0 ((List.replicate (x3 * (8 : Int)).toNat (0 : Int)).length) x6) (0 + x8.toNat * 1) ((((List.replicate (x3 * (8 : Int)).toNat (0 : Int)).length : Nat) : Int).toNat - x8.toNat) x6))))))))
noncomputable def xu (F : Nat) (a0 : Int) : Option (Option aO × Int) :=
  (bif ((decide (a0 < (1 : Int))) || (decide ((4096 : Int) < a0))) then some (none, (1 : Int)) else gd (0 ≤ a0 ∧ a0 ≤ a0 ∧ 136 * a0 ≤ 281474976710656 ∧ a0 ≤ 9223372036854775807) (some ((some (⟨(List.replicate a0.toNat (⟨(⟨(0 : Int), (0 : Int), (0 : Int), (0 : Int), (0 : Int), (0 : Int), (0 : Int), (0 : Int)⟩ : V8 Int), (⟨(0 : Int), (0 : Int), (0 : Int), (0 : Int), (0 : Int), (0 : Int), (0 : Int), (0 : Int)⟩ : V8 Int), false, false⟩ : bQ)), false, (0 : Int), (0 : Int), ([] : (List Int))⟩ : aO)), (0 : Int))))
noncomputable def yQ (F : Nat) (a0 : (List Int)) (k4 : Unit → Option (Option aO × Int)) : Nat → Unit → Option (Option aO × Int)
  | 0, _ => none
  | n7 + 1, _ => (bif (decide ((0 : Int) < ((a0.length : Nat) : Int))) then gd (ix a0 (0 : Int)) (none) else k4 ())
noncomputable def oQ (F : Nat) (a0 : (List Int)) (k12 : (List bQ) → Option (Option aO × Int)) : Nat → Int → (List bQ) → Option (Option aO × Int)
  | 0, _, _ => none
  | n29 + 1, v27, v28 => (bif (decide (v27 < ((a0.length : Nat) : Int))) then gd (ix a0 v27) (gd (ix v28 (IntKind.i64.wrap (Int.tdiv v27 8))) (gd (0 ≤ (Int.tmod v27 8) ∧ (Int.tmod v27 8) < ((8 : Nat) : Int)) (gd (0 ≤ (Int.tmod v27 8) ∧ (Int.tmod v27 8) < ((8 : Nat) : Int)) (gd (inI (v27 + (1 : Int))) (oQ F a0 k12 n29 (v27 + (1 : Int)) (jl v28 (IntKind.i64.wrap (Int.tdiv v27 8)) (⟨(((nth v28 (IntKind.i64.wrap (Int.tdiv v27 8))).jQ).put (Int.tmod v27 8).toNat (nth a0 v27)), (((nth v28 (IntKind.i64.wrap (Int.tdiv v27 8))).xNew).put (Int.tmod v27 8).toNat (nth a0 v27)), (nth v28 (IntKind.i64.wrap (Int.tdiv v27 8))).yA, (nth v28 (IntKind.i64.wrap (Int.tdiv v27 8))).rH⟩ : bQ))))))) else k12 v28)
noncomputable def qm (F : Nat) (a0 : (List Int)) : Option (Option aO × Int) :=
  (xu F (IntKind.i64.wrap (Int.tdiv ((a0.length : Nat) : Int) 8))).bind fun x1 => Bd (x1.1) (bif ((x1.2 != (0 : Int)) || ((Int.tmod ((a0.length : Nat) : Int) 8) != (0 : Int))) then some (none, (1 : Int)) else (jn (fun (_ : Unit) => some (none, (0 : Int))) fun k4 => yQ F a0 k4 F ())) fun o2 => (bif ((x1.2 != (0 : Int)) || ((Int.tmod ((a0.length : Nat) : Int) 8) != (0 : Int))) then some (none, (1 : Int)) else (jn (fun (v11 : (List bQ)) => some ((some (⟨v11, o2.gB, o2.dA, o2.dO, o2.dN⟩ : aO)), (0 : Int))) fun k12 => oQ F a0 k12 F (0 : Int) o2.xl))
noncomputable def vK (F : Nat) (a0 : bg) (a1 : Int) : Option (Option aO × Int) :=
  (tC F a0 a1).bind fun x1 => (bif (x1.2 != (0 : Int)) then some (none, x1.2) else (pX F x1.1 (0 : Int)).bind fun x3 => (qm F x3).bind fun x4 => Bd (x4.1) (some (none, x4.2)) fun o5 => some ((some o5), x4.2))
noncomputable def kT (F : Nat) (a0 : aO) : Option (Bool) :=
  some a0.gB
noncomputable def lq (F : Nat) (a0 : aO) (k4 : (List Int) → Option ((List Int))) : Nat → Int → (List Int) → Option ((List Int))
  | 0, _, _ => none
  | n17 + 1, v15, v16 => (bif (decide (v15 < ((a0.xl.length : Nat) : Int))) then gd (ix a0.xl v15) (gd ((v16.length + ([(nth a0.xl v15).xNew.c0, (nth a0.xl v15).xNew.c1, (nth a0.xl v15).xNew.c2, (nth a0.xl v15).xNew.c3, (nth a0.xl v15).xNew.c4, (nth a0.xl v15).xNew.c5, (nth a0.xl v15).xNew.c6, (nth a0.xl v15).xNew.c7] : List Int).length) * 8 ≤ 140737488355328) (gd (inI (v15 + (1 : Int))) (lq F a0 k4 n17 (v15 + (1 : Int)) (v16 ++ ([(nth a0.xl v15).xNew.c0, (nth a0.xl v15).xNew.c1, (nth a0.xl v15).xNew.c2, (nth a0.xl v15).xNew.c3, (nth a0.xl v15).xNew.c4, (nth a0.xl v15).xNew.c5, (nth a0.xl v15).xNew.c6, (nth a0.xl v15).xNew.c7] : List Int))))) else k4 v16)
noncomputable def fM (F : Nat) (a0 : aO) : Option ((List Int)) :=
  gd (inI (((a0.xl.length : Nat) : Int) * (8 : Int))) (gd (0 ≤ (0 : Int) ∧ (0 : Int) ≤ (((a0.xl.length : Nat) : Int) * (8 : Int)) ∧ 8 * (((a0.xl.length : Nat) : Int) * (8 : Int)) ≤ 281474976710656 ∧ (((a0.xl.length : Nat) : Int) * (8 : Int)) ≤ 9223372036854775807) ((jn (fun (v3 : (List Int)) => some v3) fun k4 => lq F a0 k4 F (0 : Int) (List.replicate (0 : Int).toNat (0 : Int)))))
noncomputable def fF (F : Nat) (a0 : (List Int)) (a1 : (List Int)) (k2 : Unit → Option (Bool)) : Nat → Int → Option (Bool)
  | 0, _ => none
  | n15 + 1, v14 => (bif (decide (v14 < ((a0.length : Nat) : Int))) then gd (ix a0 v14) (gd (ix a1 v14) ((bif ((nth a0 v14) != (nth a1 v14)) then some false else gd (inI (v14 + (1 : Int))) (fF F a0 a1 k2 n15 (v14 + (1 : Int)))))) else k2 ())
noncomputable def jC (F : Nat) (a0 : (List Int)) (a1 : (List Int)) : Option (Bool) :=
  (bif (((a0.length : Nat) : Int) != ((a1.length : Nat) : Int)) then some false else (jn (fun (_ : Unit) => some true) fun k2 => fF F a0 a1 k2 F (0 : Int)))
noncomputable def oJ (F : Nat) (a0 : (List Int)) : Option (dQ × Bool) :=
  gd ((((a0.length : Nat) : Int) != (8 : Int)) = false → ix a0 (1 : Int)) (gd ((((a0.length : Nat) : Int) != (8 : Int)) = false → ix a0 (2 : Int)) (gd ((((a0.length : Nat) : Int) != (8 : Int)) = false → ix a0 (3 : Int)) ((lz (((((a0.length : Nat) : Int) != (8 : Int)) == false)) ((bu Tryz.prog .max #[42, 42, 42] 42 #[false, false, false] [(.int .u64 (nth a0 (1 : Int))), (.int .u64 (nth a0 (2 : Int))), (.int .u64 (nth a0 (3 : Int)))]).bind (int? .u64))).bind fun x4 => (bif ((((a0.length : Nat) : Int) != (8 : Int)) || (decide ((4096 : Int) < x4))) then some ((⟨(⟨(0 : Int), (0 : Int), (0 : Int)⟩ : bg), (0 : Int)⟩ : dQ), false) else gd (ix a0 (1 : Int)) (gd (ix a0 (2 : Int)) (gd (ix a0 (3 : Int)) (gd (ix a0 (4 : Int)) ((pV F (⟨(⟨(IntKind.i64.wrap (nth a0 (1 : Int))), (IntKind.i64.wrap (nth a0 (2 : Int))), (IntKind.i64.wrap (nth a0 (3 : Int)))⟩ : bg), (nth a0 (4 : Int))⟩ : dQ)).bind fun x10 => (jC F x10 a0).bind fun x11 => (bif (!x11) then some ((⟨(⟨(0 : Int), (0 : Int), (0 : Int)⟩ : bg), (0 : Int)⟩ : dQ), false) else some ((⟨(⟨(IntKind.i64.wrap (nth a0 (1 : Int))), (IntKind.i64.wrap (nth a0 (2 : Int))), (IntKind.i64.wrap (nth a0 (3 : Int)))⟩ : bg), (nth a0 (4 : Int))⟩ : dQ), true))))))))))
noncomputable def jv (F : Nat) (a0 : (List Int)) : Option (dQ × Bool × Bool) :=
  (bif ((decide (((a0.length : Nat) : Int) < (8 : Int))) || ((Int.tmod ((a0.length : Nat) : Int) 8) != (0 : Int))) then some ((⟨(⟨(0 : Int), (0 : Int), (0 : Int)⟩ : bg), (0 : Int)⟩ : dQ), false, false) else gd (0 ≤ (0 : Int) ∧ (0 : Int) ≤ (8 : Int) ∧ (8 : Int) ≤ ((a0.length : Nat) : Int)) ((oJ F (cut a0 (0 : Int) (8 : Int))).bind fun x3 => (lz ((x3.2 == true)) (sO F x3.1.bH)).bind fun x4 => gd (inI (((a0.length : Nat) : Int) - (8 : Int))) (gd (0 ≤ (((a0.length : Nat) : Int) - (8 : Int)) ∧ (((a0.length : Nat) : Int) - (8 : Int)) ≤ ((a0.length : Nat) : Int) ∧ ((a0.length : Nat) : Int) ≤ ((a0.length : Nat) : Int)) ((oJ F (cut a0 (((a0.length : Nat) : Int) - (8 : Int)) ((a0.length : Nat) : Int))).bind fun x7 => (lz ((x7.2 == true)) (sO F x7.1.bH)).bind fun x8 => (bif (x3.2 && (x4 == (IntKind.i64.wrap (Int.tdiv ((a0.length : Nat) : Int) 8)))) then some (x3.1, (x3.2 && (x4 == (IntKind.i64.wrap (Int.tdiv ((a0.length : Nat) : Int) 8)))), (x7.2 && (x8 == (IntKind.i64.wrap (Int.tdiv ((a0.length : Nat) : Int) 8))))) else (bif (x7.2 && (x8 == (IntKind.i64.wrap (Int.tdiv ((a0.length : Nat) : Int) 8)))) then some (x7.1, (x3.2 && (x4 == (IntKind.i64.wrap (Int.tdiv ((a0.length : Nat) : Int) 8)))), (x7.2 && (x8 == (IntKind.i64.wrap (Int.tdiv ((a0.length : Nat) : Int) 8))))) else some ((⟨(⟨(0 : Int), (0 : Int), (0 : Int)⟩ : bg), (0 : Int)⟩ : dQ), false, false)))))))
noncomputable def lG (F : Nat) (a0 : bg) (a1 : Int) : Option (Int × Int) :=
  (jL F a0).bind fun x1 => gd ((!x1) = false → inI (a0.ak - (1 : Int))) ((lz (((!x1) == false)) (oH F a1 (0 : Int) (a0.ak - (1 : Int)))).bind fun x3 => (bif ((!x1) || (!x3)) then some ((0 : Int), (0 : Int)) else gd (inI (a1 * (1208 : Int))) (gd (inI ((16 : Int) + (a1 * (1208 : Int)))) (some (((16 : Int) + (a1 * (1208 : Int))), (1208 : Int))))))
noncomputable def uj (F : Nat)  : Option ((List aU)) :=
  gd (4 = ([(⟨(0 : Int), (8 : Int)⟩ : aU), (⟨(8 : Int), (8 : Int)⟩ : aU), (⟨(16 : Int), (16 : Int)⟩ : aU), (⟨(32 : Int), (32 : Int)⟩ : aU)] : List aU).length) (some ([(⟨(0 : Int), (8 : Int)⟩ : aU), (⟨(8 : Int), (8 : Int)⟩ : aU), (⟨(16 : Int), (16 : Int)⟩ : aU), (⟨(32 : Int), (32 : Int)⟩ : aU)] : List aU))
noncomputable def ku (F : Nat) (a0 : Int) (a1 : (List aU)) (k5 : (List Int) → Option ((List Int))) : Nat → Int → (List Int) → Option ((List Int))
  | 0, _, _ => none
  | n22 + 1, v20, v21 => (bif (decide (v20 < ((a1.length : Nat) : Int))) then gd (ix a1 v20) ((iD F (nth a1 v20)).bind fun x25 => gd (0 ≤ (nth a1 v20).fE) (gd ((v21.length + ([(kS .u64 (uf .u64 a0 x25) ((nth a1 v20).fE))] : List Int).length) * 8 ≤ 140737488355328) (gd (inI (v20 + (1 : Int))) (ku F a0 a1 k5 n22 (v20 + (1 : Int)) (v21 ++ ([(kS .u64 (uf .u64 a0 x25) ((nth a1 v20).fE))] : List Int)))))) else k5 v21)
noncomputable def nR (F : Nat) (a0 : Int) (a1 : (List aU)) : Option ((List Int)) :=
  (fQ F a1).bind fun x1 => (bif (!x1) then some ([] : (List Int)) else gd (0 ≤ (0 : Int) ∧ (0 : Int) ≤ ((a1.length : Nat) : Int) ∧ 8 * ((a1.length : Nat) : Int) ≤ 281474976710656 ∧ ((a1.length : Nat) : Int) ≤ 9223372036854775807) ((jn (fun (v4 : (List Int)) => some v4) fun k5 => ku F a0 a1 k5 F (0 : Int) (List.replicate (0 : Int).toNat (0 : Int)))))
noncomputable def lI (F : Nat) (a0 : bg) (a1 : (List aA)) (k5 : Unit → Option (Bool)) : Nat → Int → Int → Option (Bool)
  | 0, _, _ => none
  | n20 + 1, v18, v19 => (bif (decide (v19 < ((a1.length : Nat) : Int))) then gd (ix a1 v19) ((lz (((decide ((nth a1 v19).xAt ≤ v18)) == false)) (ql F a0)).bind fun x23 => (bif ((decide ((nth a1 v19).xAt ≤ v18)) || (decide (x23 ≤ (nth a1 v19).xAt))) then some false else gd (inI (v19 + (1 : Int))) (lI F a0 a1 k5 n20 ((nth a1 v19).xAt) (v19 + (1 : Int))))) else k5 ())
noncomputable def mJ (F : Nat) (a0 : bg) (a1 : (List aA)) : Option (Bool) :=
  (jL F a0).bind fun x1 => (bif ((!x1) || (decide ((600 : Int) < ((a1.length : Nat) : Int)))) then some false else (sQ F a0 (0 : Int)).bind fun x3 => gd (inI (x3 - (1 : Int))) ((jn (fun (_ : Unit) => some true) fun k5 => lI F a0 a1 k5 F (x3 - (1 : Int)) (0 : Int))))
noncomputable def mY (F : Nat) (a0 : bg) (a1 : bC) : Option (Bool) :=
  (mJ F a0 a1.xW).bind fun x1 => (bif (((((!x1) || (decide (a1.dh.lW < (0 : Int)))) || (decide ((255 : Int) < a1.dh.lW))) || (decide (a1.dh.xN < (0 : Int)))) || (decide ((2147483647 : Int) < a1.dh.xN))) then some false else (bif (a1.bY == (0 : Int)) then some (((((a1.dh.lW == (0 : Int)) && ((a1.dh.xW == (0 : Int)) && ((a1.dh.xN == (0 : Int)) && true))) && (((a1.xW.length : Nat) : Int) == (0 : Int))) && (a1.lF == (0 : Int))) && ((a1.xL.c0 == (0 : Int)) && ((a1.xL.c1 == (0 : Int)) && ((a1.xL.c2 == (0 : Int)) && ((a1.xL.c3 == (0 : Int)) && true))))) else (jn (fun (v4 : Bool) => (bif v4 then some (((((a1.dh.lW == (0 : Int)) && ((a1.dh.xW == (0 : Int)) && ((a1.dh.xN == (0 : Int)) && true))) && (((a1.xW.length : Nat) : Int) == (0 : Int))) && (decide ((1 : Int) ≤ a1.lF))) && (decide (a1.lF ≤ (4294967295 : Int)))) else (jn (fun (v7 : Bool) => (bif v7 then some ((decide ((1 : Int) ≤ a1.lF)) && (decide (a1.lF ≤ (4294967295 : Int)))) else some false)) fun k8 => (bif (a1.bY == (2 : Int)) then k8 (a1.bY == (2 : Int)) else k8 (a1.bY == (3 : Int)))))) fun k5 => (bif (a1.bY == (1 : Int)) then k5 (a1.bY == (1 : Int)) else k5 (a1.bY == (4 : Int))))))
noncomputable def jd (F : Nat) (a1 : (List Int)) (x9 : ((List Int))) (k21 : (List aA) → Option (bC × Bool)) : Nat → Int → (List aA) → Option (bC × Bool)
  | 0, _, _ => none
  | n51 + 1, v49, v50 => (bif (decide (v49 < (IntKind.i64.wrap (nth x9 (2 : Int))))) then gd (inI ((2 : Int) * v49)) (gd (inI ((8 : Int) + ((2 : Int) * v49))) (gd (ix a1 ((8 : Int) + ((2 : Int) * v49))) ((bif (decide ((2147483647 : Int) < (nth a1 ((8 : Int) + ((2 : Int) * v49))))) then some ((⟨(0 : Int), (0 : Int), (⟨(0 : Int), (0 : Int), (0 : Int), (0 : Int)⟩ : V4 Int), (⟨(0 : Int), (0 : Int), (0 : Int)⟩ : jf), ([] : (List aA))⟩ : bC), false) else gd (inI ((2 : Int) * v49)) (gd (inI ((8 : Int) + ((2 : Int) * v49))) (gd (inI (((8 : Int) + ((2 : Int) * v49)) + (1 : Int))) (gd (ix a1 (((8 : Int) + ((2 : Int) * v49)) + (1 : Int))) (gd ((v50.length + ([(⟨(IntKind.i64.wrap (nth a1 ((8 : Int) + ((2 : Int) * v49)))), (nth a1 (((8 : Int) + ((2 : Int) * v49)) + (1 : Int)))⟩ : aA)] : List aA).length) * 16 ≤ 140737488355328) (gd (inI (v49 + (1 : Int))) (jd F a1 x9 k21 n51 (v49 + (1 : Int)) (v50 ++ ([(⟨(IntKind.i64.wrap (nth a1 ((8 : Int) + ((2 : Int) * v49)))), (nth a1 (((8 : Int) + ((2 : Int) * v49)) + (1 : Int)))⟩ : aA)] : List aA)))))))))))) else k21 v50)
noncomputable def lu (F : Nat) (a0 : bg) (a1 : (List Int)) : Option (bC × Bool) :=
  (lG F a0 (0 : Int)).bind fun x1 => (bif ((x1.2 == (0 : Int)) || (((a1.length : Nat) : Int) != x1.2)) then some ((⟨(0 : Int), (0 : Int), (⟨(0 : Int), (0 : Int), (0 : Int), (0 : Int)⟩ : V4 Int), (⟨(0 : Int), (0 : Int), (0 : Int)⟩ : jf), ([] : (List aA))⟩ : bC), false) else gd (ix a1 (0 : Int)) ((bif ((nth a1 (0 : Int)) == (0 : Int)) then (jn (fun (_ : Unit) => some ((⟨(0 : Int), (0 : Int), (⟨(0 : Int), (0 : Int), (0 : Int), (0 : Int)⟩ : V4 Int), (⟨(0 : Int), (0 : Int), (0 : Int)⟩ : jf), ([] : (List aA))⟩ : bC), ((nth a1 (7 : Int)) == (0 : Int)))) fun k5 => gd (ix a1 (7 : Int)) (k5 ())) else gd (ix a1 (0 : Int)) ((uj F ).bind fun x8 => (nR F (nth a1 (0 : Int)) x8).bind fun x9 => gd (ix x9 (0 : Int)) (gd (ix x9 (3 : Int)) (gd (0 ≤ (1 : Int) ∧ (1 : Int) ≤ ((a1.length : Nat) : Int) ∧ ((a1.length : Nat) : Int) ≤ ((a1.length : Nat) : Int)) (gd (4 ≤ (cut a1 (1 : Int) ((a1.length : Nat) : Int)).length) (gd (ix x9 (1 : Int)) (gd (ix x9 (2 : Int)) ((bif (decide ((600 : Int) < (IntKind.i64.wrap (nth x9 (2 : Int))))) then some ((⟨(0 : Int), (0 : Int), (⟨(0 : Int), (0 : Int), (0 : Int), (0 : Int)⟩ : V4 Int), (⟨(0 : Int), (0 : Int), (0 : Int)⟩ : jf), ([] : (List aA))⟩ : bC), false) else (jn (fun (v17 : Int) (v18 : Int) => (jn (fun (v20 : (List aA)) => (mY F a0 (⟨(IntKind.i64.wrap (nth x9 (0 : Int))), (nth x9 (3 : Int)), (⟨(nth (cut a1 (1 : Int) ((a1.length : Nat) : Int)) 0), (nth (cut a1 (1 : Int) ((a1.length : Nat) : Int)) 1), (nth (cut a1 (1 : Int) ((a1.length : Nat) : Int)) 2), (nth (cut a1 (1 : Int) ((a1.length : Nat) : Int)) 3)⟩ : V4 Int), (⟨(IntKind.i64.wrap (nth x9 (1 : Int))), v17, v18⟩ : jf), v20⟩ : bC)).bind fun x22 => gd ((!x22) = false → ix a1 (7 : Int)) ((bif ((!x22) || ((nth a1 (7 : Int)) != (0 : Int))) then some ((⟨(0 : Int), (0 : Int), (⟨(0 : Int), (0 : Int), (0 : Int), (0 : Int)⟩ : V4 Int), (⟨(0 : Int), (0 : Int), (0 : Int)⟩ : jf), ([] : (List aA))⟩ : bC), false) else some ((⟨(IntKind.i64.wrap (nth x9 (0 : Int))), (nth x9 (3 : Int)), (⟨(nth (cut a1 (1 : Int) ((a1.length : Nat) : Int)) 0), (nth (cut a1 (1 : Int) ((a1.length : Nat) : Int)) 1), (nth (cut a1 (1 : Int) ((a1.length : Nat) : Int)) 2), (nth (cut a1 (1 : Int) ((a1.length : Nat) : Int)) 3)⟩ : V4 Int), (⟨(IntKind.i64.wrap (nth x9 (1 : Int))), v17, v18⟩ : jf), v20⟩ : bC), true)))) fun k21 => jd F a1 x9 k21 F (0 : Int) ([] : List aA))) fun k19 => (bif ((IntKind.i64.wrap (nth x9 (0 : Int))) != (1 : Int)) then gd (ix a1 (6 : Int)) ((bif (decide ((2147483647 : Int) < (nth a1 (6 : Int)))) then some ((⟨(0 : Int), (0 : Int), (⟨(0 : Int), (0 : Int), (0 : Int), (0 : Int)⟩ : V4 Int), (⟨(0 : Int), (0 : Int), (0 : Int)⟩ : jf), ([] : (List aA))⟩ : bC), false) else gd (ix a1 (5 : Int)) (gd (ix a1 (6 : Int)) (k19 (nth a1 (5 : Int)) (IntKind.i64.wrap (nth a1 (6 : Int))))))) else k19 (0 : Int) (0 : Int))))))))))))))
noncomputable def nI (F : Nat) (a1 : (List aA)) (k3 : (List Int) → Option ((List Int))) : Nat → Int → (List Int) → Option ((List Int))
  | 0, _, _ => none
  | n22 + 1, v20, v21 => (bif (decide (v20 < ((a1.length : Nat) : Int))) then (jn (fun (v24 : (List Int)) => gd (inI (v20 + (1 : Int))) (nI F a1 k3 n22 (v20 + (1 : Int)) v24)) fun k25 => gd (ix a1 v20) ((bif ((decide ((0 : Int) ≤ (nth a1 v20).xAt)) && (decide ((nth a1 v20).xAt < ((v21.length : Nat) : Int)))) then gd (ix v21 ((nth a1 v20).xAt)) (k25 (jl v21 ((nth a1 v20).xAt) ((nth a1 v20).xV))) else k25 v21))) else k3 v21)
noncomputable def uT (F : Nat) (a0 : (List Int)) (a1 : (List aA)) : Option ((List Int)) :=
  gd (a0.length * 8 ≤ 140737488355328) ((jn (fun (v2 : (List Int)) => some v2) fun k3 => nI F a1 k3 F (0 : Int) a0))
noncomputable def xJ (F : Nat) (a0 : Int) (a1 : (List aU)) : Option (Int) :=
  (CY F a1).bind fun x1 => some (Hr .u64 a0 x1.1)
noncomputable def ru (F : Nat) (a0 : Int) : Option (eG × Bool) :=
  (rD F ).bind fun x1 => (nR F a0 x1).bind fun x2 => gd (ix x2 (0 : Int)) (gd (ix x2 (3 : Int)) (gd (ix x2 (1 : Int)) (gd (ix x2 (2 : Int)) ((rD F ).bind fun x7 => (xJ F a0 x7).bind fun x8 => (lz (((x8 != (0 : Int)) == false)) (oN F (⟨(IntKind.i64.wrap (nth x2 (0 : Int))), (IntKind.i64.wrap (nth x2 (3 : Int))), (IntKind.i64.wrap (nth x2 (1 : Int))), (IntKind.i64.wrap (nth x2 (2 : Int)))⟩ : eG))).bind fun x9 => (bif ((x8 != (0 : Int)) || (!x9)) then some ((⟨(0 : Int), (0 : Int), (0 : Int), (0 : Int)⟩ : eG), false) else some ((⟨(IntKind.i64.wrap (nth x2 (0 : Int))), (IntKind.i64.wrap (nth x2 (3 : Int))), (IntKind.i64.wrap (nth x2 (1 : Int))), (IntKind.i64.wrap (nth x2 (2 : Int)))⟩ : eG), true))))))
noncomputable def kM (F : Nat) (a0 : (List Int)) : Option (aJ × Bool) :=
  (bif (((a0.length : Nat) : Int) != (8 : Int)) then some ((⟨(0 : Int), (0 : Int), (0 : Int), (0 : Int), (0 : Int), (0 : Int), (0 : Int), false, (0 : Int), (⟨(0 : Int), (0 : Int), (0 : Int), (0 : Int)⟩ : V4 Int)⟩ : aJ), false) else gd (ix a0 (0 : Int)) ((l9 F ).bind fun x3 => (nR F (nth a0 (0 : Int)) x3).bind fun x4 => gd (ix a0 (1 : Int)) ((oP F ).bind fun x6 => (nR F (nth a0 (1 : Int)) x6).bind fun x7 => gd (ix x4 (0 : Int)) (gd (ix x4 (1 : Int)) (gd (ix x4 (2 : Int)) (gd (ix x4 (3 : Int)) (gd (ix x4 (4 : Int)) (gd (ix x7 (0 : Int)) (gd (ix x7 (1 : Int)) (gd (ix x7 (2 : Int)) (gd (ix a0 (2 : Int)) (gd (0 ≤ (3 : Int) ∧ (3 : Int) ≤ ((a0.length : Nat) : Int) ∧ ((a0.length : Nat) : Int) ≤ ((a0.length : Nat) : Int)) (gd (4 ≤ (cut a0 (3 : Int) ((a0.length : Nat) : Int)).length) ((jG F (⟨(IntKind.i64.wrap (nth x4 (0 : Int))), (IntKind.i64.wrap (nth x4 (1 : Int))), (IntKind.i64.wrap (nth x4 (2 : Int))), (IntKind.i64.wrap (nth x7 (0 : Int))), (IntKind.i64.wrap (nth x7 (1 : Int))), (IntKind.i64.wrap (nth x4 (4 : Int))), (IntKind.i64.wrap (nth x7 (2 : Int))), ((nth x4 (3 : Int)) == (1 : Int)), (nth a0 (2 : Int)), (⟨(nth (cut a0 (3 : Int) ((a0.length : Nat) : Int)) 0), (nth (cut a0 (3 : Int) ((a0.length : Nat) : Int)) 1), (nth (cut a0 (3 : Int) ((a0.length : Nat) : Int)) 2), (nth (cut a0 (3 : Int) ((a0.length : Nat) : Int)) 3)⟩ : V4 Int)⟩ : aJ)).bind fun x19 => (jC F x19 a0).bind fun x20 => (bif (!x20) then some ((⟨(0 : Int), (0 : Int), (0 : Int), (0 : Int), (0 : Int), (0 : Int), (0 : Int), false, (0 : Int), (⟨(0 : Int), (0 : Int), (0 : Int), (0 : Int)⟩ : V4 Int)⟩ : aJ), false) else some ((⟨(IntKind.i64.wrap (nth x4 (0 : Int))), (IntKind.i64.wrap (nth x4 (1 : Int))), (IntKind.i64.wrap (nth x4 (2 : Int))), (IntKind.i64.wrap (nth x7 (0 : Int))), (IntKind.i64.wrap (nth x7 (1 : Int))), (IntKind.i64.wrap (nth x4 (4 : Int))), (IntKind.i64.wrap (nth x7 (2 : Int))), ((nth x4 (3 : Int)) == (1 : Int)), (nth a0 (2 : Int)), (⟨(nth (cut a0 (3 : Int) ((a0.length : Nat) : Int)) 0), (nth (cut a0 (3 : Int) ((a0.length : Nat) : Int)) 1), (nth (cut a0 (3 : Int) ((a0.length : Nat) : Int)) 2), (nth (cut a0 (3 : Int) ((a0.length : Nat) : Int)) 3)⟩ : V4 Int)⟩ : aJ), true))))))))))))))))
noncomputable def iV (F : Nat) (a0 : (List Int)) (x1 : (dQ × Bool × Bool)) (k6 : (List aJ) → Option (aK × Int)) : Nat → Int → (List aJ) → Option (aK × Int)
  | 0, _, _ => none
  | n29 + 1, v27, v28 => (bif (decide (v27 < x1.1.bH.ay)) then (tH F x1.1.bH v27).bind fun x31 => gd (inI (x31 + (8 : Int))) (gd (0 ≤ x31 ∧ x31 ≤ (x31 + (8 : Int)) ∧ (x31 + (8 : Int)) ≤ ((a0.length : Nat) : Int)) ((kM F (cut a0 x31 (x31 + (8 : Int)))).bind fun x34 => (bif (!x34.2) then some ((⟨(⟨(0 : Int), (0 : Int), (0 : Int)⟩ : bg), ([] : (List aY)), ([] : (List aJ))⟩ : aK), (2 : Int)) else gd ((v28.length + ([x34.1] : List aJ).length) * 104 ≤ 140737488355328) (gd (inI (v27 + (1 : Int))) (iV F a0 x1 k6 n29 (v27 + (1 : Int)) (v28 ++ ([x34.1] : List aJ))))))) else k6 v28)
noncomputable def iU (F : Nat) (a0 : (List Int)) (x1 : (dQ × Bool × Bool)) (k4 : (List aY) → Option (aK × Int)) : Nat → Int → (List aY) → Option (aK × Int)
  | 0, _, _ => none
  | n70 + 1, v68, v69 => (bif (decide (v68 < x1.1.bH.au)) then (jn (fun (v72 : (List aY)) => gd (inI (v68 + (1 : Int))) (iU F a0 x1 k4 n70 (v68 + (1 : Int)) v72)) fun k73 => (sQ F x1.1.bH v68).bind fun x75 => gd (ix a0 x75) ((ru F (nth a0 x75)).bind fun x77 => gd ((!x77.2) = false → inI (x75 + (1 : Int))) (gd ((!x77.2) = false → ix a0 (x75 + (1 : Int))) ((bif ((!x77.2) || (decide ((96 : Int) < (nth a0 (x75 + (1 : Int)))))) then some ((⟨(⟨(0 : Int), (0 : Int), (0 : Int)⟩ : bg), ([] : (List aY)), ([] : (List aJ))⟩ : aK), (2 : Int)) else gd (inI (x75 + (1 : Int))) (gd (ix a0 (x75 + (1 : Int))) (gd (inI ((IntKind.i64.wrap (nth a0 (x75 + (1 : Int)))) - (1 : Int))) (gd ((v69.length + ([(⟨x77.1, ((IntKind.i64.wrap (nth a0 (x75 + (1 : Int)))) - (1 : Int))⟩ : aY)] : List aY).length) * 40 ≤ 140737488355328) (k73 (v69 ++ ([(⟨x77.1, ((IntKind.i64.wrap (nth a0 (x75 + (1 : Int)))) - (1 : Int))⟩ : aY)] : List aY))))))))))) else k4 v69)
noncomputable def jU (F : Nat) (a0 : (List Int)) : Option (aK × Int) :=
  (jv F a0).bind fun x1 => (bif ((!x1.2.1) && (!x1.2.2)) then some ((⟨(⟨(0 : Int), (0 : Int), (0 : Int)⟩ : bg), ([] : (List aY)), ([] : (List aJ))⟩ : aK), (2 : Int)) else (jn (fun (v3 : (List aY)) => (jn (fun (v5 : (List aJ)) => (oI F (⟨x1.1.bH, v3, v5⟩ : aK)).bind fun x7 => (bif (!x7) then some ((⟨(⟨(0 : Int), (0 : Int), (0 : Int)⟩ : bg), ([] : (List aY)), ([] : (List aJ))⟩ : aK), (2 : Int)) else some ((⟨x1.1.bH, v3, v5⟩ : aK), (0 : Int)))) fun k6 => iV F a0 x1 k6 F (0 : Int) ([] : List aJ))) fun k4 => iU F a0 x1 k4 F (0 : Int) ([] : List aY)))
noncomputable def jh (F : Nat) (x1 : (dQ × Bool × Bool)) (k9 : (List Int) → Int → (List bC) → Option (iJ × Bool)) : Nat → (List Int) → Int → Int → (List bC) → Option (iJ × Bool)
  | 0, _, _, _, _ => none
  | n71 + 1, v67, v68, v69, v70 => (bif (decide (v69 < x1.1.bH.ak)) then (lG F x1.1.bH v69).bind fun x73 => (jn (fun (v74 : Bool) (v75 : Int) (v76 : Int) (v77 : Int) (v78 : Int) (v79 : Int) (v80 : Int) (v81 : Int) (v82 : Int) (v83 : Int) (v84 : (List aA)) => (bif (!v74) then some ((⟨(⟨(⟨(0 : Int), (0 : Int), (0 : Int)⟩ : bg), ([] : (List aY)), ([] : (List aJ))⟩ : aK), ([] : (List bC)), (0 : Int), false⟩ : iJ), false) else (jn (fun (v87 : (List Int)) (v88 : Int) => gd ((v70.length + ([(⟨v75, v76, (⟨v77, v78, v79, v80⟩ : V4 Int), (⟨v81, v82, v83⟩ : jf), v84⟩ : bC)] : List bC).length) * 96 ≤ 140737488355328) (gd (inI (v69 + (1 : Int))) (jh F x1 k9 n71 v87 v88 (v69 + (1 : Int)) (v70 ++ ([(⟨v75, v76, (⟨v77, v78, v79, v80⟩ : V4 Int), (⟨v81, v82, v83⟩ : jf), v84⟩ : bC)] : List bC))))) fun k89 => (bif (v75 == (2 : Int)) then gd (inI (v68 + (1 : Int))) ((uT F v67 v84).bind fun x94 => k89 x94 (v68 + (1 : Int))) else k89 v67 v68)))) fun k85 => gd (inI (x73.1 + x73.2)) (gd (0 ≤ x73.1 ∧ x73.1 ≤ (x73.1 + x73.2) ∧ (x73.1 + x73.2) ≤ ((v67.length : Nat) : Int)) ((lu F x1.1.bH (cut v67 x73.1 (x73.1 + x73.2))).bind fun x97 => k85 x97.2 x97.1.bY x97.1.lF x97.1.xL.c0 x97.1.xL.c1 x97.1.xL.c2 x97.1.xL.c3 x97.1.dh.lW x97.1.dh.xW x97.1.dh.xN x97.1.xW))) else k9 v67 v68 v70)
noncomputable def lM (F : Nat) (a0 : (List Int)) : Option (iJ × Bool) :=
  (jv F a0).bind fun x1 => (bif ((!x1.2.1) && (!x1.2.2)) then some ((⟨(⟨(⟨(0 : Int), (0 : Int), (0 : Int)⟩ : bg), ([] : (List aY)), ([] : (List aJ))⟩ : aK), ([] : (List bC)), (0 : Int), false⟩ : iJ), false) else (jn (fun (v3 : Int) => (bif (decide ((4611686018427387904 : Int) ≤ v3)) then some ((⟨(⟨(⟨(0 : Int), (0 : Int), (0 : Int)⟩ : bg), ([] : (List aY)), ([] : (List aJ))⟩ : aK), ([] : (List bC)), (0 : Int), false⟩ : iJ), false) else (jn (fun (v6 : (List Int)) (v7 : Int) (v8 : (List bC)) => (jU F v6).bind fun x10 => some ((⟨x10.1, v8, (IntKind.u64.wrap (v3 + (1 : Int))), x1.2.1⟩ : iJ), ((decide (v7 ≤ (1 : Int))) && (x10.2 == (0 : Int))))) fun k9 => jh F x1 k9 F a0 (0 : Int) (0 : Int) ([] : List bC)))) fun k4 => gd (inI (((a0.length : Nat) : Int) - (8 : Int))) (gd (0 ≤ (((a0.length : Nat) : Int) - (8 : Int)) ∧ (((a0.length : Nat) : Int) - (8 : Int)) ≤ ((a0.length : Nat) : Int) ∧ ((a0.length : Nat) : Int) ≤ ((a0.length : Nat) : Int)) ((oJ F (cut a0 (((a0.length : Nat) : Int) - (8 : Int)) ((a0.length : Nat) : Int))).bind fun x100 => (bif (x100.2 && x1.2.2) then ((bu Tryz.prog .max #[42, 42] 42 #[false, false] [(.int .u64 x1.1.tq), (.int .u64 x100.1.tq)]).bind (int? .u64)).bind fun x102 => k4 x102 else k4 x1.1.tq)))))
noncomputable def pY (F : Nat) (a0 : bC) : Option (bC) :=
  (jn (fun (v1 : Int) => some (⟨v1, a0.lF, a0.xL, a0.dh, a0.xW⟩ : bC)) fun k2 => (bif (a0.bY == (2 : Int)) then k2 (3 : Int) else (bif (a0.bY == (1 : Int)) then k2 (4 : Int) else k2 a0.bY)))
noncomputable def kD (F : Nat) (a0 : (List Int)) (k4 : Int → Option (Int)) : Nat → Int → Int → Option (Int)
  | 0, _, _ => none
  | n17 + 1, v15, v16 => (bif (decide (v16 < ((a0.length : Nat) : Int))) then gd (ix a0 v16) (((bu Tryz.prog .max #[42, 42] 42 #[false, false] [(.int .u64 v15), (.int .u64 (nth a0 v16))]).bind (int? .u64)).bind fun x20 => gd (inI (v16 + (1 : Int))) (kD F a0 k4 n17 x20 (v16 + (1 : Int)))) else k4 v15)
noncomputable def ni (F : Nat) (a0 : (List Int)) : Option (Int) :=
  (jn (fun (_ : Unit) => gd (ix a0 (0 : Int)) ((jn (fun (v3 : Int) => some v3) fun k4 => kD F a0 k4 F (nth a0 (0 : Int)) (1 : Int)))) fun k1 => (bif (decide (((a0.length : Nat) : Int) < (1 : Int))) then none else k1 ()))
noncomputable def lN (F : Nat) (a0 : bC) : Option (Int) :=
  (uj F ).bind fun x1 => (jK F x1 ([(IntKind.u64.wrap a0.bY), (IntKind.u64.wrap a0.dh.lW), (IntKind.u64.wrap ((a0.xW.length : Nat) : Int)), a0.lF] : List Int)).bind fun x2 => gd (((!x2.2) || (decide ((600 : Int) < ((a0.xW.length : Nat) : Int)))) = false → 0 ≤ (0 : Int) ∧ (0 : Int) ≤ (2 : Int) ∧ (2 : Int) ≤ ((4 : Nat) : Int)) ((lz ((((!x2.2) || (decide ((600 : Int) < ((a0.xW.length : Nat) : Int)))) == false)) (ni F ([(IntKind.u64.wrap a0.bY), (IntKind.u64.wrap a0.dh.lW)] : List Int))).bind fun x4 => (bif (((!x2.2) || (decide ((600 : Int) < ((a0.xW.length : Nat) : Int)))) || (decide ((255 : Int) < x4))) then some (0 : Int) else some x2.1))
noncomputable def uQ (F : Nat) (a0 : bg) : Option (Int) :=
  (jL F a0).bind fun x1 => (bif (!x1) then some (0 : Int) else some (8 : Int))
noncomputable def mX (F : Nat) (a1 : Int) (k2 : (List aA) → Option ((List aA))) (x3 : ((List Int))) : Nat → Int → (List aA) → Option ((List aA))
  | 0, _, _ => none
  | n18 + 1, v16, v17 => (bif (decide (v16 < ((x3.length : Nat) : Int))) then gd (ix x3 v16) (gd (inI (a1 + v16)) (gd ((v17.length + ([(⟨(a1 + v16), (nth x3 v16)⟩ : aA)] : List aA).length) * 16 ≤ 140737488355328) (gd (inI (v16 + (1 : Int))) (mX F a1 k2 x3 n18 (v16 + (1 : Int)) (v17 ++ ([(⟨(a1 + v16), (nth x3 v16)⟩ : aA)] : List aA)))))) else k2 v17)
noncomputable def kW (F : Nat) (a0 : iJ) (a1 : Int) : Option ((List aA)) :=
  (jn (fun (v1 : (List aA)) => some v1) fun k2 => (pV F (⟨a0.xs.bH, a0.lQ⟩ : dQ)).bind fun x3 => mX F a1 k2 x3 F (0 : Int) ([] : List aA))
noncomputable def iE (F : Nat) (a0 : iJ) (k3 : (List aA) → (List (List aA)) → Option ((List (List aA)))) : Nat → Int → (List aA) → (List (List aA)) → Option ((List (List aA)))
  | 0, _, _, _ => none
  | n57 + 1, v54, v55, v56 => (bif (decide (v54 < ((a0.mO.length : Nat) : Int))) then gd (ix a0.mO v54) ((lG F a0.xs.bH v54).bind fun x60 => (jn (fun (v61 : (List (List aA))) => (jn (fun (v63 : (List aA)) => (pY F (nth a0.mO v54)).bind fun x65 => (lN F x65).bind fun x66 => gd ((v63.length + ([(⟨x60.1, x66⟩ : aA)] : List aA).length) * 16 ≤ 140737488355328) (gd (inI (v54 + (1 : Int))) (iE F a0 k3 n57 (v54 + (1 : Int)) (v63 ++ ([(⟨x60.1, x66⟩ : aA)] : List aA)) v61))) fun k64 => (bif ((nth a0.mO v54).bY == (1 : Int)) then gd (inI (x60.1 + (5 : Int))) (gd (inI (x60.1 + (6 : Int))) (gd ((v55.length + ([(⟨(x60.1 + (5 : Int)), (0 : Int)⟩ : aA), (⟨(x60.1 + (6 : Int)), (0 : Int)⟩ : aA)] : List aA).length) * 16 ≤ 140737488355328) (k64 (v55 ++ ([(⟨(x60.1 + (5 : Int)), (0 : Int)⟩ : aA), (⟨(x60.1 + (6 : Int)), (0 : Int)⟩ : aA)] : List aA))))) else k64 v55))) fun k62 => (bif ((nth a0.mO v54).bY == (2 : Int)) then gd ((v56.length + ([(nth a0.mO v54).xW] : List (List aA)).length) * 24 ≤ 140737488355328) (k62 (v56 ++ ([(nth a0.mO v54).xW] : List (List aA)))) else k62 v56))) else k3 v55 v56)
noncomputable def oK (F : Nat) (a0 : iJ) : Option ((List (List aA))) :=
  (jn (fun (v1 : (List aA)) (v2 : (List (List aA))) => (uQ F a0.xs.bH).bind fun x4 => gd (1 = ([(⟨x4, (0 : Int)⟩ : aA)] : List aA).length) (gd (1 = ([(⟨x4, (0 : Int)⟩ : aA)] : List aA).length) (gd ((v2.length + ([v1, ([(⟨x4, (0 : Int)⟩ : aA)] : List aA)] : List (List aA)).length) * 24 ≤ 140737488355328) ((bif a0.mZ then (ql F a0.xs.bH).bind fun x9 => (kW F a0 x9).bind fun x10 => (kW F a0 (0 : Int)).bind fun x11 => gd (((v2 ++ ([v1, ([(⟨x4, (0 : Int)⟩ : aA)] : List aA)] : List (List aA))).length + ([x10, x11] : List (List aA)).length) * 24 ≤ 140737488355328) (some ((v2 ++ ([v1, ([(⟨x4, (0 : Int)⟩ : aA)] : List aA)] : List (List aA))) ++ ([x10, x11] : List (List aA)))) else (kW F a0 (0 : Int)).bind fun x13 => (ql F a0.xs.bH).bind fun x14 => (kW F a0 x14).bind fun x15 => gd (((v2 ++ ([v1, ([(⟨x4, (0 : Int)⟩ : aA)] : List aA)] : List (List aA))).length + ([x13, x15] : List (List aA)).length) * 24 ≤ 140737488355328) (some ((v2 ++ ([v1, ([(⟨x4, (0 : Int)⟩ : aA)] : List aA)] : List (List aA))) ++ ([x13, x15] : List (List aA))))))))) fun k3 => iE F a0 k3 F (0 : Int) ([] : List aA) ([] : List (List aA)))
noncomputable def oU (F : Nat) (a0 : aO) (a1 : Int) (a2 : Int) : Option (Int) :=
  (bif a0.gB then some (12 : Int) else (bif ((decide (a1 < (0 : Int))) || (decide (a2 ≤ a1))) then some (1 : Int) else some (0 : Int)))
noncomputable def oD (F : Nat) (a0 : (List Int)) (a1 : Int) (k1 : Unit → Option (Int)) : Nat → Int → Option (Int)
  | 0, _ => none
  | n12 + 1, v11 => (bif (decide (v11 < ((a0.length : Nat) : Int))) then gd (ix a0 v11) ((bif (a1 == (nth a0 v11)) then some v11 else gd (inI (v11 + (1 : Int))) (oD F a0 a1 k1 n12 (v11 + (1 : Int))))) else k1 ())
noncomputable def sU (F : Nat) (a0 : (List Int)) (a1 : Int) : Option (Int) :=
  (jn (fun (_ : Unit) => some (-1 : Int)) fun k1 => oD F a0 a1 k1 F (0 : Int))
noncomputable def qN (F : Nat) (a0 : (List Int)) (a1 : Int) : Option (Bool) :=
  (sU F a0 a1).bind fun x1 => some (decide ((0 : Int) ≤ x1))
noncomputable def qI (F : Nat) (a0 : aO) (a0i : Int) : Option (aO × Bool) :=
  gd (ix a0.xl a0i) ((bif (!(nth a0.xl a0i).yA) then some (a0, false) else some ((⟨(jl a0.xl a0i (⟨(nth a0.xl a0i).xNew, (nth a0.xl a0i).xNew, false, false⟩ : bQ)), a0.gB, a0.dA, a0.dO, a0.dN⟩ : aO), true)))
noncomputable def xK (F : Nat) (a0 : aO) (a0i : Int) (a1 : Bool) : Option (aO × Bool) :=
  gd (ix a0.xl a0i) ((bif (a1 || (!(nth a0.xl a0i).yA)) then (qI F a0 a0i).bind fun x2 => some (x2.1, x2.2) else some ((⟨(jl a0.xl a0i (⟨(nth a0.xl a0i).jQ, (nth a0.xl a0i).jQ, false, false⟩ : bQ)), a0.gB, a0.dA, a0.dO, a0.dN⟩ : aO), true)))
noncomputable def qo (F : Nat) (a0 : aO) (a1 : (List Int)) (k7 : (List bQ) → Bool → Int → Int → (List Int) → Option (aO)) : Nat → Int → (List bQ) → Bool → Int → Int → (List Int) → Option (aO)
  | 0, _, _, _, _, _, _ => none
  | n30 + 1, v24, v25, v26, v27, v28, v29 => (bif (decide (v24 < ((a0.xl.length : Nat) : Int))) then gd (ix v25 v24) ((qN F a1 v24).bind fun x33 => (xK F (⟨v25, v26, v27, v28, v29⟩ : aO) v24 x33).bind fun x34 => gd (inI (v24 + (1 : Int))) (qo F a0 a1 k7 n30 (v24 + (1 : Int)) x34.1.xl x34.1.gB x34.1.dA x34.1.dO x34.1.dN)) else k7 v25 v26 v27 v28 v29)
noncomputable def wz (F : Nat) (a0 : aO) (a1 : (List Int)) : Option (aO) :=
  (bif a0.gB then some a0 else (jn (fun (v2 : (List bQ)) (v3 : Bool) (v4 : Int) (v5 : Int) (v6 : (List Int)) => some (⟨v2, true, v4, (0 : Int), v6⟩ : aO)) fun k7 => qo F a0 a1 k7 F (0 : Int) a0.xl a0.gB a0.dA a0.dO a0.dN))
noncomputable def nU (F : Nat) (a0 : aO) : Option (aO × Bool) :=
  (jn (fun (v1 : Int) => gd (inI (a0.dA + (1 : Int))) (some ((⟨a0.xl, a0.gB, (a0.dA + (1 : Int)), v1, a0.dN⟩ : aO), true))) fun k2 => (bif (decide ((0 : Int) < a0.dO)) then gd (inI (a0.dO - (1 : Int))) ((bif ((a0.dO - (1 : Int)) == (0 : Int)) then (wz F (⟨a0.xl, a0.gB, a0.dA, (a0.dO - (1 : Int)), a0.dN⟩ : aO) a0.dN).bind fun x7 => some (x7, false) else k2 (a0.dO - (1 : Int)))) else k2 a0.dO))
noncomputable def EX (F : Nat) (a0 : Int) : Option (Bool) :=
  some ((decide ((0 : Int) ≤ a0)) && (decide (a0 < (8 : Int))))
noncomputable def sG (F : Nat) (a0 : aO) (a0i : Int) (a1 : Int) (a2 : Int) : Option (aO × Bool) :=
  gd (ix a0.xl a0i) ((EX F a1).bind fun x1 => (bif (!x1) then some (a0, false) else gd (0 ≤ a1 ∧ a1 < ((8 : Nat) : Int)) (some ((⟨(jl a0.xl a0i (⟨(nth a0.xl a0i).jQ, (((nth a0.xl a0i).xNew).put a1.toNat a2), true, false⟩ : bQ)), a0.gB, a0.dA, a0.dO, a0.dN⟩ : aO), true))))
noncomputable def qF (F : Nat) (a0 : aO) (a1 : Int) (a2 : Int) : Option (aO × Int) :=
  gd (inI (((a0.xl.length : Nat) : Int) * (8 : Int))) ((oU F a0 a1 (((a0.xl.length : Nat) : Int) * (8 : Int))).bind fun x2 => (bif (x2 != (0 : Int)) then some (a0, x2) else (nU F a0).bind fun x4 => (bif (!x4.2) then some (x4.1, (12 : Int)) else gd (ix x4.1.xl (IntKind.i64.wrap (Int.tdiv a1 8))) ((sG F x4.1 (IntKind.i64.wrap (Int.tdiv a1 8)) (Int.tmod a1 8) a2).bind fun x7 => some (x7.1, (0 : Int))))))
noncomputable def nV (F : Nat) (a0 : (List aA)) (k2 : (List Int) → Option ((List Int))) : Nat → Int → (List Int) → Option ((List Int))
  | 0, _, _ => none
  | n23 + 1, v21, v22 => (bif (decide (v21 < ((a0.length : Nat) : Int))) then (jn (fun (v25 : (List Int)) => gd (inI (v21 + (1 : Int))) (nV F a0 k2 n23 (v21 + (1 : Int)) v25)) fun k26 => gd (ix a0 v21) ((bif (decide ((0 : Int) ≤ (nth a0 v21).xAt)) then gd ((v22.length + ([(IntKind.i64.wrap (Int.tdiv ((nth a0 v21).xAt) 8))] : List Int).length) * 8 ≤ 140737488355328) (k26 (v22 ++ ([(IntKind.i64.wrap (Int.tdiv ((nth a0 v21).xAt) 8))] : List Int))) else k26 v22))) else k2 v22)
noncomputable def tJ (F : Nat) (a0 : (List aA)) : Option ((List Int)) :=
  (jn (fun (v1 : (List Int)) => gd (v1.length < 4611686018427387904) (gd ((EY v1).length < 4611686018427387904) (some (Hl (EY v1))))) fun k2 => nV F a0 k2 F (0 : Int) ([] : List Int))
noncomputable def sH (F : Nat) (a0 : aO) (a0i : Int) : Option (aO) :=
  gd (ix a0.xl a0i) (some (⟨(jl a0.xl a0i (⟨(nth a0.xl a0i).jQ, (nth a0.xl a0i).xNew, (nth a0.xl a0i).yA, ((nth a0.xl a0i).rH || (nth a0.xl a0i).yA)⟩ : bQ)), a0.gB, a0.dA, a0.dO, a0.dN⟩ : aO))
noncomputable def qG (F : Nat) (a0 : aO) (a1 : Int) : Option (aO × Int) :=
  (oU F a0 a1 ((a0.xl.length : Nat) : Int)).bind fun x1 => (bif (x1 != (0 : Int)) then some (a0, x1) else (nU F a0).bind fun x3 => (bif (!x3.2) then some (x3.1, (12 : Int)) else gd (ix x3.1.xl a1) ((sH F x3.1 a1).bind fun x6 => some (x6, (0 : Int)))))
noncomputable def qH (F : Nat) (a0 : aO) (a0i : Int) : Option (aO × Bool) :=
  gd (ix a0.xl a0i) ((bif (nth a0.xl a0i).rH then (qI F a0 a0i).bind fun x2 => some (x2.1, x2.2) else some (a0, false)))
noncomputable def lX (F : Nat) (x3 : (aO × Bool)) (k10 : (List bQ) → Bool → Int → Int → (List Int) → Option (aO × Int)) : Nat → Int → (List bQ) → Bool → Int → Int → (List Int) → Option (aO × Int)
  | 0, _, _, _, _, _, _ => none
  | n31 + 1, v25, v26, v27, v28, v29, v30 => (bif (decide (v25 < ((x3.1.xl.length : Nat) : Int))) then gd (ix v26 v25) ((qH F (⟨v26, v27, v28, v29, v30⟩ : aO) v25).bind fun x34 => gd (inI (v25 + (1 : Int))) (lX F x3 k10 n31 (v25 + (1 : Int)) x34.1.xl x34.1.gB x34.1.dA x34.1.dO x34.1.dN)) else k10 v26 v27 v28 v29 v30)
noncomputable def qJ (F : Nat) (a0 : aO) : Option (aO × Int) :=
  (oU F a0 (0 : Int) (1 : Int)).bind fun x1 => (bif (x1 != (0 : Int)) then some (a0, x1) else (nU F a0).bind fun x3 => (bif (!x3.2) then some (x3.1, (12 : Int)) else (jn (fun (v5 : (List bQ)) (v6 : Bool) (v7 : Int) (v8 : Int) (v9 : (List Int)) => some ((⟨v5, v6, v7, v8, v9⟩ : aO), (0 : Int))) fun k10 => lX F x3 k10 F (0 : Int) x3.1.xl x3.1.gB x3.1.dA x3.1.dO x3.1.dN)))
noncomputable def pJ (F : Nat) (k12 : (List bQ) → Bool → Int → Int → (List Int) → Option (aO × Int)) (x14 : ((List Int))) : Nat → Int → (List bQ) → Bool → Int → Int → (List Int) → Option (aO × Int)
  | 0, _, _, _, _, _, _ => none
  | n37 + 1, v31, v32, v33, v34, v35, v36 => (bif (decide (v31 < ((x14.length : Nat) : Int))) then gd (ix x14 v31) ((qG F (⟨v32, v33, v34, v35, v36⟩ : aO) (nth x14 v31)).bind fun x40 => (bif (x40.2 != (0 : Int)) then some (x40.1, x40.2) else gd (inI (v31 + (1 : Int))) (pJ F k12 x14 n37 (v31 + (1 : Int)) x40.1.xl x40.1.gB x40.1.dA x40.1.dO x40.1.dN))) else k12 v32 v33 v34 v35 v36)
noncomputable def pI (F : Nat) (a1 : (List aA)) (k6 : (List bQ) → Bool → Int → Int → (List Int) → Option (aO × Int)) : Nat → Int → (List bQ) → Bool → Int → Int → (List Int) → Option (aO × Int)
  | 0, _, _, _, _, _, _ => none
  | n65 + 1, v59, v60, v61, v62, v63, v64 => (bif (decide (v59 < ((a1.length : Nat) : Int))) then gd (ix a1 v59) ((qF F (⟨v60, v61, v62, v63, v64⟩ : aO) ((nth a1 v59).xAt) ((nth a1 v59).xV)).bind fun x68 => (bif (x68.2 != (0 : Int)) then some (x68.1, x68.2) else gd (inI (v59 + (1 : Int))) (pI F a1 k6 n65 (v59 + (1 : Int)) x68.1.xl x68.1.gB x68.1.dA x68.1.dO x68.1.dN))) else k6 v60 v61 v62 v63 v64)
noncomputable def vI (F : Nat) (a0 : aO) (a1 : (List aA)) : Option (aO × Int) :=
  (jn (fun (v1 : (List bQ)) (v2 : Bool) (v3 : Int) (v4 : Int) (v5 : (List Int)) => (jn (fun (v7 : (List bQ)) (v8 : Bool) (v9 : Int) (v10 : Int) (v11 : (List Int)) => (qJ F (⟨v7, v8, v9, v10, v11⟩ : aO)).bind fun x13 => some (x13.1, x13.2)) fun k12 => (tJ F a1).bind fun x14 => pJ F k12 x14 F (0 : Int) v1 v2 v3 v4 v5)) fun k6 => pI F a1 k6 F (0 : Int) a0.xl a0.gB a0.dA a0.dO a0.dN)
noncomputable def jY (F : Nat) (x4 : ((List Int))) (x5 : (aK × Int)) (k9 : Unit → Option (Option eF × Int)) : Nat → Int → Option (Option eF × Int)
  | 0, _ => none
  | n51 + 1, v50 => (bif (decide (v50 < x5.1.bH.ak)) then (lG F x5.1.bH v50).bind fun x53 => (jn (fun (v54 : Bool) (v55 : Int) (v56 : Int) (v57 : Int) (v58 : Int) (v59 : Int) (v60 : Int) (v61 : Int) (v62 : Int) (v63 : Int) (v64 : (List aA)) => (bif (((!v54) || (v55 == (1 : Int))) || (v55 == (2 : Int))) then some (none, (2 : Int)) else gd (inI (v50 + (1 : Int))) (jY F x4 x5 k9 n51 (v50 + (1 : Int))))) fun k65 => gd (inI (x53.1 + x53.2)) (gd (0 ≤ x53.1 ∧ x53.1 ≤ (x53.1 + x53.2) ∧ (x53.1 + x53.2) ≤ ((x4.length : Nat) : Int)) ((lu F x5.1.bH (cut x4 x53.1 (x53.1 + x53.2))).bind fun x70 => k65 x70.2 x70.1.bY x70.1.lF x70.1.xL.c0 x70.1.xL.c1 x70.1.xL.c2 x70.1.xL.c3 x70.1.dh.lW x70.1.dh.xW x70.1.dh.xN x70.1.xW))) else k9 ())
noncomputable def oV (F : Nat) (a0 : aO) : Option (Option eF × Int) :=
  (kT F a0).bind fun x2 => (bif x2 then some (none, (12 : Int)) else (fM F a0).bind fun x4 => (jU F x4).bind fun x5 => (lz (((x5.2 != (0 : Int)) == false)) (uQ F x5.1.bH)).bind fun x6 => gd ((x5.2 != (0 : Int)) = false → ix x4 x6) ((bif ((x5.2 != (0 : Int)) || ((nth x4 x6) != (0 : Int))) then some (none, (2 : Int)) else (jn (fun (_ : Unit) => gd (0 ≤ x5.1.bH.ak ∧ x5.1.bH.ak ≤ x5.1.bH.ak ∧ 128 * x5.1.bH.ak ≤ 281474976710656 ∧ x5.1.bH.ak ≤ 9223372036854775807) (some ((some (⟨a0, x5.1.bH, (List.replicate x5.1.bH.ak.toNat (⟨(0 : Int), (⟨(0 : Int), (0 : Int), (⟨(0 : Int), (0 : Int), (0 : Int), (0 : Int)⟩ : V4 Int), (⟨(0 : Int), (0 : Int), (0 : Int)⟩ : jf), ([] : (List aA))⟩ : bC), ([] : (List CX))⟩ : vJ)), ([] : List Int), false⟩ : eF)), (0 : Int)))) fun k9 => jY F x4 x5 k9 F (0 : Int)))))
noncomputable def pK (F : Nat) (k12 : (List bQ) → Bool → Int → Int → (List Int) → Option (aO × Option eF × Int)) (x15 : ((List (List aA)))) : Nat → Int → (List bQ) → Bool → Int → Int → (List Int) → Option (aO × Option eF × Int)
  | 0, _, _, _, _, _, _ => none
  | n38 + 1, v32, v33, v34, v35, v36, v37 => (bif (decide (v32 < ((x15.length : Nat) : Int))) then gd (ix x15 v32) ((vI F (⟨v33, v34, v35, v36, v37⟩ : aO) (nth x15 v32)).bind fun x41 => (bif (x41.2 != (0 : Int)) then some (x41.1, none, x41.2) else gd (inI (v32 + (1 : Int))) (pK F k12 x15 n38 (v32 + (1 : Int)) x41.1.xl x41.1.gB x41.1.dA x41.1.dO x41.1.dN))) else k12 v33 v34 v35 v36 v37)
noncomputable def kN (F : Nat) (a0 : aO) : Option (aO × Option eF × Int) :=
  (kT F a0).bind fun x2 => (bif x2 then some (a0, none, (12 : Int)) else (fM F a0).bind fun x4 => (lM F x4).bind fun x5 => (bif (!x5.2) then some (a0, none, (2 : Int)) else (jn (fun (v7 : (List bQ)) (v8 : Bool) (v9 : Int) (v10 : Int) (v11 : (List Int)) => (oV F (⟨v7, v8, v9, v10, v11⟩ : aO)).bind fun x13 => Bd (x13.1) (some ((⟨v7, v8, v9, v10, v11⟩ : aO), none, x13.2)) fun o14 => some ((⟨v7, v8, v9, v10, v11⟩ : aO), (some (⟨(⟨v7, v8, v9, v10, v11⟩ : aO), o14.lT, o14.xw, o14.jB, o14.nP⟩ : eF)), x13.2)) fun k12 => (oK F x5.1).bind fun x15 => pK F k12 x15 F (0 : Int) a0.xl a0.gB a0.dA a0.dO a0.dN)))
noncomputable def sJ (F : Nat) (a0 : eF) (a1 : Int) : Option (Int) :=
  (kT F a0.xm).bind fun x1 => (bif (x1 || a0.nP) then some (12 : Int) else (bif ((decide (a1 < (0 : Int))) || (decide (((a0.xw.length : Nat) : Int) ≤ a1))) then some (1 : Int) else some (0 : Int)))
noncomputable def rC (F : Nat) (a0 : eF) (a1 : (List Int)) (a2 : Int) : Option (bC × Bool) :=
  (lG F a0.lT a2).bind fun x1 => gd (inI (x1.1 + x1.2)) (gd (0 ≤ x1.1 ∧ x1.1 ≤ (x1.1 + x1.2) ∧ (x1.1 + x1.2) ≤ ((a1.length : Nat) : Int)) ((lu F a0.lT (cut a1 x1.1 (x1.1 + x1.2))).bind fun x4 => some (x4.1, x4.2)))
noncomputable def jV (F : Nat) (a0 : eF) (k5 : (List Int) → Option (aK × Int)) : Nat → (List Int) → Int → Option (aK × Int)
  | 0, _, _ => none
  | n25 + 1, v23, v24 => (bif (decide (v24 < ((a0.xw.length : Nat) : Int))) then (jn (fun (v27 : (List Int)) => gd (inI (v24 + (1 : Int))) (jV F a0 k5 n25 v27 (v24 + (1 : Int)))) fun k28 => (rC F a0 v23 v24).bind fun x30 => (bif (x30.2 && (x30.1.bY == (2 : Int))) then (uT F v23 x30.1.xW).bind fun x32 => k28 x32 else k28 v23)) else k5 v23)
noncomputable def oL (F : Nat) (a0 : eF) : Option (aK × Int) :=
  (sJ F a0 (0 : Int)).bind fun x1 => (bif (x1 != (0 : Int)) then some ((⟨(⟨(0 : Int), (0 : Int), (0 : Int)⟩ : bg), ([] : (List aY)), ([] : (List aJ))⟩ : aK), x1) else (fM F a0.xm).bind fun x3 => (jn (fun (v4 : (List Int)) => (jU F v4).bind fun x6 => some (x6.1, x6.2)) fun k5 => jV F a0 k5 F x3 (0 : Int)))
noncomputable def iQ (F : Nat) (a0 : (List aY)) (a1 : (List aY)) (k2 : Unit → Option (Bool)) : Nat → Int → Option (Bool)
  | 0, _ => none
  | n15 + 1, v14 => (bif (decide (v14 < ((a0.length : Nat) : Int))) then gd (ix a0 v14) (gd (ix a1 v14) ((bif (!(((nth a0 v14).iF.xType == (nth a1 v14).iF.xType) && (((nth a0 v14).iF.iO == (nth a1 v14).iF.iO) && (((nth a0 v14).iF.kL == (nth a1 v14).iF.kL) && (((nth a0 v14).iF.gX == (nth a1 v14).iF.gX) && (((nth a0 v14).xUp == (nth a1 v14).xUp) && true)))))) then some false else gd (inI (v14 + (1 : Int))) (iQ F a0 a1 k2 n15 (v14 + (1 : Int)))))) else k2 ())
noncomputable def kF (F : Nat) (a0 : (List aY)) (a1 : (List aY)) : Option (Bool) :=
  (bif (((a0.length : Nat) : Int) != ((a1.length : Nat) : Int)) then some false else (jn (fun (_ : Unit) => some true) fun k2 => iQ F a0 a1 k2 F (0 : Int)))
noncomputable def iI (F : Nat) (a0 : (List aJ)) (a1 : (List aJ)) (k2 : Unit → Option (Bool)) : Nat → Int → Option (Bool)
  | 0, _ => none
  | n15 + 1, v14 => (bif (decide (v14 < ((a0.length : Nat) : Int))) then gd (ix a0 v14) (gd (ix a1 v14) ((bif (!(((nth a0 v14).xType == (nth a1 v14).xType) && (((nth a0 v14).jw == (nth a1 v14).jw) && (((nth a0 v14).jJ == (nth a1 v14).jJ) && (((nth a0 v14).mQ == (nth a1 v14).mQ) && (((nth a0 v14).nT == (nth a1 v14).nT) && (((nth a0 v14).fE == (nth a1 v14).fE) && (((nth a0 v14).gX == (nth a1 v14).gX) && (((nth a0 v14).qC == (nth a1 v14).qC) && (((nth a0 v14).lH == (nth a1 v14).lH) && (((nth a0 v14).dH.c0 == (nth a1 v14).dH.c0) && (((nth a0 v14).dH.c1 == (nth a1 v14).dH.c1) && (((nth a0 v14).dH.c2 == (nth a1 v14).dH.c2) && (((nth a0 v14).dH.c3 == (nth a1 v14).dH.c3) && true)))))))))))))) then some false else gd (inI (v14 + (1 : Int))) (iI F a0 a1 k2 n15 (v14 + (1 : Int)))))) else k2 ())
noncomputable def jT (F : Nat) (a0 : (List aJ)) (a1 : (List aJ)) : Option (Bool) :=
  (bif (((a0.length : Nat) : Int) != ((a1.length : Nat) : Int)) then some false else (jn (fun (_ : Unit) => some true) fun k2 => iI F a0 a1 k2 F (0 : Int)))
noncomputable def ug (F : Nat) (a0 : aK) (a1 : aK) : Option (Bool) :=
  (lz ((((a0.bH.ak == a1.bH.ak) && ((a0.bH.au == a1.bH.au) && ((a0.bH.ay == a1.bH.ay) && true))) == true)) (kF F a0.au a1.au)).bind fun x1 => (lz (((((a0.bH.ak == a1.bH.ak) && ((a0.bH.au == a1.bH.au) && ((a0.bH.ay == a1.bH.ay) && true))) && x1) == true)) (jT F a0.ay a1.ay)).bind fun x2 => some ((((a0.bH.ak == a1.bH.ak) && ((a0.bH.au == a1.bH.au) && ((a0.bH.ay == a1.bH.ay) && true))) && x1) && x2)
noncomputable def uh (F : Nat) (a0 : (List Int)) : Option (Bool) :=
  (lM F a0).bind fun x1 => some x1.2
noncomputable def nX (F : Nat)  : Option (Bool) :=
  (vM F ).bind fun x1 => (vK F x1 (64 : Int)).bind fun x2 => Bd (x2.1) (bif ((x2.2 != (0 : Int)) || true) then some false else none) fun o3 => (bif ((x2.2 != (0 : Int)) || false) then some false else (kN F o3).bind fun x6 => Bd (x6.2.1) (bif ((x6.2.2 != (0 : Int)) || true) then some false else none) fun o7 => (bif ((x6.2.2 != (0 : Int)) || false) then some false else (oL F (⟨x6.1, o7.lT, o7.xw, o7.jB, o7.nP⟩ : eF)).bind fun x10 => (vM F ).bind fun x11 => (tC F x11 (64 : Int)).bind fun x12 => (fM F ((⟨x6.1, o7.lT, o7.xw, o7.jB, o7.nP⟩ : eF).xm)).bind fun x13 => (lz (((x10.2 == (0 : Int)) == true)) (ug F x10.1 x12.1)).bind fun x14 => gd ((((x10.2 == (0 : Int)) && x14) && (decide ((8 : Int) < ((x13.length : Nat) : Int)))) = true → ix x13 (4 : Int)) ((lz ((((((x10.2 == (0 : Int)) && x14) && (decide ((8 : Int) < ((x13.length : Nat) : Int)))) && ((nth x13 (4 : Int)) == (1 : Int))) == true)) (uh F x13)).bind fun x16 => some (((((x10.2 == (0 : Int)) && x14) && (decide ((8 : Int) < ((x13.length : Nat) : Int)))) && ((nth x13 (4 : Int)) == (1 : Int))) && x16))))
noncomputable def ji (F : Nat) (a1 : (List bC)) (k2 : Unit → Option (Bool)) : Nat → Int → Option (Bool)
  | 0, _ => none
  | n13 + 1, v12 => (bif (decide (v12 < ((a1.length : Nat) : Int))) then gd (ix a1 v12) ((bif (decide ((600 : Int) < ((((nth a1 v12).xW).length : Nat) : Int))) then some true else gd (inI (v12 + (1 : Int))) (ji F a1 k2 n13 (v12 + (1 : Int))))) else k2 ())
noncomputable def nY (F : Nat) (a0 : aK) (a1 : (List bC)) (a2 : (List jg)) : Option (Bool) :=
  (bif ((((decide ((100 : Int) < ((a0.au.length : Nat) : Int))) || (decide ((50 : Int) < ((a0.ay.length : Nat) : Int)))) || (decide ((5 : Int) < ((a1.length : Nat) : Int)))) || (decide ((20 : Int) < ((a2.length : Nat) : Int)))) then some true else (jn (fun (_ : Unit) => some false) fun k2 => ji F a1 k2 F (0 : Int)))
noncomputable def nJ (F : Nat) (a1 : bC) (k12 : (List Int) → Option ((List Int))) : Nat → Int → (List Int) → Option ((List Int))
  | 0, _, _ => none
  | n37 + 1, v35, v36 => (bif (decide (v35 < ((a1.xW.length : Nat) : Int))) then gd (ix a1.xW v35) (gd (inI ((2 : Int) * v35)) (gd (inI ((8 : Int) + ((2 : Int) * v35))) (gd (ix v36 ((8 : Int) + ((2 : Int) * v35))) (gd (inI ((2 : Int) * v35)) (gd (inI ((8 : Int) + ((2 : Int) * v35))) (gd (inI (((8 : Int) + ((2 : Int) * v35)) + (1 : Int))) (gd (ix v36 (((8 : Int) + ((2 : Int) * v35)) + (1 : Int))) (gd (inI (v35 + (1 : Int))) (nJ F a1 k12 n37 (v35 + (1 : Int)) (jl (jl v36 ((8 : Int) + ((2 : Int) * v35)) (IntKind.u64.wrap (nth a1.xW v35).xAt)) (((8 : Int) + ((2 : Int) * v35)) + (1 : Int)) ((nth a1.xW v35).xV))))))))))) else k12 v36)
noncomputable def zh (F : Nat) (a0 : bg) (a1 : bC) : Option ((List Int)) :=
  (mY F a0 a1).bind fun x1 => (bif (!x1) then some ([] : (List Int)) else (lG F a0 (0 : Int)).bind fun x3 => gd (0 ≤ x3.2 ∧ x3.2 ≤ x3.2 ∧ 8 * x3.2 ≤ 281474976710656 ∧ x3.2 ≤ 9223372036854775807) ((lN F a1).bind fun x5 => gd (ix (List.replicate x3.2.toNat (0 : Int)) (0 : Int)) (gd (0 ≤ (1 : Int) ∧ (1 : Int) ≤ (((List.replicate x3.2.toNat (0 : Int)).length : Nat) : Int) ∧ (((List.replicate x3.2.toNat (0 : Int)).length : Nat) : Int) ≤ (((List.replicate x3.2.toNat (0 : Int)).length : Nat) : Int)) (gd ((0 + (1 : Int).toNat * 1) + min ([a1.xL.c0, a1.xL.c1, a1.xL.c2, a1.xL.c3] : List Int).length ((((List.replicate x3.2.toNat (0 : Int)).length : Nat) : Int).toNat - (1 : Int).toNat) ≤ (jl (List.replicate x3.2.toNat (0 : Int)) (0 : Int) x5).length) (gd (ix (cpy (jl (List.replicate x3.2.toNat (0 : Int)) (0 : Int) x5) (0 + (1 : Int).toNat * 1) ((((List.replicate x3.2.toNat (0 : Int)).length : Nat) : Int).toNat - (1 : Int).toNat) ([a1.xL.c0, a1.xL.c1, a1.xL.c2, a1.xL.c3] : List Int)) (5 : Int) ∧ (5 : Int) < (((List.replicate x3.2.toNat (0 : Int)).length : Nat) : Int)) (gd (ix (jl (cpy (jl (List.replicate x3.2.toNat (0 : Int)) (0 : Int) x5) (0 + (1 : Int).toNat * 1) ((((List.replicate x3.2.toNat (0 : Int)).length : Nat) : Int).toNat - (1 : Int).toNat) ([a1.xL.c0, a1.xL.c1, a1.xL.c2, a1.xL.c3] : List Int)) (5 : Int) a1.dh.xW) (6 : Int) ∧ (6 : Int) < (((List.replicate x3.2.toNat (0 : Int)).length : Nat) : Int)) ((jn (fun (v11 : (List Int)) => some v11) fun k12 => nJ F a1 k12 F (0 : Int) (jl (jl (cpy (jl (List.replicate x3.2.toNat (0 : Int)) (0 : Int) x5) (0 + (1 : Int).toNat * 1) ((((List.replicate x3.2.toNat (0 : Int)).length : Nat) : Int).toNat - (1 : Int).toNat) ([a1.xL.c0, a1.xL.c1, a1.xL.c2, a1.xL.c3] : List Int)) (5 : Int) a1.dh.xW) (6 : Int) (IntKind.u64.wrap a1.dh.xN))))))))))
noncomputable def gZ (F : Nat) (a2 : (List jg)) (k6 : (List Int) → Option ((List Int))) : Nat → Int → (List Int) → Option ((List Int))
  | 0, _, _ => none
  | n31 + 1, v29, v30 => (bif (decide (v29 < ((a2.length : Nat) : Int))) then (jn (fun (v33 : (List Int)) => gd (inI (v29 + (1 : Int))) (gZ F a2 k6 n31 (v29 + (1 : Int)) v33)) fun k34 => gd (ix a2 v29) (gd ((decide ((0 : Int) ≤ (nth a2 v29).xAt)) = true → ix a2 v29) ((bif ((decide ((0 : Int) ≤ (nth a2 v29).xAt)) && (decide ((nth a2 v29).xAt < ((v30.length : Nat) : Int)))) then gd (ix a2 v29) (gd (ix a2 v29) (gd (ix v30 ((nth a2 v29).xAt)) (k34 (jl v30 ((nth a2 v29).xAt) ((nth a2 v29).xV))))) else k34 v30)))) else k6 v30)
noncomputable def je (F : Nat) (OA : (List Int) → Option ((List Int))) (vS : (Int × Int)) (yO : ((List Int))) : Nat → Int → (List Int) → Option ((List Int))
  | 0, _, _ => none
  | n128 + 1, Eb, v127 => (bif (decide (Eb < vS.2)) then gd (inI (vS.1 + Eb)) (gd (ix yO Eb) (gd (ix v127 (vS.1 + Eb)) (gd (inI (Eb + (1 : Int))) (je F OA vS yO n128 (Eb + (1 : Int)) (jl v127 (vS.1 + Eb) (nth yO Eb)))))) else OA v127)
noncomputable def iG (F : Nat) (a0 : aK) (a1 : (List bC)) (k4 : (List Int) → Option ((List Int))) : Nat → Int → (List Int) → Option ((List Int))
  | 0, _, _ => none
  | n104 + 1, IQ, Qr => (bif (decide (IQ < ((a1.length : Nat) : Int))) then (jn (fun (Z5 : (List Int)) => gd (inI (IQ + (1 : Int))) (iG F a0 a1 k4 n104 (IQ + (1 : Int)) Z5)) fun OA => (lG F a0.bH IQ).bind fun vS => gd (ix a1 IQ) ((zh F a0.bH (nth a1 IQ)).bind fun yO => gd (((((yO.length : Nat) : Int) != vS.2) || (vS.2 == (0 : Int))) = false → inI (vS.1 + vS.2)) ((bif (((((yO.length : Nat) : Int) != vS.2) || (vS.2 == (0 : Int))) || (decide (((Qr.length : Nat) : Int) < (vS.1 + vS.2)))) then OA Qr else je F OA vS yO F (0 : Int) Qr)))) else k4 Qr)
noncomputable def ny (F : Nat) (a0 : aK) (a1 : (List bC)) (a2 : (List jg)) : Option ((List Int)) :=
  (pX F a0 (3 : Int)).bind fun x1 => gd ((([] : List Int).length + x1.length) * 8 ≤ 140737488355328) ((jn (fun (v3 : (List Int)) => (jn (fun (v5 : (List Int)) => some v5) fun k6 => gZ F a2 k6 F (0 : Int) v3)) fun k4 => iG F a0 a1 k4 F (0 : Int) (([] : List Int) ++ x1)))
noncomputable def lU (F : Nat) (x13 : ((List Int))) (x23 : ((List Int))) (k27 : Unit → Option (Bool)) : Nat → Int → Option (Bool)
  | 0, _ => none
  | n42 + 1, v41 => gd (inI (((x13.length : Nat) : Int) - (8 : Int))) ((bif (decide (v41 < (((x13.length : Nat) : Int) - (8 : Int)))) then gd (ix x13 v41) (gd (ix x23 v41) ((bif ((nth x13 v41) != (nth x23 v41)) then some false else gd (inI (v41 + (1 : Int))) (lU F x13 x23 k27 n42 (v41 + (1 : Int)))))) else k27 ()))
noncomputable def kG (F : Nat) (a3 : Int) (k22 : Bool → Int → Int → (List Int) → (List bQ) → Option (Bool)) : Nat → Int → Bool → Int → Int → (List Int) → (List bQ) → Option (Bool)
  | 0, _, _, _, _, _, _ => none
  | n75 + 1, v69, v70, v71, v72, v73, v74 => (bif (decide (v69 < a3)) then (kN F (⟨v74, v70, v71, v72, v73⟩ : aO)).bind fun x77 => Bd (x77.2.1) (bif (x77.2.2 != (0 : Int)) then some false else gd (inI (v69 + (1 : Int))) (kG F a3 k22 n75 (v69 + (1 : Int)) x77.1.gB x77.1.dA x77.1.dO x77.1.dN x77.1.xl)) fun o78 => (bif (x77.2.2 != (0 : Int)) then some false else gd (inI (v69 + (1 : Int))) (kG F a3 k22 n75 (v69 + (1 : Int)) x77.1.gB x77.1.dA x77.1.dO x77.1.dN x77.1.xl)) else k22 v70 v71 v72 v73 v74)
noncomputable def gQ (F : Nat) (x84 : ((List Int))) (x94 : ((List Int))) (k98 : Unit → Option (Bool)) : Nat → Int → Option (Bool)
  | 0, _ => none
  | n113 + 1, wR => gd (inI (((x84.length : Nat) : Int) - (8 : Int))) ((bif (decide (wR < (((x84.length : Nat) : Int) - (8 : Int)))) then gd (ix x84 wR) (gd (ix x94 wR) ((bif ((nth x84 wR) != (nth x94 wR)) then some false else gd (inI (wR + (1 : Int))) (gQ F x84 x94 k98 n113 (wR + (1 : Int)))))) else k98 ()))
noncomputable def gK (F : Nat) (a3 : Int) (k93 : Bool → Int → Int → (List Int) → (List bQ) → Option (Bool)) : Nat → Int → Bool → Int → Int → (List Int) → (List bQ) → Option (Bool)
  | 0, _, _, _, _, _, _ => none
  | n151 + 1, v145, v146, Vm, v148, Vo, Vp => (bif (decide (v145 < a3)) then (kN F (⟨Vp, v146, Vm, v148, Vo⟩ : aO)).bind fun x153 => Bd (x153.2.1) (bif (x153.2.2 != (0 : Int)) then some false else gd (inI (v145 + (1 : Int))) (gK F a3 k93 n151 (v145 + (1 : Int)) x153.1.gB x153.1.dA x153.1.dO x153.1.dN x153.1.xl)) fun acM => (bif (x153.2.2 != (0 : Int)) then some false else gd (inI (v145 + (1 : Int))) (gK F a3 k93 n151 (v145 + (1 : Int)) x153.1.gB x153.1.dA x153.1.dO x153.1.dN x153.1.xl)) else k93 v146 Vm v148 Vo Vp)
noncomputable def lJ (F : Nat) (a0 : aK) (a1 : (List bC)) (a2 : (List jg)) (a3 : Int) : Option (Bool) :=
  (nX F ).bind fun x1 => (bif (!x1) then some false else (nY F a0 a1 a2).bind fun x3 => (bif ((x3 || (decide (a3 < (1 : Int)))) || (decide ((4 : Int) < a3))) then some true else (ny F a0 a1 a2).bind fun x5 => (qm F x5).bind fun x6 => Bd (x6.1) (bif ((x6.2 != (0 : Int)) || true) then some (x6.2 == (1 : Int)) else none) fun o7 => (bif ((x6.2 != (0 : Int)) || false) then some (x6.2 == (1 : Int)) else (kN F o7).bind fun x10 => Bd (x10.2.1) (bif ((x10.2.2 != (0 : Int)) || true) then some (x10.2.2 == (2 : Int)) else (fM F x10.1).bind fun x13 => (bif (decide (((x13.length : Nat) : Int) < (16 : Int))) then some false else gd (ix x13 (4 : Int)) ((bif (decide ((2305843009213693952 : Int) < (nth x13 (4 : Int)))) then some true else (jn (fun (v17 : Bool) (v18 : Int) (v19 : Int) (v20 : (List Int)) (v21 : (List bQ)) => (fM F (⟨v21, v17, v18, v19, v20⟩ : aO)).bind fun x23 => gd (((((x13.length : Nat) : Int) != ((x23.length : Nat) : Int)) || (decide (((x13.length : Nat) : Int) < (16 : Int)))) = false → ix x23 (4 : Int)) (gd (((((x13.length : Nat) : Int) != ((x23.length : Nat) : Int)) || (decide (((x13.length : Nat) : Int) < (16 : Int)))) = false → ix x13 (4 : Int)) ((bif (((((x13.length : Nat) : Int) != ((x23.length : Nat) : Int)) || (decide (((x13.length : Nat) : Int) < (16 : Int)))) || ((nth x23 (4 : Int)) != (IntKind.u64.wrap ((nth x13 (4 : Int)) + (IntKind.u64.wrap a3))))) then some false else (jn (fun (_ : Unit) => some true) fun k27 => lU F x13 x23 k27 F (8 : Int)))))) fun k22 => kG F a3 k22 F (0 : Int) x10.1.gB x10.1.dA x10.1.dO x10.1.dN x10.1.xl))))) fun o11 => (bif ((x10.2.2 != (0 : Int)) || false) then some (x10.2.2 == (2 : Int)) else (fM F x10.1).bind fun x84 => (bif (decide (((x84.length : Nat) : Int) < (16 : Int))) then some false else gd (ix x84 (4 : Int)) ((bif (decide ((2305843009213693952 : Int) < (nth x84 (4 : Int)))) then some true else (jn (fun (v88 : Bool) (v89 : Int) (v90 : Int) (v91 : (List Int)) (v92 : (List bQ)) => (fM F (⟨v92, v88, v89, v90, v91⟩ : aO)).bind fun x94 => gd (((((x84.length : Nat) : Int) != ((x94.length : Nat) : Int)) || (decide (((x84.length : Nat) : Int) < (16 : Int)))) = false → ix x94 (4 : Int)) (gd (((((x84.length : Nat) : Int) != ((x94.length : Nat) : Int)) || (decide (((x84.length : Nat) : Int) < (16 : Int)))) = false → ix x84 (4 : Int)) ((bif (((((x84.length : Nat) : Int) != ((x94.length : Nat) : Int)) || (decide (((x84.length : Nat) : Int) < (16 : Int)))) || ((nth x94 (4 : Int)) != (IntKind.u64.wrap ((nth x84 (4 : Int)) + (IntKind.u64.wrap a3))))) then some false else (jn (fun (_ : Unit) => some true) fun k98 => gQ F x84 x94 k98 F (8 : Int)))))) fun k93 => gK F a3 k93 F (0 : Int) x10.1.gB x10.1.dA x10.1.dO x10.1.dN x10.1.xl))))))))
theorem Z7 : SE Tryz.prog 23 [.int, .int, .int] := ⟨by kernel_rfl, by kernel_rfl, by kernel_rfl⟩
theorem Z8 : SE Tryz.prog 52 [.int, .int, .int, .int] := ⟨by kernel_rfl, by kernel_rfl, by kernel_rfl⟩
theorem Z9 : SE Tryz.prog 54 [.int, .int, .int] := ⟨by kernel_rfl, by kernel_rfl, by kernel_rfl⟩
theorem OB : SE Tryz.prog 104 [.int, .int, .int, .int, .int, .int, .int, .bool, .int, .int, .int, .int, .int] := ⟨by kernel_rfl, by kernel_rfl, by kernel_rfl⟩
theorem YQ : SE Tryz.prog 109 [.int, .int, .int, .int] := ⟨by kernel_rfl, by kernel_rfl, by kernel_rfl⟩
theorem YR : SE Tryz.prog 111 [.int, .int, .int, .int, .int] := ⟨by kernel_rfl, by kernel_rfl, by kernel_rfl⟩
end
end Go.V.P
