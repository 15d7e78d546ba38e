/- The V-layer, part R: contracts of functions that are handed objects, or make some; guards that are known. No premises. -/
import Derived.Test.YteocabneaenpeaaGreatVQ
set_option linter.unusedVariables false
set_option linter.unusedSimpArgs false
namespace Go.V
open Go.RowKit

/-- What is said of one that may be none. -/
def optQ {α : Type} (o : Option α) (A : Prop) (B : α → Prop) : Prop := match o with
  | none => A
  | some x => B x
def optc {α ρ : Type} (o : Option α) (A : Option ρ) (B : α → Option ρ) : Option ρ := match o with
  | none => A
  | some x => B x
theorem of_optc {α ρ : Type} {o : Option α} {A : Option ρ} {B : α → Option ρ} {r : ρ} (h : optc o A B = some r) : (o = none ∧ A = some r) ∨ ∃ x, o = some x ∧ B x = some r := by
  cases o with
  | none => exact .inl ⟨rfl, h⟩
  | some x => exact .inr ⟨x, rfl, h⟩
theorem AC_mono {P : Program} {f : FuncId} {args : List S} {st : Store} {Q Q' : S → Store → Prop} (h : AC P f args st Q) (hq : ∀ x st', Q x st' → Q' x st') : AC P f args st Q' := by
  intro w E I0 i0 fix fx β vs C hok hsz hrel
  refine (h w E I0 i0 fix fx β vs hok hsz hrel).mono ?_
  rintro e w' ⟨v, x, st', β', he, hok', hr, hq'⟩
  exact ⟨v, x, st', β', he, hok', hr, hq x st' hq'⟩
theorem AC_none {P : Program} {f : FuncId} {args : List S} {st : Store} {α : Type} {o : Option α} {A : S → Store → Prop} {B : S → Store → α → Prop} (h : o = none) (p : AC P f args st (fun x s => optQ o (A x s) (B x s))) : AC P f args st A := by
  subst h
  exact p
theorem AC_some {P : Program} {f : FuncId} {args : List S} {st : Store} {α : Type} {o : Option α} {y : α} {A : S → Store → Prop} {B : S → Store → α → Prop} (h : o = some y) (p : AC P f args st (fun x s => optQ o (A x s) (B x s))) : AC P f args st (fun x s => B x s y) := by
  subst h
  exact p

theorem does_callO {C : Ctx} {s : St} {d : Option Nat} {P : Program} {f : FuncId} {xs : List Operand} {args : List S} {st st' : Store} {X : S} (m : List (Nat × Nat)) (k : Bool) (hP : C.P = P) (hAC : AC P f args st (fun x s' => x = X ∧ leSt s' st'))
    (hx : xs.map (fun x => mapS nilT (s.ev x)) = args.map (mapS (renT m))) (hst : leSt s.st (renSt m st)) (hinj : injB m (st ++ st') = true) (hcl : st'.all (fun p => p.2.pure || p.2.cs.all (inT st')) = true) (hnew : newB s m st st' = true)
    (hrest : (rest (renSt m st) s.st).all (fun p => p.2.pure || p.2.cs.all (stayM m st st')) = true) (hX : allS (inT st') X = true) (hk0 : k = true → st = []) (hfix : st.all (fun p => Nat.blt (rn m p.1) 100000 || !(Nat.blt p.1 100000)) = true) :
    Does C (.call f xs) d s k (· = (⟨mapE (movM m st st') s.env, renSt m st' ++ rest (renSt m st) s.st⟩ : St).put d (mapS (renT m) X)) :=
  does_callM m k hP (AC_mono hAC fun x s' h => ⟨h.1, fun r g hg => leSt_get h.2 r g hg⟩) hx hst hinj hcl hnew hrest hX hk0 hfix

section
variable {C : Ctx} {s : St} {K : St → Prop} {l : List VOp} {d : Option Nat}
/-- Guards that are known. -/
theorem W_gD {i : VI} {gd : Nat} {want b k : Bool} {s' : St} (hg : eget s.env gd = .one (.v (.bool b))) (hb : b = want) (h1 : Does C i d s k (· = s')) (h : WL C l s' K) : WL C (⟨i, d, some (some gd, want)⟩ :: l) s K :=
  W_any true (fun ops o hgd β a w hR => by
    obtain ⟨j, hj, hw⟩ := guard_some hgd (yielded ops a.tmps)
    rw [hw, yielded_of hR hj hg]
    subst hb
    simp) (fun _ => ⟨_, _, h1, fun s' hs => hs ▸ h⟩) (fun h => by cases h)
theorem W_gF {i : VI} {gd : Nat} {want b : Bool} (hg : eget s.env gd = .one (.v (.bool b))) (hb : b = !want) (h : WL C l (s.put d (.tup [])) K) : WL C (⟨i, d, some (some gd, want)⟩ :: l) s K :=
  W_any false (fun ops o hgd β a w hR => by
    obtain ⟨j, hj, hw⟩ := guard_some hgd (yielded ops a.tmps)
    rw [hw, yielded_of hR hj hg]
    subst hb
    cases want <;> rfl) (fun h => by cases h) (fun _ => h)
theorem does_pickT {c x y : Operand} {b : Bool} {p : S} (hb : b = true) (hc : s.ev c = .one (.v (.bool b))) (hx : s.ev x = p) : Quiet C (.pick c x y) s p := by
  have := does_pick (C := C) hc hx (y := y) rfl
  subst hb
  exact this
theorem does_pickF {c x y : Operand} {b : Bool} {q : S} (hb : b = false) (hc : s.ev c = .one (.v (.bool b))) (hy : s.ev y = q) : Quiet C (.pick c x y) s q := by
  have := does_pick (C := C) hc (x := x) rfl hy
  subst hb
  exact this
end
/- Short words for what is printed. -/
@[simp] abbrev t (n : Nat) : Operand := .tmp n
@[simp] abbrev ci (n : Nat) : Operand := .const (.int .i64 n)
@[simp] abbrev cb (b : Bool) : Operand := .const (.bool b)
@[simp] abbrev cn : Operand := .const (.slice none 0 0)
@[simp] abbrev cp : Operand := .const (.pointer none)
@[simp] abbrev zu : T := .v (.int .u64 0)
@[simp] abbrev zi : T := .v (.int .i64 0)
@[simp] abbrev zb : T := .v (.bool false)
@[simp] abbrev w (d x : Nat) : VOp := ⟨.mv (.tmp x), some d, none⟩
@[simp] abbrev o (i : VI) (d : Nat) : VOp := ⟨i, some d, none⟩
@[simp] abbrev n_ (i : VI) : VOp := ⟨i, none, none⟩
@[simp] abbrev g_ (i : VI) (d g : Nat) (b : Bool) : VOp := ⟨i, some d, some (some g, b)⟩
theorem qt {K : St → Prop} {Q : Exit → St → Prop} {s : St} : QThen K Q .ret s = Q .ret s := rfl
theorem qn {K : St → Prop} {Q : Exit → St → Prop} {s : St} : QThen K Q .normal s = K s := rfl
theorem qb {n : Nat} {Q : Exit → St → Prop} {s : St} : QBlock n Q .ret s = Q .ret s := rfl
theorem bss (b : Bool) : (b == b) = true := by simp
theorem ctt {α : Type} (x y : α) : (bif true then x else y) = x := by simp
theorem WM {C : Ctx} {s : St} {K : St → Prop} {l : List VOp} {d : Option Nat} {x : Operand} (h : WL C l (s.put d (s.ev x)) K) : WL C (⟨.mv x, d, none⟩ :: l) s K := WQ (does_mv rfl) h
theorem tf (b : Bool) : b = true ∨ b = false := by cases b <;> simp
theorem ix_setn {α : Type} {l : List α} {i j : Int} {v : α} : ix (setn l i v) j ↔ ix l j := by unfold ix; rw [setn_length]
theorem setn_setn {α : Type} {l : List α} {i : Int} {v u : α} : setn (setn l i u) i v = setn l i v := by simp [setn]
section
variable {C : Ctx} {s : St} {d : Option Nat} {α : Type} [Inhabited α] {e : α → List T} {k : Nat}
theorem nth_setn {l : List α} {i : Int} {v : α} (h : ix l i) : nth (setn l i v) i = v := by
  have : i.toNat < l.length := by unfold ix at h; omega
  simp [nth, setn, List.getD_eq_getElem?_getD, this]
theorem does_store_rgS {n r off : Nat} {x y : Operand} {l : List α} {p : Bool} {z : S} {ys : List T} {u : α} {i : Int} (hx : s.ev x = .one (.ptr r off)) (hg : sget s.st r = some ⟨p, flat e (setn l i u)⟩) (hk : ∀ x, (e x).length = k) (hi : ix l i) (j : Nat) (ho : off = i.toNat * k + j)
    (hy : s.ev y = z) (hc : z.cells s.st = some ys) (hn : ys.length = n) (h0 : n ≠ 0) (v : α) (hv : e v = splice (e u) j ys) (hj : j + n ≤ k) (hp : allPure ys = true) :
    Does C (.store n x y) d s false (· = (⟨s.env, sset s.st r ⟨p, flat e (setn l i v)⟩⟩ : St).put d (.tup [])) :=
  (does_store_rgF hx hg hk (ix_setn.2 hi) j ho hy hc hn h0 v (by rw [nth_setn hi]; exact hv) hj hp).cast (by rw [setn_setn])
end
theorem Does.le {C : Ctx} {i : VI} {d : Option Nat} {s s1 s2 : St} {b : Bool} (h : Does C i d s b (· = s1)) (hle : LeB s1 s2) : Does C i d s b (· = s2) :=
  fun o ho hd hn β a w hR next Q hK => h o ho hd hn β a w hR next Q fun s' β' a' w' hs hR' hk => by
    subst hs
    obtain ⟨β'', h2⟩ := hle C β' a' w' hR'
    exact hK _ β'' a' w' rfl h2 hk
/-- Of such as hold nil slices. -/
theorem does_mkN {C : Ctx} {s : St} {α : Type} {e : α → List T} {k t ety bytes r : Nat} {zs : List T} {x y : Operand} {n c : Int} (z : α) (hx : s.ev x = .one (.v (.int .i64 n))) (hy : s.ev y = .one (.v (.int .i64 c))) (hz : zs.map nilT = e z) (hzs : allPure zs = true) (he : ∀ x, allPure (e x) = true) (h0 : 0 ≤ n) (h1 : n ≤ c) (h2 : bytes * c ≤ 2 ^ 48) (h3 : c ≤ 9223372036854775807) (hf : s.fresh r = true) :
    Does C (.mk t ety k bytes zs x y) (some r) s true (· = (⟨s.env, (r, ⟨true, flat e (List.replicate n.toNat z)⟩) :: s.st⟩ : St).put (some r) (.one (.own r 0 (List.replicate n.toNat z).length (some (k, ety))))) := by
  have h := does_mk (C := C) (t := t) (e := ety) (k := k) hx hy h0 h1 h2 h3 hf (zs := zs) (List.all_eq_true.2 fun t ht => by
    have := allPure_mem hzs t ht
    rw [this, T.has_pure this]; rfl)
  refine (h.le (Le_nilR (q := r) (sget_cons_same _ _ _)).b).cast ?_
  have : (List.replicate n.toNat zs).flatten.map nilT = flat e (List.replicate n.toNat z) := by
    rw [← flat_replicate, ← hz, List.map_flatten, List.map_replicate]
  simp [St.put, eput, sset, this]
theorem dynq {n : Nat} {i : Int} (Pq : Nat → Prop) (h : 0 ≤ i ∧ i < (n : Nat)) (hl : ∀ j, j < n → Pq j) : Pq i.toNat := hl _ (by omega)
end Go.V
