/- The V-layer, part G: the moves of a walk, by short names. No premises. -/
import Derived.Test.YteocabneaenpeaaGreatVD
set_option linter.unusedVariables false
set_option linter.unusedSimpArgs false
namespace Go.V
open Go.RowKit

/-- What a function must come to at its end. -/
def Fin (rs : List RV) (Q : S → Store → Prop) : Exit → St → Prop := fun e s => (e = .normal ∨ e = .ret) ∧ ∃ xs, resL s rs xs ∧ Q (resOf xs) s.st
theorem fin_mk {rs : List RV} {Q : S → Store → Prop} {s : St} {xs : List S} (h : resL s rs xs) (hq : Q (resOf xs) s.st) : Fin rs Q .ret s := ⟨.inr rfl, xs, h, hq⟩
theorem fin_end {rs : List RV} {Q : S → Store → Prop} {s : St} {xs : List S} (h : resL s rs xs) (hq : Q (resOf xs) s.st) : Fin rs Q .normal s := ⟨.inl rfl, xs, h, hq⟩

theorem AC_drop {P : Program} {f : FuncId} {args : List S} {st : Store} {Q : S → Store → Prop} (h : AC P f args st Q) (hp : ∀ x st', Q x st' → x.isPure = true) : AC P f args st (fun x st' => (∃ st0, Q x st0) ∧ st' = []) := by
  intro w E I0 i0 fix fx β vs C hok hsz hrel
  refine (h w E I0 i0 fix fx β vs hok hsz hrel).mono ?_
  rintro e w' ⟨v, x, st', β', rfl, hok', hr, hq⟩
  refine ⟨v, x, [], β', rfl, ⟨hok'.kept, fun r g h => (by cases h), fun r r' b h => (by cases h), fun r b h => (by cases h), fun r b h => (by cases h)⟩, RelS.pure (fun b hb => ?_) hr (hp x st' hq), ⟨st', hq⟩, rfl⟩
  rcases hb with h0 | ⟨h1, h2, _⟩
  · exact .inl h0
  · exact .inr ⟨h1, h2, fun r hr => by cases hr⟩
/-- Plain in, plain out: what it comes to is X. -/
def PC (P : Program) (f : FuncId) (args : List S) (X : S) : Prop := AC P f args [] (fun x st' => x = X ∧ st' = [])
theorem PC_go {P : Program} {f : FuncId} {n : Nat} {vc : VCode} {rs : List RV} {args : List S} {X : S} (hf : Fits P f n vc rs) (hn : args.length = n) (hX : X.isPure = true)
    (h : ∀ C : Ctx, C.P = P → EV C vc (Fin rs (fun x _ => x = X)) ⟨enum 0 args, []⟩) : PC P f args X := by
  have := AC_drop (AC_intro (Q := fun x _ => x = X) hf hn h) (fun x _ hx => by subst hx; exact hX)
  intro w E I0 i0 fix fx β vs C hok hsz hrel
  refine (this w E I0 i0 fix fx β vs hok hsz hrel).mono ?_
  rintro e w' ⟨v, x, st', β', rfl, hok', hr, ⟨st0, hx⟩, hst⟩
  exact ⟨v, x, st', β', rfl, hok', hr, hx, hst⟩
def nmem : List Nat → Nat → Bool
  | [], _ => false
  | a :: l, k => bif a == k then true else nmem l k
def nerase : List Nat → Nat → List Nat
  | [], _ => []
  | a :: l, k => bif a == k then l else a :: nerase l k
theorem nmem_nerase {l : List Nat} {j k : Nat} (h : nmem l k = false) : nmem (nerase l j) k = false := by
  induction l with
  | nil => rfl
  | cons a l ih =>
    simp only [nmem] at h
    cases ha : a == k with
    | true => rw [ha] at h; cases h
    | false =>
      rw [ha] at h
      simp only [nerase]
      cases a == j
      · simp only [cond_false, nmem, ha]; exact ih h
      · exact h
/-- Slots that count; the others are let go. -/
def keepE (ks : List Nat) : Env → Env
  | [] => []
  | (i, x) :: l => bif nmem ks i then (i, x) :: keepE (nerase ks i) l else keepE ks l
theorem keepE_get (e : Env) (ks : List Nat) (i : Nat) : eget (keepE ks e) i = eget e i ∨ eget (keepE ks e) i = .one .dead := by
  induction e generalizing ks with
  | nil => exact .inr rfl
  | cons p l ih =>
    obtain ⟨k, x⟩ := p
    simp only [keepE]
    cases hk : nmem ks k with
    | true =>
      simp only [cond_true, eget]
      cases hb : k == i with
      | true => exact .inl rfl
      | false => exact ih _
    | false =>
      simp only [cond_false, eget]
      cases hb : k == i with
      | true =>
        have hki : k = i := eq_of_beq hb
        subst hki
        refine .inr ?_
        clear ih
        -- no such slot is kept
        have : ∀ (l : Env) (ks : List Nat), nmem ks k = false → eget (keepE ks l) k = .one .dead := by
          intro l
          induction l with
          | nil => intro ks _; rfl
          | cons q l ih =>
            intro ks hks
            obtain ⟨j, y⟩ := q
            simp only [keepE]
            cases hj : nmem ks j with
            | true =>
              have hjk : (j == k) = false := by
                cases hjk : j == k with
                | false => rfl
                | true => have := eq_of_beq hjk; subst this; rw [hj] at hks; cases hks
              simp only [cond_true, eget, hjk, cond_false]
              exact ih _ (nmem_nerase hks)
            | false => simp only [cond_false]; exact ih ks hks
        exact this l ks hk
      | false => exact ih _
def keepS (ks : List Nat) (s : St) : St := ⟨keepE ks s.env, s.st⟩
theorem R.keep {C : Ctx} {s : St} {β : Nat → Option Nat} {a : Act} {w : World} (ks : List Nat) (hR : R C s β a w) : R C (keepS ks s) β a w :=
  ⟨hR.ok, hR.defers, hR.size, fun i => by
    rcases keepE_get s.env ks i with h | h
    · show RelS w s.st β _ (eget (keepE ks s.env) i) _; rw [h]; exact hR.env i
    · show RelS w s.st β _ (eget (keepE ks s.env) i) _; rw [h]; exact .one trivial⟩
/-- Regions that count. -/
def keepR (rs : List Nat) : Store → Store
  | [] => []
  | (r, g) :: l => bif nmem rs r then (r, g) :: keepR rs l else keepR rs l
theorem keepR_get (rs : List Nat) : ∀ (st : Store) (r : Nat) (g : Reg), sget (keepR rs st) r = some g → sget st r = some g ∨ nmem rs r = false
  | [], r, g, h => by cases h
  | (k, x) :: l, r, g, h => by
    simp only [keepR] at h
    cases hk : nmem rs k with
    | true =>
      rw [hk] at h
      simp only [cond_true, sget] at h ⊢
      cases hb : k == r with
      | true => rw [hb] at h; exact .inl h
      | false => rw [hb] at h; exact keepR_get rs l r g h
    | false =>
      rw [hk] at h
      simp only [cond_false] at h
      simp only [sget]
      cases hb : k == r with
      | true => have := eq_of_beq hb; subst this; exact .inr hk
      | false => exact keepR_get rs l r g h
theorem keepR_none (rs : List Nat) : ∀ (st : Store) (r : Nat), nmem rs r = false → sget (keepR rs st) r = none
  | [], r, _ => rfl
  | (k, x) :: l, r, h => by
    simp only [keepR]
    cases hk : nmem rs k with
    | true =>
      simp only [cond_true, sget]
      cases hb : k == r with
      | true => have := eq_of_beq hb; subst this; rw [hk] at h; cases h
      | false => exact keepR_none rs l r h
    | false => exact keepR_none rs l r h
theorem R.keepR {C : Ctx} {s : St} {β : Nat → Option Nat} {a : Act} {w : World} (rs : List Nat) (hR : R C s β a w) : R C ⟨s.env, keepR rs s.st⟩ β a w :=
  hR.drop fun r g h => by
    rcases keepR_get rs s.st r g h with h1 | h1
    · exact h1
    · rw [keepR_none rs s.st r h1] at h; cases h
def keepB (ks rs : List Nat) (s : St) : St := ⟨keepE ks s.env, keepR rs s.st⟩
theorem E_keep (ks rs : List Nat) {C : Ctx} {v : VCode} {Q : Exit → St → Prop} {s : St} (h : EV C v Q (keepB ks rs s)) : EV C v Q s :=
  fun c hc β a w hR => h c hc β a w ((hR.keepR rs).keep ks)

section
variable {C : Ctx} {s : St} {K : St → Prop} {l : List VOp} {d : Option Nat}
/-- A call, plain in and out. -/
theorem does_call1 {P : Program} {f : FuncId} {xs : List Operand} {ps : List S} {X : S} (hP : C.P = P) (hAC : PC P f ps X) (hx : xs.map s.ev = ps) (hp : S.isPure.pureL ps = true) (hX : X.isPure = true) :
    Does C (.call f xs) d s true (· = s.put d X) := by
  subst hP
  intro o ho hd hn β a w hR next R' hK
  exact does_call hx hp hAC (fun x hx => by subst hx; exact hX) o ho hd hn β a w hR next R' (fun s' β' a' w' ⟨x, hx, hs'⟩ => hK s' β' a' w' (by rw [hs', hx]))
/-- A guard that is not known, at whatever gives a value and no more. -/
theorem W_lazyD {i : VI} {gd : Nat} {want b k : Bool} {x : S} (hg : eget s.env gd = .one (.v (.bool b))) (h1 : b = want → Does C i d s k (· = s.put d x)) (h2 : WL C l (s.put d (bif b == want then x else .tup [])) K) : WL C (⟨i, d, some (some gd, want)⟩ :: l) s K :=
  W_any (b == want) (fun ops o hgd β a w hR => by
    obtain ⟨j, hj, hw⟩ := guard_some hgd (yielded ops a.tmps)
    rw [hw, yielded_of hR hj hg]
    simp) (fun h => ⟨_, _, h1 (by simpa using h), fun s' hs' => by subst hs'; rw [h] at h2; exact h2⟩) (fun h => by rw [h] at h2; exact h2)
/-- '&&' and '||'. -/
theorem does_and {c x y : Operand} {b u : Bool} (hc : s.ev c = .one (.v (.bool b))) (hx : s.ev x = bif b == true then .one (.v (.bool u)) else .tup []) (hy : s.ev y = .one (.v (.bool false))) : Quiet C (.pick c x y) s (.one (.v (.bool (b && u)))) := by
  have := does_pick (C := C) hc hx hy
  cases b <;> exact this
theorem does_or {c x y : Operand} {b u : Bool} (hc : s.ev c = .one (.v (.bool b))) (hx : s.ev x = .one (.v (.bool true))) (hy : s.ev y = bif b == false then .one (.v (.bool u)) else .tup []) : Quiet C (.pick c x y) s (.one (.v (.bool (b || u)))) := by
  have := does_pick (C := C) hc hx hy
  cases b <;> exact this
end

section
variable {C : Ctx} {l : List DOp} {qs : List Nat} {z : Bool} {done : List Bool} {s : St} {K : St → Prop}
theorem X1 {i : Nat} (hr : readyD l done = [i]) (h : XStep C l qs z done s K i) : XW C l qs z done s K :=
  X_step hr (by simp) fun j hj => by
    have : j = i := by simpa using hj
    subst this; exact h
theorem X2 {i j : Nat} (hr : readyD l done = [i, j]) (h1 : XStep C l qs z done s K i) (h2 : XStep C l qs z done s K j) : XW C l qs z done s K :=
  X_step hr (by simp) fun k hk => by
    have : k = i ∨ k = j := by simpa using hk
    rcases this with rfl | rfl
    · exact h1
    · exact h2
/-- One that keeps what was there. -/
theorem XK {i : Nat} {vi : VI} {d : Option Nat} {ws : List Nat} {s' : St} (hv : l[i]? = some (⟨vi, d, none⟩, ws)) (hx : Does C vi d s true (· = s')) (h : XW C l qs true (done.set i true) s' K) : XStep C l qs true done s K i :=
  XS hv hx (fun _ => ⟨rfl, rfl⟩) fun _ hs => hs ▸ h
/-- One that comes behind all that are taken first. -/
theorem XT {i : Nat} {vi : VI} {d : Option Nat} {ws : List Nat} {k : Bool} {s' : St} (hv : l[i]? = some (⟨vi, d, none⟩, ws)) (hl : looseB l qs done i = false) (hx : Does C vi d s k (· = s')) (h : XW C l qs (z && k) (done.set i true) s' K) : XStep C l qs z done s K i :=
  XS hv hx (fun h => by rw [hl] at h; cases h) fun _ hs => hs ▸ h
theorem XK_lazy {i : Nat} {vi : VI} {d : Option Nat} {gd : Nat} {want b : Bool} {ws : List Nat} {x : S} (hv : l[i]? = some (⟨vi, d, some (some gd, want)⟩, ws)) (hg : eget s.env gd = .one (.v (.bool b))) (hx : b = want → Does C vi d s true (· = s.put d x))
    (h : XW C l qs true (done.set i true) (s.put d (bif b == want then x else .tup [])) K) : XStep C l qs true done s K i :=
  ⟨_, ws, hv, b == want, fun ops o hgd β a w hR => by
    obtain ⟨j, hj, hw⟩ := guard_some hgd (yielded ops a.tmps)
    rw [hw, yielded_of hR hj hg]
    simp, fun hb => ⟨true, _, hx (by simpa using hb), fun _ => ⟨rfl, rfl⟩, fun s' hs' => by subst hs'; rw [hb] at h; exact h⟩, fun hb => ⟨fun _ => rfl, by rw [hb] at h; exact h⟩⟩
end

theorem AC_go {P : Program} {f : FuncId} {n : Nat} {vc : VCode} {rs : List RV} {args : List S} {st : Store} {Q : S → Store → Prop} (hf : Fits P f n vc rs) (hn : args.length = n)
    (h : ∀ C : Ctx, C.P = P → EV C vc (Fin rs Q) ⟨enum 0 args, st⟩) : AC P f args st Q := AC_intro hf hn h

theorem at_whole {s : St} {r : Nat} {g : Reg} (hg : sget s.st r = some g) (hn : g.cs ≠ []) : At s (.one (.ptr r 0)) g.cs := .ptr hg (fun j t h => by simpa using h) hn
/-- Plain numbers and truths. -/
abbrev ti (n : Int) : T := .v (.int .i64 n)
abbrev tu (n : Int) : T := .v (.int .u64 n)
abbrev tb (b : Bool) : T := .v (.bool b)
abbrev si (n : Int) : S := .one (.v (.int .i64 n))
abbrev su (n : Int) : S := .one (.v (.int .u64 n))
abbrev sb (b : Bool) : S := .one (.v (.bool b))
attribute [simp] fillT fillOK killE killS killSt killG killT killS.killL T.has T.isPure allPure nmem nerase St.put eput St.ev eget ofConst ofCell enum keepE keepR keepB keepS sget sset sdel splice S.cells
end Go.V
