/- The V-layer, part K: structs and arrays compared. No premises. -/
import Derived.Test.YteocabneaenpeaaGreatVJ
import Derived.ChangeKeysEq
set_option linter.unusedVariables false
set_option linter.unusedSimpArgs false
namespace Go.V
open Go.RowKit

inductive Kd where
  | int
  | bool
  | str
  deriving DecidableEq
def kindOK : Kd → Value → Value → Prop
  | .int, .int k _, .int k' _ => k = k'
  | .bool, .bool _, .bool _ => True
  | .str, .string _, .string _ => True
  | _, _, _ => False
theorem kindOK_int {u v : Value} (h : kindOK .int u v) : ∃ k a b, u = .int k a ∧ v = .int k b := by
  cases u <;> cases v <;> simp only [kindOK] at h <;> first | (subst h; exact ⟨_, _, _, rfl, rfl⟩) | exact h.elim
theorem kindOK_bool {u v : Value} (h : kindOK .bool u v) : ∃ a b, u = .bool a ∧ v = .bool b := by
  cases u <;> cases v <;> simp only [kindOK] at h <;> first | exact ⟨_, _, rfl, rfl⟩ | exact h.elim
theorem kindOK_str {u v : Value} (h : kindOK .str u v) : ∃ a b, u = .string a ∧ v = .string b := by
  cases u <;> cases v <;> simp only [kindOK] at h <;> first | exact ⟨_, _, rfl, rfl⟩ | exact h.elim
def eqv : Value → Value → Bool
  | .int _ a, .int _ b => a == b
  | .bool a, .bool b => a == b
  | .string a, .string b => a.toList == b.toList
  | _, _ => false
def eqL : List Value → List Value → Bool
  | u :: us, v :: vs => eqv u v && eqL us vs
  | _, _ => true
def kf (P : Program) (rec : TypeId → Option (List Kd)) : List Field → Nat → Option (List Kd)
  | [], _ => some []
  | f :: fs, off => if f.name = "_" ∨ f.offset ≠ off then none else (rec f.type).bind fun ks => if szP P f.type = some ks.length then (kf P rec fs (off + ks.length)).map (ks ++ ·) else none
def kinds (P : Program) : Nat → TypeId → Option (List Kd)
  | 0, _ => none
  | d + 1, t => match P.underlying t with
    | some (.int _) => some [.int]
    | some .bool => some [.bool]
    | some .string => some [.str]
    | some (.struct fs) => if P.stoodInHeld t = true then none else kf P (kinds P d) fs.toList 0
    | some (.array n e) => (kinds P d e).bind fun ks => if szP P e = some ks.length then some (List.replicate n ks).flatten else none
    | _ => none

theorem part_run {P : Program} {w : World} {t : TypeId} {us : List Value} {xs : Array Value} {off : Nat} {ag : Bool} (hs : szP P t = some us.length) (ha : isAggP P t = some ag) (h1 : ag = false → us.length = 1) (hx : ∀ j u, us[j]? = some u → xs[off + j]? = some u) :
    (part t xs off).run P w = .ok (bif ag then .agg us.toArray else us.headD undef) w := by
  unfold part
  simp only [Sem.run_bind, run_isAgg ha, Result.andThen_ok]
  cases ag with
  | true =>
    simp only [if_true, Sem.run_bind, run_size hs, Result.andThen_ok, Sem.run_pure, cond_true]
    congr 2
    apply Array.ext_getElem?
    intro i
    rw [Array.getElem?_extract]
    by_cases hi : i < us.length
    · have := hx i _ (List.getElem?_eq_getElem hi)
      have hlt := (Array.getElem?_eq_some_iff.1 this).1
      rw [if_pos (by omega), this]
      simp [hi]
    · have : us.toArray[i]? = none := by simp; omega
      rw [this, if_neg (by omega)]
  | false =>
    have h2 := h1 rfl
    obtain ⟨u, rfl⟩ : ∃ u, us = [u] := by
      match us, h2 with
      | [u], _ => exact ⟨u, rfl⟩
    have := hx 0 u rfl
    simp only [Nat.add_zero] at this
    simp only [Bool.false_eq_true, if_false, this, Sem.run_pure, cond_false, List.headD_cons]

theorem eqL_append : ∀ (as bs cs ds : List Value), as.length = bs.length → eqL (as ++ cs) (bs ++ ds) = (eqL as bs && eqL cs ds)
  | [], [], cs, ds, _ => by simp [eqL]
  | a :: as, b :: bs, cs, ds, h => by simp only [List.cons_append, eqL, eqL_append as bs cs ds (by simpa using h), Bool.and_assoc]
  | [], b :: bs, _, _, h => by simp at h
  | a :: as, [], _, _, h => by simp at h

def aggOf (P : Program) (t : TypeId) : Bool := (isAggP P t).getD false
def wrapv (P : Program) (t : TypeId) (us : List Value) : Value := bif aggOf P t then .agg us.toArray else us.headD undef

theorem eq_run {P : Program} : ∀ (d : Nat) (t : TypeId) (ks : List Kd), kinds P d t = some ks → ∀ (us vs : List Value), us.length = ks.length → vs.length = ks.length →
    (∀ (i : Nat) (k : Kd) (u v : Value), ks[i]? = some k → us[i]? = some u → vs[i]? = some v → kindOK k u v) → ∀ (m : Nat) (w : World), (Op.equalIn (d + m) t (wrapv P t us) (wrapv P t vs)).run P w = .ok (eqL us vs) w := by
  intro d
  induction d with
  | zero => intro t ks h; cases h
  | succ d ih =>
    intro t ks h us vs hu hv hok m w
    have hag : ∀ (t : TypeId) (ks : List Kd), kinds P d t = some ks → ∃ ag, isAggP P t = some ag ∧ (ag = false → ks.length = 1) := by
      intro t ks h
      cases d with
      | zero => cases h
      | succ d =>
        unfold kinds at h
        unfold isAggP
        split at h <;> rename_i hun <;> (try simp only [hun, Option.map_some])
        · injection h with h; subst h; exact ⟨false, rfl, fun _ => rfl⟩
        · injection h with h; subst h; exact ⟨false, rfl, fun _ => rfl⟩
        · injection h with h; subst h; exact ⟨false, rfl, fun _ => rfl⟩
        · exact ⟨true, rfl, fun h => by cases h⟩
        · exact ⟨true, rfl, fun h => by cases h⟩
        · cases h
    -- one item of a row of cells
    have item : ∀ (t : TypeId) (ks : List Kd), kinds P d t = some ks → szP P t = some ks.length → ∀ (us vs : List Value) (xs ys : Array Value) (off : Nat), us.length = ks.length → vs.length = ks.length →
        (∀ (i : Nat) (k : Kd) (u v : Value), ks[i]? = some k → us[i]? = some u → vs[i]? = some v → kindOK k u v) → (∀ j u, us[j]? = some u → xs[off + j]? = some u) → (∀ j u, vs[j]? = some u → ys[off + j]? = some u) →
        ∃ a b, (∀ w, (part t xs off).run P w = .ok a w) ∧ (∀ w, (part t ys off).run P w = .ok b w) ∧ ∀ w, (Op.equalIn (d + m) t a b).run P w = .ok (eqL us vs) w := by
      intro t ks hk hs us vs xs ys off hu hv hok hx hy
      obtain ⟨ag, ha, h1⟩ := hag t ks hk
      refine ⟨_, _, fun w => part_run (by rw [hu]; exact hs) ha (fun h => by rw [hu]; exact h1 h) hx, fun w => part_run (by rw [hv]; exact hs) ha (fun h => by rw [hv]; exact h1 h) hy, fun w => ?_⟩
      have := ih t ks hk us vs hu hv hok m w
      unfold wrapv aggOf at this
      rw [ha] at this
      exact this
    have hadd : d + 1 + m = (d + m) + 1 := by omega
    rw [hadd]
    unfold kinds at h
    split at h
    · rename_i k0 hun
      injection h with h; subst h
      have ha : aggOf P t = false := by unfold aggOf isAggP; rw [hun]; rfl
      match us, vs, hu, hv with
      | [u], [v], _, _ =>
        obtain ⟨k, a, b, rfl, rfl⟩ := kindOK_int (hok 0 .int u v rfl rfl rfl)
        simp only [wrapv, ha, cond_false, List.headD_cons, eqL, eqv, Bool.and_true]
        exact run_equalIn_int w _ t _ _ _ _ hun
    · rename_i hun
      injection h with h; subst h
      have ha : aggOf P t = false := by unfold aggOf isAggP; rw [hun]; rfl
      match us, vs, hu, hv with
      | [u], [v], _, _ =>
        obtain ⟨a, b, rfl, rfl⟩ := kindOK_bool (hok 0 .bool u v rfl rfl rfl)
        simp only [wrapv, ha, cond_false, List.headD_cons, eqL, eqv, Bool.and_true]
        exact run_equalIn_bool' w _ t _ _ hun
    · rename_i hun
      injection h with h; subst h
      have ha : aggOf P t = false := by unfold aggOf isAggP; rw [hun]; rfl
      match us, vs, hu, hv with
      | [u], [v], _, _ =>
        obtain ⟨a, b, rfl, rfl⟩ := kindOK_str (hok 0 .str u v rfl rfl rfl)
        simp only [wrapv, ha, cond_false, List.headD_cons, eqL, eqv, Bool.and_true]
        exact run_equalIn_string w _ t _ _ hun
    · rename_i fs hun
      split at h
      · cases h
      · rename_i hst
        have ha : aggOf P t = true := by unfold aggOf isAggP; rw [hun]; rfl
        have hfo : P.fieldsOf t = fs := by unfold Program.fieldsOf; rw [hun]
        simp only [wrapv, ha, cond_true]
        rw [run_equalIn_struct w _ t _ _ (by rw [hfo]; exact hun) (by simpa using hst), hfo]
        have go : ∀ (l : List Field) (off : Nat) (ks : List Kd), kf P (kinds P d) l off = some ks → ∀ (us vs : List Value) (xs ys : Array Value), us.length = ks.length → vs.length = ks.length →
            (∀ (i : Nat) (k : Kd) (u v : Value), ks[i]? = some k → us[i]? = some u → vs[i]? = some v → kindOK k u v) → (∀ j u, us[j]? = some u → xs[off + j]? = some u) → (∀ j u, vs[j]? = some u → ys[off + j]? = some u) →
            (Op.eqFields (d + m) xs ys l).run P w = .ok (eqL us vs) w := by
          intro l
          induction l with
          | nil =>
            intro off ks h us vs xs ys hu hv hok hx hy
            simp only [kf, Option.some.injEq] at h
            subst h
            obtain rfl : us = [] := List.eq_nil_of_length_eq_zero hu
            simp [Op.eqFields, eqL]
          | cons f l ihl =>
            intro off ks h us vs xs ys hu hv hok hx hy
            simp only [kf] at h
            split at h
            · cases h
            · rename_i hcond
              obtain ⟨k1, hk1, h⟩ := Option.bind_eq_some_iff.1 h
              split at h
              · rename_i hsz
                obtain ⟨k2, hk2, rfl⟩ := Option.map_eq_some_iff.1 h
                simp only [List.length_append] at hu hv
                have hoff : f.offset = off := by
                  by_cases e : f.offset = off
                  · exact e
                  · exact absurd (.inr e) hcond
                have hname : f.name ≠ "_" := fun e => hcond (.inl e)
                obtain ⟨a, b, pa, pb, pe⟩ := item f.type k1 hk1 hsz (us.take k1.length) (vs.take k1.length) xs ys off (by simp; omega) (by simp; omega) (fun i k u v h1 h2 h3 => by
                  have hi : i < k1.length := (List.getElem?_eq_some_iff.1 h1).1
                  rw [List.getElem?_take_of_lt hi] at h2 h3
                  exact hok i k u v (by rw [List.getElem?_append_left hi]; exact h1) h2 h3)
                  (fun j u hj => by
                    have hi : j < k1.length := by have := (List.getElem?_eq_some_iff.1 hj).1; simp at this; omega
                    rw [List.getElem?_take_of_lt hi] at hj; exact hx j u hj)
                  (fun j u hj => by
                    have hi : j < k1.length := by have := (List.getElem?_eq_some_iff.1 hj).1; simp at this; omega
                    rw [List.getElem?_take_of_lt hi] at hj; exact hy j u hj)
                have hrest := ihl (off + k1.length) k2 hk2 (us.drop k1.length) (vs.drop k1.length) xs ys (by simp; omega) (by simp; omega) (fun i k u v h1 h2 h3 => by
                  rw [List.getElem?_drop] at h2 h3
                  exact hok (k1.length + i) k u v (by rw [List.getElem?_append_right (by omega)]; simpa using h1) h2 h3)
                  (fun j u hj => by rw [List.getElem?_drop] at hj; have := hx _ u hj; rw [Nat.add_assoc]; exact this)
                  (fun j u hj => by rw [List.getElem?_drop] at hj; have := hy _ u hj; rw [Nat.add_assoc]; exact this)
                have hsplit : eqL us vs = (eqL (us.take k1.length) (vs.take k1.length) && eqL (us.drop k1.length) (vs.drop k1.length)) := by
                  conv => lhs; rw [← List.take_append_drop k1.length us, ← List.take_append_drop k1.length vs]
                  rw [eqL_append _ _ _ _ (by simp; omega)]
                simp only [Op.eqFields]
                rw [if_pos hname, hoff]
                simp only [Sem.run_bind, pa, pb, pe, Result.andThen_ok]
                rw [hsplit]
                cases hb : eqL (us.take k1.length) (vs.take k1.length)
                · simp
                · simpa using hrest
              · cases h
        exact go fs.toList 0 ks h us vs _ _ hu hv hok (fun j u hj => by simpa using hj) (fun j u hj => by simpa using hj)
    · rename_i n e hun
      obtain ⟨k1, hk1, h⟩ := Option.bind_eq_some_iff.1 h
      split at h
      · rename_i hsz
        injection h with h; subst h
        have ha : aggOf P t = true := by unfold aggOf isAggP; rw [hun]; rfl
        obtain ⟨inf, hinf, hsz'⟩ := Option.map_eq_some_iff.1 hsz
        simp only [wrapv, ha, cond_true]
        rw [run_equalIn_array w _ _ _ hun hinf]
        have hco : P.cellsOf e = k1.length := by unfold Program.cellsOf; rw [hinf]; exact hsz'
        rw [hco]
        have go : ∀ (n j : Nat) (us vs : List Value) (xs ys : Array Value), us.length = n * k1.length → vs.length = n * k1.length →
            (∀ (i : Nat) (k : Kd) (u v : Value), ((List.replicate n k1).flatten)[i]? = some k → us[i]? = some u → vs[i]? = some v → kindOK k u v) → (∀ i u, us[i]? = some u → xs[j * k1.length + i]? = some u) → (∀ i u, vs[i]? = some u → ys[j * k1.length + i]? = some u) →
            (Op.eqItems (d + m) e k1.length xs ys (List.range' j n)).run P w = .ok (eqL us vs) w := by
          intro n
          induction n with
          | zero =>
            intro j us vs xs ys hu hv hok hx hy
            obtain rfl : us = [] := List.eq_nil_of_length_eq_zero (by simpa using hu)
            simp [Op.eqItems, eqL]
          | succ n ihn =>
            intro j us vs xs ys hu hv hok hx hy
            rw [Nat.add_mul, Nat.one_mul] at hu hv
            have hrep : (List.replicate (n + 1) k1).flatten = k1 ++ (List.replicate n k1).flatten := by rw [List.replicate_succ, List.flatten_cons]
            rw [hrep] at hok
            obtain ⟨a, b, pa, pb, pe⟩ := item e k1 hk1 hsz (us.take k1.length) (vs.take k1.length) xs ys (j * k1.length) (by simp; omega) (by simp; omega) (fun i k u v h1 h2 h3 => by
              have hi : i < k1.length := (List.getElem?_eq_some_iff.1 h1).1
              rw [List.getElem?_take_of_lt hi] at h2 h3
              exact hok i k u v (by rw [List.getElem?_append_left hi]; exact h1) h2 h3)
              (fun i u hi' => by
                have hi : i < k1.length := by have := (List.getElem?_eq_some_iff.1 hi').1; simp at this; omega
                rw [List.getElem?_take_of_lt hi] at hi'; exact hx i u hi')
              (fun i u hi' => by
                have hi : i < k1.length := by have := (List.getElem?_eq_some_iff.1 hi').1; simp at this; omega
                rw [List.getElem?_take_of_lt hi] at hi'; exact hy i u hi')
            have hrest := ihn (j + 1) (us.drop k1.length) (vs.drop k1.length) xs ys (by simp; omega) (by simp; omega) (fun i k u v h1 h2 h3 => by
              rw [List.getElem?_drop] at h2 h3
              exact hok (k1.length + i) k u v (by rw [List.getElem?_append_right (by omega)]; simpa using h1) h2 h3)
              (fun i u hi => by rw [List.getElem?_drop] at hi; have := hx _ u hi; rw [Nat.add_mul, Nat.one_mul, Nat.add_assoc]; exact this)
              (fun i u hi => by rw [List.getElem?_drop] at hi; have := hy _ u hi; rw [Nat.add_mul, Nat.one_mul, Nat.add_assoc]; exact this)
            have hsplit : eqL us vs = (eqL (us.take k1.length) (vs.take k1.length) && eqL (us.drop k1.length) (vs.drop k1.length)) := by
              conv => lhs; rw [← List.take_append_drop k1.length us, ← List.take_append_drop k1.length vs]
              rw [eqL_append _ _ _ _ (by simp; omega)]
            simp only [List.range'_succ, Op.eqItems, Sem.run_bind, pa, pb, pe, Result.andThen_ok]
            rw [hsplit]
            cases hb : eqL (us.take k1.length) (vs.take k1.length)
            · simp
            · simpa using hrest
        have hlen : ((List.replicate n k1).flatten).length = n * k1.length := by simp
        rw [List.range_eq_range']
        exact go n 0 us vs _ _ (by rw [hu, hlen]) (by rw [hv, hlen]) hok (fun i u hi => by simpa using hi) (fun i u hi => by simpa using hi)
      · cases h
    · cases h

/-- A type of plain cells, that may be compared. -/
structure EqOK (P : Program) (t : TypeId) (ks : List Kd) : Prop where
  kinds : kinds P 9 t = some ks
  agg : isAggP P t = some true
  guard : P.eqGuardType P.depth t = false
def litv : T → Option Value
  | .v x => some x
  | _ => none
def litL : List T → Option (List Value)
  | [] => some []
  | t :: l => match litv t, litL l with
    | some x, some xs => some (x :: xs)
    | _, _ => none
def kindsOK : List Kd → List Value → List Value → Prop
  | [], [], [] => True
  | k :: ks, u :: us, v :: vs => kindOK k u v ∧ kindsOK ks us vs
  | _, _, _ => False
theorem kindsOK_get : ∀ {ks : List Kd} {us vs : List Value}, kindsOK ks us vs → us.length = ks.length ∧ vs.length = ks.length ∧ ∀ (i : Nat) (k : Kd) (u v : Value), ks[i]? = some k → us[i]? = some u → vs[i]? = some v → kindOK k u v
  | [], [], [], _ => ⟨rfl, rfl, fun i k u v h => by simp at h⟩
  | k :: ks, u :: us, v :: vs, h => by
    obtain ⟨h1, h2, h3⟩ := kindsOK_get h.2
    refine ⟨by simp [h1], by simp [h2], fun i k' u' v' hk hu hv => ?_⟩
    cases i with
    | zero => simp at hk hu hv; subst hk; subst hu; subst hv; exact h.1
    | succ i => exact h3 i k' u' v' (by simpa using hk) (by simpa using hu) (by simpa using hv)
theorem litL_get : ∀ {ts : List T} {us : List Value}, litL ts = some us → us.length = ts.length ∧ ∀ (i : Nat) (t : T), ts[i]? = some t → ∃ u, us[i]? = some u ∧ t = .v u
  | [], us, h => by simp only [litL, Option.some.injEq] at h; subst h; exact ⟨rfl, fun i t h => by simp at h⟩
  | t :: l, us, h => by
    simp only [litL] at h
    split at h
    · rename_i x xs h1 h2
      injection h with h; subst h
      obtain ⟨h3, h4⟩ := litL_get h2
      have ht : t = .v x := by cases t <;> simp [litv] at h1; subst h1; rfl
      refine ⟨by simp [h3], fun i t' hi => ?_⟩
      cases i with
      | zero => simp at hi; subst hi; exact ⟨x, rfl, ht⟩
      | succ i => obtain ⟨u, h5, h6⟩ := h4 i t' (by simpa using hi); exact ⟨u, by simpa using h5, h6⟩
    · cases h
section
variable {C : Ctx} {s : St}
theorem does_eqA {P : Program} {neg : Bool} {t : TypeId} {x y : Operand} {ks : List Kd} {as bs : List T} {us vs : List Value} (hP : C.P = P) (hE : EqOK P t ks) (hx : s.ev x = .agg as) (hy : s.ev y = .agg bs) (hu : litL as = some us) (hv : litL bs = some vs) (hok : kindsOK ks us vs) :
    Quiet C (.eqA neg t x y) s (.one (.v (.bool (bif neg then !eqL us vs else eqL us vs)))) := by
  subst hP
  refine fun o ho β ac w hR => ?_
  obtain ⟨t', ho⟩ := ho
  have val : ∀ (z : Operand) (cs : List T) (zs : List Value), s.ev z = .agg cs → litL cs = some zs → ac.eval z = .agg zs.toArray := by
    intro z cs zs hz hl
    have h := hz ▸ hR.ev z
    generalize ac.eval z = v at h
    obtain ⟨h3, h4⟩ := litL_get hl
    cases h with
    | agg hs h =>
      rename_i a
      congr 1
      apply Array.ext_getElem?
      intro i
      by_cases hi : i < cs.length
      · obtain ⟨u, h5, h6⟩ := h4 i _ (List.getElem?_eq_getElem hi)
        have hi' : i < a.size := by omega
        have := h i _ a[i] (List.getElem?_eq_getElem hi) (by simp [hi'])
        rw [h6] at this
        cases this
        simp [h5, hi']
      · have : a[i]? = none := by simp; omega
        rw [this]
        simp; omega
  have h1 := val x as us hx hu
  have h2 := val y bs vs hy hv
  obtain ⟨k1, k2, k3⟩ := kindsOK_get hok
  have he : ∀ w, (Op.equalIn 10000 t (.agg us.toArray) (.agg vs.toArray)).run C.P w = .ok (eqL us vs) w := by
    intro w
    have := eq_run 9 t ks hE.kinds us vs k1 k2 k3 9991 w
    unfold wrapv aggOf at this
    rw [hE.agg] at this
    exact this
  refine ⟨_, fun w' hk' => ?_, .v rfl⟩
  cases neg <;> simp only [execOp, ho, h1, h2, Sem.run_bind, run_eqGuard_agg _ _ _ _ _ _ _ hE.guard, Result.andThen_ok, Bool.false_eq_true, if_false, if_true, run_eql_struct, run_neq_struct, he, Sem.run_pure, cond_true, cond_false]
end
end Go.V
