/- The V-layer, part J: slices and regions of typed elements. No premises. -/
import Derived.Test.YteocabneaenpeaaGreatVH
set_option linter.unusedVariables false
set_option linter.unusedSimpArgs false
namespace Go.V
open Go.RowKit

section
variable {α : Type}
theorem ldrop0 (l : List α) : l.drop 0 = l := rfl
theorem ldropS (a : α) (l : List α) (n : Nat) : (a :: l).drop (n + 1) = l.drop n := rfl
theorem ltake0 (l : List α) : l.take 0 = [] := rfl
theorem ltakeS (a : α) (l : List α) (n : Nat) : (a :: l).take (n + 1) = a :: l.take n := rfl
theorem lapp0 (l : List α) : [] ++ l = l := rfl
theorem lappS (a : α) (l m : List α) : (a :: l) ++ m = a :: (l ++ m) := rfl
theorem lset0 (a b : α) (l : List α) : (a :: l).set 0 b = b :: l := rfl
theorem lsetS (a b : α) (l : List α) (n : Nat) : (a :: l).set (n + 1) b = a :: l.set n b := rfl
theorem lmap0 {β : Type} (f : α → β) : [].map f = [] := rfl
theorem lmapS {β : Type} (f : α → β) (a : α) (l : List α) : (a :: l).map f = f a :: l.map f := rfl
theorem llen0 : ([] : List α).length = 0 := rfl
theorem llenS (a : α) (l : List α) : (a :: l).length = l.length + 1 := rfl
end
attribute [simp] ldrop0 ldropS ltake0 ltakeS lapp0 lappS lset0 lsetS lmap0 lmapS llen0 llenS
/-! ### Models -/
def gd {α : Type} (c : Prop) [Decidable c] (x : Option α) : Option α := if c then x else none
theorem of_gd {α : Type} {c : Prop} [Decidable c] {x : Option α} {r : α} (h : gd c x = some r) : c ∧ x = some r := by
  unfold gd at h; split at h
  · rename_i hc; exact ⟨hc, h⟩
  · cases h
def lz {α : Type} [Inhabited α] (c : Bool) (x : Option α) : Option α := bif c then x else some default
theorem of_bind {α β : Type} {x : Option α} {f : α → Option β} {r : β} (h : x.bind f = some r) : ∃ y, x = some y ∧ f y = some r := Option.bind_eq_some_iff.1 h
theorem of_lz {α : Type} [Inhabited α] {c : Bool} {x : Option α} {y : α} (h : lz c x = some y) (hc : c = true) : x = some y := by subst hc; exact h
theorem of_ct {α : Type} {c : Bool} {x y : Option α} {r : α} (h : (bif c then x else y) = some r) (hc : c = true) : x = some r := by subst hc; exact h
theorem of_cf {α : Type} {c : Bool} {x y : Option α} {r : α} (h : (bif c then x else y) = some r) (hc : c = false) : y = some r := by subst hc; exact h

/-- Does a number fit an int? -/
def inI (n : Int) : Prop := -9223372036854775808 ≤ n ∧ n ≤ 9223372036854775807
instance (n : Int) : Decidable (inI n) := inferInstanceAs (Decidable (_ ∧ _))
def nth {α : Type} [Inhabited α] (l : List α) (i : Int) : α := l.getD i.toNat default
def setn {α : Type} (l : List α) (i : Int) (v : α) : List α := l.set i.toNat v
/-- An index of a slice. -/
def ix {α : Type} (l : List α) (i : Int) : Prop := 0 ≤ i ∧ i < (l.length : Nat)
instance {α : Type} (l : List α) (i : Int) : Decidable (ix l i) := inferInstanceAs (Decidable (_ ∧ _))
def cut {α : Type} (l : List α) (a b : Int) : List α := (l.drop a.toNat).take (b.toNat - a.toNat)
def flat {α : Type} (e : α → List T) (l : List α) : List T := l.flatMap e
theorem setn_length {α : Type} (l : List α) (i : Int) (v : α) : (setn l i v).length = l.length := List.length_set

section
variable {α : Type} {e : α → List T} {k : Nat} (hk : ∀ x, (e x).length = k)
include hk
theorem flat_len (l : List α) : (flat e l).length = l.length * k := by
  unfold flat
  induction l with
  | nil => simp
  | cons x l ih => simp only [List.flatMap_cons, List.length_append, ih, hk, List.length_cons, Nat.add_mul, Nat.one_mul]; omega
theorem flat_get : ∀ (l : List α) (i : Nat) (x : α), l[i]? = some x → ∀ j, j < k → (flat e l)[i * k + j]? = (e x)[j]?
  | [], i, x, h, _, _ => by simp at h
  | y :: l, 0, x, h, j, hj => by
    simp only [List.getElem?_cons_zero, Option.some.injEq] at h; subst h
    simp only [flat, List.flatMap_cons, Nat.zero_mul, Nat.zero_add]
    rw [List.getElem?_append_left (by rw [hk]; exact hj)]
  | y :: l, i + 1, x, h, j, hj => by
    have h' : l[i]? = some x := by simpa using h
    have := flat_get l i x h' j hj
    simp only [flat, List.flatMap_cons]
    rw [List.getElem?_append_right (by rw [hk, Nat.add_mul, Nat.one_mul]; omega), hk]
    have e : (i + 1) * k + j - k = i * k + j := by rw [Nat.add_mul, Nat.one_mul]; omega
    rw [e]
    exact this
omit hk in
theorem nth_get [Inhabited α] {l : List α} {i : Int} (h : ix l i) : l[i.toNat]? = some (nth l i) := by
  have hlt : i.toNat < l.length := by have := h.1; have := h.2; omega
  unfold nth
  rw [List.getD_eq_getElem?_getD, List.getElem?_eq_getElem hlt]; rfl
theorem flat_at [Inhabited α] {l : List α} {i : Int} (h : ix l i) {off j : Nat} (ho : off = i.toNat * k + j) {t : T} (ht : (e (nth l i))[j]? = some t) : (flat e l)[off]? = some t := by
  subst ho
  have hj : j < k := by rw [← hk (nth l i)]; exact (List.getElem?_eq_some_iff.1 ht).1
  rw [flat_get hk l _ _ (nth_get h) j hj]; exact ht
theorem flat_part [Inhabited α] {l : List α} {i : Int} (h : ix l i) {off j n : Nat} (ho : off = i.toNat * k + j) {ts : List T} (ht : ((e (nth l i)).drop j).take n = ts) (hn : ts.length = n) : ∀ (m : Nat) (t : T), ts[m]? = some t → (flat e l)[off + m]? = some t := by
  intro m t hm
  subst ho; subst ht
  have h1 := take_drop_get _ _ _ m t hm
  have := flat_at hk h (off := i.toNat * k + (j + m)) rfl h1
  rw [Nat.add_assoc]; exact this
theorem flat_set : ∀ (l : List α) (i : Nat) (x v : α) (j : Nat) (ys : List T), l[i]? = some x → e v = splice (e x) j ys → j + ys.length ≤ k → splice (flat e l) (i * k + j) ys = flat e (l.set i v)
  | [], i, x, v, j, ys, h, _, _ => by simp at h
  | y :: l, 0, x, v, j, ys, h, hv, hl => by
    simp only [List.getElem?_cons_zero, Option.some.injEq] at h; subst h
    simp only [flat, List.flatMap_cons, List.set_cons_zero, hv, splice, Nat.zero_mul, Nat.zero_add]
    rw [List.take_append_of_le_length (by rw [hk]; omega), List.drop_append_of_le_length (by rw [hk]; omega)]
    simp
  | y :: l, i + 1, x, v, j, ys, h, hv, hl => by
    have h' : l[i]? = some x := by simpa using h
    have := flat_set l i x v j ys h' hv hl
    simp only [flat, List.flatMap_cons, List.set_cons_succ]
    simp only [flat] at this
    rw [← this]
    have e1 : (i + 1) * k + j = (e y).length + (i * k + j) := by rw [hk, Nat.add_mul, Nat.one_mul]; omega
    simp only [splice]
    rw [e1, Nat.add_assoc, List.take_length_add_append, List.drop_length_add_append]
    simp
end
theorem flat_pure {α : Type} {e : α → List T} (he : ∀ x, allPure (e x) = true) (l : List α) : allPure (flat e l) = true :=
  allPure_of fun t ht => by
    obtain ⟨x, _, hx⟩ := List.mem_flatMap.1 ht
    exact allPure_mem (he x) t hx
theorem flat_append {α : Type} (e : α → List T) (l l2 : List α) : flat e (l ++ l2) = flat e l ++ flat e l2 := by simp [flat]
theorem flat_replicate {α : Type} (e : α → List T) (z : α) (n : Nat) : (List.replicate n (e z)).flatten = flat e (List.replicate n z) := by
  induction n with
  | zero => rfl
  | succ n ih => simp only [List.replicate_succ, List.flatten_cons, ih, flat, List.flatMap_cons]
theorem flat_drop {α : Type} {e : α → List T} {k : Nat} (hk : ∀ x, (e x).length = k) : ∀ (n : Nat) (l : List α), (flat e l).drop (n * k) = flat e (l.drop n)
  | 0, l => by simp
  | n + 1, [] => by simp [flat]
  | n + 1, x :: l => by
    have := flat_drop hk n l
    simp only [List.drop_succ_cons, ← this]
    simp only [flat, List.flatMap_cons]
    have e1 : (n + 1) * k = (e x).length + n * k := by rw [hk, Nat.add_mul, Nat.one_mul]; omega
    rw [e1, List.drop_length_add_append]
theorem flat_take {α : Type} {e : α → List T} {k : Nat} (hk : ∀ x, (e x).length = k) : ∀ (n : Nat) (l : List α), (flat e l).take (n * k) = flat e (l.take n)
  | 0, l => by simp [flat]
  | n + 1, [] => by simp [flat]
  | n + 1, x :: l => by
    have := flat_take hk n l
    simp only [List.take_succ_cons]
    simp only [flat, List.flatMap_cons] at this ⊢
    have e1 : (n + 1) * k = (e x).length + n * k := by rw [hk, Nat.add_mul, Nat.one_mul]; omega
    rw [e1, List.take_length_add_append, this]
theorem pure_has {l : List T} (h : allPure l = true) (r : Nat) : l.all (fun t => !t.has r) = true := List.all_eq_true.2 fun t ht => by rw [T.has_pure (allPure_mem h t ht)]; rfl
theorem pure_live {l : List T} (h : allPure l = true) (st : Store) : l.all (live1 st) = true := List.all_eq_true.2 fun t ht => by
  have := allPure_mem h t ht
  cases t <;> first | rfl | cases this

section
variable {C : Ctx} {s : St} {d : Option Nat} {α : Type} {e : α → List T} {k : Nat}
theorem Does.cast {i : VI} {b : Bool} {s1 s2 : St} (h : Does C i d s b (· = s1)) (he : s1 = s2) : Does C i d s b (· = s2) := he ▸ h
theorem Quiet.cast {i : VI} {x y : S} (h : Quiet C i s x) (he : x = y) : Quiet C i s y := he ▸ h

theorem does_load1_slF [Inhabited α] {x : Operand} {l : List α} {off : Nat} {t : T} (hx : s.ev x = .one (.psl (flat e l) off)) (hk : ∀ x, (e x).length = k) {i : Int} (hi : ix l i) (j : Nat) (ho : off = i.toNat * k + j) (ht : (e (nth l i))[j]? = some t) : Quiet C (.load false 1 x) s (.one t) :=
  does_load1_psl hx (flat_at hk hi ho ht)
theorem does_loadA_slF [Inhabited α] {x : Operand} {l : List α} {off n : Nat} {ts : List T} (hx : s.ev x = .one (.psl (flat e l) off)) (hk : ∀ x, (e x).length = k) {i : Int} (hi : ix l i) (j : Nat) (ho : off = i.toNat * k + j) (ht : ((e (nth l i)).drop j).take n = ts) (hn : ts.length = n) : Quiet C (.load true n x) s (.agg ts) :=
  does_loadA hx (.psl (flat_part hk hi ho ht hn)) hn
theorem does_load1_rgF [Inhabited α] {x : Operand} {l : List α} {r off : Nat} {p : Bool} {t : T} (hx : s.ev x = .one (.ptr r off)) (hg : sget s.st r = some ⟨p, flat e l⟩) (hk : ∀ x, (e x).length = k) {i : Int} (hi : ix l i) (j : Nat) (ho : off = i.toNat * k + j) (ht : (e (nth l i))[j]? = some t) : Quiet C (.load false 1 x) s (.one t) :=
  does_load1_ptr hx hg (flat_at hk hi ho ht)
theorem does_loadA_rgF [Inhabited α] {x : Operand} {l : List α} {r off n : Nat} {p : Bool} {ts : List T} (hx : s.ev x = .one (.ptr r off)) (hg : sget s.st r = some ⟨p, flat e l⟩) (hk : ∀ x, (e x).length = k) {i : Int} (hi : ix l i) (j : Nat) (ho : off = i.toNat * k + j) (ht : ((e (nth l i)).drop j).take n = ts) (hn : ts.length = n) (h0 : n ≠ 0) : Quiet C (.load true n x) s (.agg ts) :=
  does_loadA hx (.ptr hg (flat_part hk hi ho ht hn) (by intro e; subst e; simp at hn; omega)) hn
theorem does_store_rgF [Inhabited α] {n r off : Nat} {x y : Operand} {l : List α} {p : Bool} {z : S} {ys : List T} (hx : s.ev x = .one (.ptr r off)) (hg : sget s.st r = some ⟨p, flat e l⟩) (hk : ∀ x, (e x).length = k) {i : Int} (hi : ix l i) (j : Nat) (ho : off = i.toNat * k + j)
    (hy : s.ev y = z) (hc : z.cells s.st = some ys) (hn : ys.length = n) (h0 : n ≠ 0) (v : α) (hv : e v = splice (e (nth l i)) j ys) (hj : j + n ≤ k) (hp : allPure ys = true) :
    Does C (.store n x y) d s false (· = (⟨s.env, sset s.st r ⟨p, flat e (setn l i v)⟩⟩ : St).put d (.tup [])) := by
  have hget := nth_get hi
  have hlt : i.toNat < l.length := (List.getElem?_eq_some_iff.1 hget).1
  have hle : off + n ≤ (flat e l).length := by
    rw [flat_len hk, ho]
    have h1 : (i.toNat + 1) * k ≤ l.length * k := Nat.mul_le_mul_right _ hlt
    rw [Nat.add_mul, Nat.one_mul] at h1
    omega
  refine (does_store hx hg hy hc hn hle (pure_live hp _) h0).cast ?_
  simp only [hp, Bool.and_true]
  rw [ho, flat_set hk l _ _ v j ys hget hv (by omega)]
  rfl
theorem Src.lit {r m : Nat} {ap : Option (Nat × TypeId)} {p : Bool} {cs : List T} (l2 : List α) (hg : sget s.st r = some ⟨p, cs⟩) (hk : ∀ x, (e x).length = k) (h : cs = flat e l2) (hm : m = l2.length) : Src s k (.one (.own r 0 m ap)) (flat e l2) m := by
  subst hm
  exact .own hg (fun j t hj => by subst h; simpa using hj) (flat_len hk _)
theorem Src.slF (l2 : List α) (hk : ∀ x, (e x).length = k) : Src s k (.one (.sl (flat e l2) l2.length)) (flat e l2) l2.length := .sl (flat_len hk _)
theorem does_appF {t ety bytes r : Nat} {x y : Operand} {l l2 : List α} {z : S} (hx : s.ev x = .one (.own r 0 l.length (some (k, ety)))) (hg : sget s.st r = some ⟨true, flat e l⟩) (hk : ∀ x, (e x).length = k) (he : ∀ x, allPure (e x) = true)
    (hy : s.ev y = z) (hsrc : Src s k z (flat e l2) l2.length) (hb : (l.length + l2.length) * bytes ≤ 140737488355328) (hlt : Nat.blt r 100000 = true) :
    Does C (.app t ety k bytes x y) d s false (· = (⟨killE r s.env, (r, ⟨true, flat e (l ++ l2)⟩) :: sdel (killSt r s.st) r⟩ : St).put d (.one (.own r 0 (l ++ l2).length (some (k, ety))))) := by
  have hp := flat_pure he l2
  refine (does_app hx hg (flat_len hk l) rfl hy hsrc (pure_live hp _) (pure_has hp _) hb hlt).cast ?_
  simp only [hp, Bool.and_true, flat_append, List.length_append]
theorem does_mkF {t ety bytes r : Nat} {zs : List T} {x y : Operand} {n c : Int} (z : α) (hx : s.ev x = .one (.v (.int .i64 n))) (hy : s.ev y = .one (.v (.int .i64 c))) (hz : zs = e z) (he : ∀ x, allPure (e x) = true) (h0 : 0 ≤ n) (h1 : n ≤ c) (h2 : bytes * c ≤ 2 ^ 48) (h3 : c ≤ 9223372036854775807) (hf : s.fresh r = true) :
    Does C (.mk t ety k bytes zs x y) (some r) s true (· = (⟨s.env, (r, ⟨true, flat e (List.replicate n.toNat z)⟩) :: s.st⟩ : St).put (some r) (.one (.own r 0 (List.replicate n.toNat z).length (some (k, ety))))) := by
  subst hz
  refine (does_mk hx hy h0 h1 h2 h3 hf (List.all_eq_true.2 fun t ht => by
    have := allPure_mem (he z) t ht
    rw [this, T.has_pure this]; rfl)).cast ?_
  rw [flat_replicate, List.length_replicate]
theorem does_slc_slF {x : Operand} {lo hi : Option Operand} {l : List α} {a b : Int} (hx : s.ev x = .one (.sl (flat e l) l.length)) (hk : ∀ x, (e x).length = k) (hl : s.bnd lo 0 = some a) (hh : s.bnd hi l.length = some b) (h0 : 0 ≤ a) (h1 : a ≤ b) (h2 : b ≤ (l.length : Nat)) :
    Quiet C (.slc k x lo hi none) s (.one (.sl (flat e (cut l a b)) (cut l a b).length)) := by
  refine (does_slc_sl hx hl hh h0 h1 h2).cast ?_
  rw [flat_drop hk, flat_take hk]
  have h3 : (cut l a b).length = b.toNat - a.toNat := by simp [cut]; omega
  rw [h3]
  rfl
/-- A region's cells, told otherwise. -/
theorem Le_reg {r : Nat} {g g' : Reg} (hg : sget s.st r = some g) (he : g = g') : Le s ⟨s.env, sset s.st r g'⟩ := by
  subst he
  intro C β a w hR
  refine hR.stEq fun q => ?_
  by_cases h : r = q
  · subst h; rw [sget_sset_same _ _ _ (by rw [hg]; rfl), hg]
  · rw [sget_sset_ne _ _ h]
end
end Go.V
