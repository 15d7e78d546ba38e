/- The V-layer, part S: the library's sort and compact of integers, as contracts of these states. No premises but the library's own contracts, given. -/
import Derived.Test.YteocabneaenpeaaGreatVR
import Derived.Sort.Row
import Derived.Sort.Grow
import Derived.Lib.SlicesCompact
set_option linter.unusedVariables false
set_option linter.unusedSimpArgs false
namespace Go.V
open Go.RowKit Go.Sort

def eI (x : Int) : List T := [.v (.int .i64 x)]
theorem eI_get (l : List Int) (j : Nat) (t : T) (h : (flat eI l)[j]? = some t) : ∃ x, l[j]? = some x ∧ t = .v (.int .i64 x) := by
  have e : flat eI l = l.map fun x => (.v (.int .i64 x) : T) := by
    clear h
    unfold flat
    induction l with
    | nil => rfl
    | cons x l ih => simp [List.flatMap_cons, ih, eI]
  rw [e, List.getElem?_map] at h
  obtain ⟨x, hx, rfl⟩ := Option.map_eq_some_iff.1 h
  exact ⟨x, hx, rfl⟩
theorem eI_len (l : List Int) : (flat eI l).length = l.length := by
  have := flat_len (e := eI) (k := 1) (fun _ => rfl) l
  simpa using this
theorem array1 {α : Type} {vs : Array α} (h : vs.size = 1) : ∃ v, vs = #[v] := by
  obtain ⟨l⟩ := vs
  match l, h with
  | [v], _ => exact ⟨v, rfl⟩
/-- What a row of integers that is owned is, in memory. -/
theorem row_holds {C : Ctx} {β : Nat → Option Nat} {w : World} {l : List Int} {ap : Option (Nat × TypeId)} (hok : StOK C [(100800, ⟨true, flat eI l⟩)] β w) {b : Nat} (hb : β 100800 = some b) {cur : Array Value} {ety : TypeId} (hh : w.heap[b]? = some (.cells cur ety (0, 0))) :
    Holds (Value.int .i64) w b 0 l.toArray := by
  have h1 := (hok.store 100800 ⟨true, flat eI l⟩ (sget_cons_same _ _ _)).2
  rw [hb] at h1
  obtain ⟨cur', ety', h2, h3, h4⟩ := h1
  rw [hh] at h2
  injection h2 with h2
  injection h2 with h2 h5
  subst h2
  intro j hj
  have hj' : j < l.length := by simpa using hj
  have hc : (flat eI l)[j]? = some (.v (.int .i64 l[j])) := by
    cases hg : (flat eI l)[j]? with
    | none => rw [List.getElem?_eq_none_iff, eI_len] at hg; omega
    | some t =>
      obtain ⟨x, hx, rfl⟩ := eI_get l j t hg
      rw [List.getElem?_eq_getElem hj'] at hx
      injection hx with hx
      rw [hx]
  obtain ⟨u, h6, h7⟩ := h4 j _ hc
  cases h7
  refine ⟨?_, ?_⟩
  · simp only [World.cell?, hh, Nat.zero_add]
    simp [h6, hj']
  · simp [World.frozen?, hh]
/-- A row turned: how the state stands then. -/
theorem row_turned {C : Ctx} {β : Nat → Option Nat} {w w' : World} {l l' : List Int} {d : Array Int} {q : Nat} {os : Array Obj} (hw0 : C.w0 = w) (hok : StOK C [(100800, ⟨true, flat eI l⟩)] β w) {b : Nat} (hb : β 100800 = some b) {cur : Array Value} {ety : TypeId} (hh : w.heap[b]? = some (.cells cur ety (0, 0)))
    (hcs : l.length ≤ cur.size) (hd : d.size = l.length) (hw : w' = grow (putRow (Value.int .i64) (Sort.ahead w q) b 0 d) os) (hl : ∀ (j : Nat) (x : Int), l'[j]? = some x → d[j]? = some x) :
    StOK C [(100800, ⟨true, flat eI l'⟩)] β w' ∧ ∃ cur', w'.heap[b]? = some (.cells cur' ety (0, 0)) ∧ cur'.size = cur.size := by
  have hbl : b < w.heap.size := (Array.getElem?_eq_some_iff.1 hh).1
  have hsome : (sget [(100800, (⟨true, flat eI l⟩ : Reg))] 100800).isSome = true := by rw [sget_cons_same]; rfl
  have hsz : w'.heap.size = w.heap.size + os.size := by rw [hw]; simp
  have hother : ∀ k, k < w.heap.size → k ≠ b → w'.heap[k]? = w.heap[k]? := by
    intro k hk hne
    rw [hw, heap_grow_old _ _ (by simpa using hk)]
    simp only [putRow, mapBlock, heap_ahead, Array.getElem?_modify]
    rw [if_neg (fun e : b = k => hne e.symm)]
  have hthis : w'.heap[b]? = some (.cells (putCells (Value.int .i64) 0 d cur) ety (0, 0)) := by
    rw [hw, heap_grow_old _ _ (by simpa using hbl)]
    simp only [putRow, mapBlock, heap_ahead, Array.getElem?_modify, if_true, hh, Option.map_some, onCells]
  have hsize : (putCells (Value.int .i64) 0 d cur).size = cur.size := by simp [putCells]
  have hwher := hok.wher 100800 b hsome hb
  rw [hw0] at hwher
  have hE : C.E b := by rcases hwher with h | h; exact h; omega
  have hk0 := hok.kept
  rw [hw0] at hk0
  have honly : ∀ r, (sget [(100800, (⟨true, flat eI l'⟩ : Reg))] r).isSome = true → r = 100800 := by
    intro r hr
    by_cases e : r = 100800
    · exact e
    · rw [sget_cons_ne _ _ (fun h => e h.symm)] at hr; cases hr
  have h100 : ∀ r, r = 100800 → (sget [(100800, (⟨true, flat eI l⟩ : Reg))] r).isSome = true := fun r hr => by subst hr; exact hsome
  refine ⟨⟨?_, ?_, ?_, ?_, ?_⟩, _, hthis, hsize⟩
  · rw [hw0]
    refine ⟨by rw [hw]; rfl, by rw [hw]; rfl, by rw [hw]; rfl, by omega, fun k hk hE' => ?_, fun k c e hc => ?_⟩
    · exact hother k hk (fun e => hE' (e ▸ hE))
    · by_cases e' : k = b
      · subst e'
        rw [hh] at hc
        injection hc with hc
        injection hc with h1 h2
        subst h1; subst h2
        exact ⟨_, hthis, hsize⟩
      · exact ⟨c, by rw [hother k (Array.getElem?_eq_some_iff.1 hc).1 e']; exact hc, rfl⟩
  · intro r g hg
    have := honly r (by rw [hg]; rfl)
    subst this
    rw [sget_cons_same] at hg
    injection hg with hg
    subst hg
    refine ⟨fun _ t ht => ?_, ?_⟩
    · obtain ⟨j, hj⟩ := List.getElem?_of_mem ht
      obtain ⟨x, _, rfl⟩ := eI_get l' j t hj
      rfl
    · rw [hb]
      refine ⟨_, ety, hthis, ?_, fun j t hj => ?_⟩
      · rw [eI_len, hsize]
        have : l'.length ≤ d.size := by
          by_cases h0 : l'.length = 0
          · omega
          · have hx := hl (l'.length - 1) l'[l'.length - 1] (List.getElem?_eq_getElem (by omega))
            have := (Array.getElem?_eq_some_iff.1 hx).1
            omega
        omega
      · obtain ⟨x, hx, rfl⟩ := eI_get l' j t hj
        have hdj := hl j x hx
        obtain ⟨hlt, hval⟩ := Array.getElem?_eq_some_iff.1 hdj
        refine ⟨.int .i64 x, ?_, .v rfl⟩
        simp only [putCells, Array.getElem?_mapIdx]
        have hjc : j < cur.size := by omega
        rw [Array.getElem?_eq_getElem hjc, Option.map_some, if_pos ⟨by omega, by omega⟩, Nat.sub_zero, getElem!_pos d j hlt, hval]
  · intro r r' b' hr hr' _ _
    rw [honly r hr, honly r' hr']
  · intro r b' hr hrb
    exact hok.wher r b' (h100 r (honly r hr)) hrb
  · intro r b' hr hrb
    exact hok.fixd r b' (h100 r (honly r hr)) hrb
theorem AC_sort {P : Program} {f : FuncId} {e : TypeId} (hS : ∀ (blk off cap : Nat) (zs : List Int) (w : World), Holds (Value.int .i64) w blk off zs.toArray → blk < w.heap.size → zs.length < 4611686018427387904 →
      Calls P f #[.slice (some ⟨blk, off, none⟩) zs.length cap] w fun e w' => e = .returned (.tuple #[]) ∧ ∃ n os, w' = grow (putRow (Value.int .i64) (Sort.ahead w n) blk off (zs.mergeSort fun x y => decide (x ≤ y)).toArray) os)
    (h0 : ∀ (p : Option Addr) (cap : Nat) (w : World), Calls P f #[.slice p 0 cap] w fun e w' => e = .returned (.tuple #[]) ∧ w' = w) (l : List Int) (g : l.length < 4611686018427387904) :
    AC P f [S.one (.own 100800 0 l.length (some (1, e)))] [(100800, ⟨true, flat eI l⟩)] (fun x s => x = S.tup [] ∧ leSt s [(100800, ⟨true, flat eI (l.mergeSort fun x y => decide (x ≤ y))⟩)]) := by
  intro w E I0 i0 fix fx β vs C hok hsz hrel
  obtain ⟨v, rfl⟩ : ∃ v, vs = #[v] := by
    have : vs.size = 1 := hsz
    exact array1 this
  have hv := (hrel 0 _ v rfl rfl).t (by rw [sget_cons_same]; rfl)
  have hreg := (hok.store 100800 ⟨true, flat eI l⟩ (sget_cons_same _ _ _)).2
  have fin : ∀ (w' : World) (l' : List Int), StOK C [(100800, ⟨true, flat eI l'⟩)] β w' → ∃ v x st' β', (Ending.returned (.tuple #[]) : Ending) = .returned v ∧ StOK C st' β' w' ∧ RelS w' st' β' (C.I st' β' w') x v ∧ x = S.tup [] ∧ leSt st' [(100800, ⟨true, flat eI l'⟩)] := fun w' l' h =>
    ⟨.tuple #[], S.tup [], _, β, rfl, h, .tup rfl (fun i s u h1 h2 => by simp at h1), rfl, sget_cons_same _ _ _, trivial⟩
  unfold OwnOK at hv
  cases hb : β 100800 with
  | none =>
    rw [hb] at hv hreg
    obtain ⟨h1, rfl⟩ := hv
    have hl : l = [] := List.eq_nil_of_length_eq_zero h1
    subst hl
    refine (h0 none 0 w).mono ?_
    rintro e w' ⟨rfl, rfl⟩
    have e2 : ([] : List Int).mergeSort (fun x y => decide (x ≤ y)) = [] := by simp
    rw [e2]
    exact fin _ [] hok
  | some b =>
    rw [hb] at hv hreg
    obtain ⟨A, cap, cur, ety, rfl, hh, hA, hn, hap⟩ := hv
    obtain ⟨_, rfl, hcap, _, _⟩ := hap 1 e rfl
    have hH := row_holds (ap := none) hok hb hh
    refine (hS b 0 cap l w hH (Array.getElem?_eq_some_iff.1 hh).1 g).mono ?_
    rintro e w' ⟨rfl, n, os, hw⟩
    obtain ⟨k1, _⟩ := row_turned rfl hok hb hh (by omega) (by simp) hw (l' := l.mergeSort fun x y => decide (x ≤ y)) (fun j x hx => by simpa using hx)
    exact fin w' _ k1
theorem AC_compact {P : Program} {f : FuncId} {e : TypeId} (hS : ∀ (blk off cap : Nat) (zs : List Int) (w : World), Holds (Value.int .i64) w blk off zs.toArray → zs.length ≤ 9223372036854775807 → zs.length ≤ cap →
      Calls P f #[.slice (some ⟨blk, off, none⟩) zs.length cap] w fun e w' => e = .returned (.slice (some ⟨blk, off, none⟩) (Lib.compact zs).length cap) ∧ ∃ q, w' = putRow (Value.int .i64) (Sort.ahead w q) blk off (Lib.compact zs ++ List.replicate (zs.length - (Lib.compact zs).length) 0).toArray)
    (h0 : ∀ (a : Option Addr) (cap : Nat) (w : World), Calls P f #[.slice a 0 cap] w fun e w' => e = .returned (.slice a 0 cap) ∧ w' = w) (l : List Int) (g : l.length < 4611686018427387904) :
    AC P f [S.one (.own 100800 0 l.length (some (1, e)))] [(100800, ⟨true, flat eI l⟩)] (fun x s => x = S.one (.own 100800 0 (Lib.compact l).length (some (1, e))) ∧ leSt s [(100800, ⟨true, flat eI (Lib.compact l)⟩)]) := by
  intro w E I0 i0 fix fx β vs C hok hsz hrel
  have hcl : (Lib.compact l).length ≤ l.length := by
    unfold Lib.compact Lib.compactUpTo
    rw [List.length_map]
    exact Nat.le_trans (List.length_filter_le _ _) (by simp)
  obtain ⟨v, rfl⟩ : ∃ v, vs = #[v] := by
    have : vs.size = 1 := hsz
    exact array1 this
  have hv := (hrel 0 _ v rfl rfl).t (by rw [sget_cons_same]; rfl)
  have hreg := (hok.store 100800 ⟨true, flat eI l⟩ (sget_cons_same _ _ _)).2
  unfold OwnOK at hv
  cases hb : β 100800 with
  | none =>
    rw [hb] at hv hreg
    obtain ⟨h1, rfl⟩ := hv
    have hl : l = [] := List.eq_nil_of_length_eq_zero h1
    subst hl
    refine (h0 none 0 w).mono ?_
    rintro e' w' ⟨rfl, rfl⟩
    refine ⟨_, _, _, β, rfl, hok, ?_, rfl, sget_cons_same _ _ _, trivial⟩
    refine .one fun _ => ?_
    unfold OwnOK
    rw [hb]
    exact ⟨rfl, rfl⟩
  | some b =>
    rw [hb] at hv hreg
    obtain ⟨A, cap, cur, ety, rfl, hh, hA, hn, hap⟩ := hv
    obtain ⟨_, rfl, hcap, hmax, rfl⟩ := hap 1 e rfl
    have hH := row_holds (ap := none) hok hb hh
    refine (hS b 0 cap l w hH (by omega) hn).mono ?_
    rintro e' w' ⟨rfl, q, hw⟩
    obtain ⟨k1, cur', k2, k3⟩ := row_turned (os := #[]) rfl hok hb hh (by omega) (d := (Lib.compact l ++ List.replicate (l.length - (Lib.compact l).length) 0).toArray) (by rw [List.size_toArray, List.length_append, List.length_replicate]; omega) (by simpa using hw) (l' := Lib.compact l) (fun j x hx => by
      have hj := (List.getElem?_eq_some_iff.1 hx).1
      simp [List.getElem?_append_left hj, hx])
    refine ⟨_, _, _, β, rfl, k1, ?_, rfl, sget_cons_same _ _ _, trivial⟩
    refine .one fun _ => ?_
    unfold OwnOK
    rw [hb]
    exact ⟨some ⟨b, 0, none⟩, cap, cur', ety, rfl, k2, fun _ => rfl, by omega, fun k e' he => by
      injection he with he
      injection he with he1 he2
      subst he1; subst he2
      exact ⟨rfl, rfl, by rw [k3]; exact hcap, hmax, rfl⟩⟩
end Go.V
