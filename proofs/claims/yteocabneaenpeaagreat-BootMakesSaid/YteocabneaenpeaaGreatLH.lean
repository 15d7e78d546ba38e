/- Plain laws, part H: the first state may be so: nodes, rings, what came of what. No premises. -/
import Derived.Test.YteocabneaenpeaaGreatLG
set_option linter.unusedVariables false
set_option linter.unusedSimpArgs false
namespace Go.V.P
open Go.V Go.Proofs
variable {g : S_geo_Geo} {size : Int}

/-- Which slots nodes have, behind the first v things. -/
def hadF (t v : Nat) (i : Nat) : Bool := decide (i < 8 * (min v (2 + t) - 2))
theorem nodes_l2 (F : Nat) (s : S_state_State) (v : Nat) (b : Nat) (hv : nth s.xThings (v : Int) = tNode (8 * (b : Int))) (S : Nat) (hS : 8 * b + 8 ≤ S) (hb : b ≤ 4) (k : List Bool → Option Bool) (G : Nat) (hG : 10 ≤ G) :
    m_state_State_nodes_l2 F s v k G 0 (tab S (fun i => decide (i < 8 * b))) = k (tab S (fun i => decide (i < 8 * (b + 1)))) := by
  have h := loop_st (fun n w l => m_state_State_nodes_l2 F s v k n w l) 8 (fun w => tab S (fun i => decide (i < 8 * b + w))) (k (tab S (fun i => decide (i < 8 * (b + 1))))) (fun n w hw => ?_) (fun n => ?_) G 0 (by omega) (by omega)
  · simpa using h
  · conv => lhs; unfold m_state_State_nodes_l2
    rw [hv]
    have e1 : decide ((w : Int) < ishl .i64 (1 : Int) (tNode (8 * (b : Int))).xBits) = true := by
      rw [show ishl .i64 (1 : Int) (tNode (8 * (b : Int))).xBits = 8 from ishl_8]; exact decide_eq_true (by omega)
    have e2 : (tNode (8 * (b : Int))).xBase = 8 * (b : Int) := rfl
    rw [e1, ct, e2, gd_inI (by omega) (by omega), tab_length]
    have e3 : decide (((S : Nat) : Int) ≤ 8 * (b : Int) + (w : Int)) = false := decide_eq_false (by omega)
    rw [e3, gd_pos (fun _ => ⟨by omega, by rw [tab_length]; omega⟩), nth_tab (by omega) (by omega)]
    have e4 : decide ((8 * (b : Int) + (w : Int)).toNat < 8 * b + w) = false := decide_eq_false (by omega)
    rw [e4, Bool.or_self, cf, gd_ix (by omega) (by rw [tab_length]; omega), gd_inI (by omega) (by omega), setn_tab, cs]
    congr 1
    refine tab_congr fun j hj => ?_
    by_cases c : j = (8 * (b : Int) + (w : Int)).toNat
    · rw [if_pos c]; exact (decide_eq_true (by omega)).symm
    · rw [if_neg c]
      by_cases c2 : j < 8 * b + w
      · rw [decide_eq_true c2, decide_eq_true (by omega)]
      · rw [decide_eq_false c2, decide_eq_false (by omega)]
  · conv => lhs; unfold m_state_State_nodes_l2
    rw [hv]
    have e1 : decide (((8 : Nat) : Int) < ishl .i64 (1 : Int) (tNode (8 * (b : Int))).xBits) = false := by
      rw [show ishl .i64 (1 : Int) (tNode (8 * (b : Int))).xBits = 8 from ishl_8]; decide
    rw [e1, cf]
    congr 1
theorem nodes_st0 (F : Nat) (hF : 100 ≤ F) (hg : GG g) : m_state_State_nodes F (st0 g size) = some true := by
  have t1 := hg.t1; have t2 := hg.t2; have s2 := hg.s2; have s1 := hg.s1; have h1 := hg.h1; have h2 := hg.h2
  have hl : (st0 g size).xSlots.length = g.xSlots.toNat := tab_length _ _
  have hlt : (st0 g size).xThings.length = g.xThings.toNat := tab_length _ _
  have key : ∀ k : List Bool → Option Bool, m_state_State_nodes_l1 F (st0 g size) k F 0 (List.replicate ((((st0 g size).xSlots.length : Nat) : Int)).toNat false) = k (tab g.xSlots.toNat (fun i => decide (i < 8 * g.xThreads.toNat))) := by
    intro k
    have h0 : List.replicate ((((st0 g size).xSlots.length : Nat) : Int)).toNat false = tab g.xSlots.toNat (hadF g.xThreads.toNat 0) := by
      rw [hl, replicate_tab, Int.toNat_natCast]
      exact tab_congr fun j hj => by simp [hadF]
    rw [h0]
    refine loop_st (fun n v l => m_state_State_nodes_l1 F (st0 g size) k n v l) g.xThings.toNat (fun v => tab g.xSlots.toNat (hadF g.xThreads.toNat v)) _ (fun n v hv => ?_) (fun n => ?_) F 0 (by omega) (by omega)
    · have hn : nth (st0 g size).xThings (v : Int) = tf g.xThreads.toNat size v := nth_tab' hv
      conv => lhs; unfold m_state_State_nodes_l1
      rw [hlt, dlt hv, ct, jn_, gd_ix (by omega) (by rw [hlt]; omega), hn, cs]
      rcases tf_cases g.xThreads.toNat v size with ⟨c, e⟩ | ⟨c, e⟩ | ⟨c1, c2, e⟩ | ⟨c1, _, e⟩
      · rw [e, show ((tRoom size).xType != 2) = true from rfl, ct]; dsimp only; rw [gd_inI (by omega) (by omega)]
        congr 1
        exact tab_congr fun j hj => by unfold hadF; congr 2; omega
      · rw [e, show (tMail.xType != 2) = true from rfl, ct]; dsimp only; rw [gd_inI (by omega) (by omega)]
        congr 1
        exact tab_congr fun j hj => by unfold hadF; congr 2; omega
      · have e' : (8 * ((v : Int) - 2)) = 8 * ((v - 2 : Nat) : Int) := by omega
        rw [e, show ((tNode (8 * ((v : Int) - 2))).xType != 2) = false from rfl, cf, gd_pos (show (0 : Int) ≤ (tNode (8 * ((v : Int) - 2))).xBits by show (0 : Int) ≤ 3; decide)]
        have a1 : tab g.xSlots.toNat (hadF g.xThreads.toNat v) = tab g.xSlots.toNat (fun i => decide (i < 8 * (v - 2))) := tab_congr fun j hj => by unfold hadF; congr 2; omega
        have a2 : tab g.xSlots.toNat (hadF g.xThreads.toNat (v + 1)) = tab g.xSlots.toNat (fun i => decide (i < 8 * ((v - 2) + 1))) := tab_congr fun j hj => by unfold hadF; congr 2; omega
        rw [a1, a2]
        refine (nodes_l2 F (st0 g size) v (v - 2) (by rw [hn, e, e']) g.xSlots.toNat (by omega) (by omega) _ F (by omega)).trans ?_
        rw [gd_inI (by omega) (by omega)]
      · rw [e, show (tNone.xType != 2) = true from rfl, ct]; dsimp only; rw [gd_inI (by omega) (by omega)]
        congr 1
        exact tab_congr fun j hj => by unfold hadF; congr 2; omega
    · conv => lhs; unfold m_state_State_nodes_l1
      rw [hlt, dge, cf]
      congr 1
      exact tab_congr fun j hj => by unfold hadF; congr 2; omega
  unfold m_state_State_nodes
  rw [gd_pos (by rw [hl]; omega), jn_, key, jn_]
  refine loop_all (fun n v => m_state_State_nodes_l0 F (st0 g size) _ (fun _ => some true) n v) g.xSlots.toNat _ (fun n v hv => ?_) (fun n => ?_) F 0 (by omega) (by omega)
  · have hn : nth (st0 g size).xSlots (v : Int) = sf g.xThreads.toNat v := nth_tab' hv
    conv => lhs; unfold m_state_State_nodes_l0
    rw [hl, dlt hv, ct, gd_ix (by omega) (by rw [hl]; omega), gd_ix (by omega) (by rw [tab_length]; omega), hn, cs, nth_tab' hv]
    by_cases c : v < 8 * g.xThreads.toNat
    · rw [decide_eq_true c, Bool.not_true, ftf, lzf, ob, Bool.false_and, cf, gd_inI (by omega) (by omega)]
    · have e : sf g.xThreads.toNat v = ⟨cNone, -1⟩ := by
        unfold sf
        rw [if_neg (by omega), if_neg (by omega)]
      rw [decide_eq_false c, Bool.not_false, ttt, lzt, e, cn3, ob, Bool.not_true, Bool.and_false, cf, gd_inI (by omega) (by omega)]
  · conv => lhs; unfold m_state_State_nodes_l0
    rw [hl, dge, cf]
theorem ring_st0 (F : Nat) (hF : 100 ≤ F) (hg : GG g) : m_state_State_ring F (st0 g size) = some false := by
  have t1 := hg.t1; have s2 := hg.s2; have s1 := hg.s1
  have hl : (st0 g size).xSlots.length = g.xSlots.toNat := tab_length _ _
  unfold m_state_State_ring
  rw [jn_]
  refine loop_all (fun n v => m_state_State_ring_l0 F (st0 g size) (fun _ => some false) n v) g.xSlots.toNat _ (fun n v hv => ?_) (fun n => ?_) F 0 (by omega) (by omega)
  · have hn : nth (st0 g size).xSlots (v : Int) = sf g.xThreads.toNat v := nth_tab' hv
    have e : ((sf g.xThreads.toNat v).xCap.xType == 2) = false := by rcases sf_cases g.xThreads.toNat v with e | e | e | e <;> rw [e] <;> rfl
    conv => lhs; unfold m_state_State_ring_l0
    rw [hl, dlt hv, ct, gd_ix (by omega) (by rw [hl]; omega), hn, cs, e, ftf, lzf, ob, Bool.false_and, cf, gd_inI (by omega) (by omega)]
  · conv => lhs; unfold m_state_State_ring_l0
    rw [hl, dge, cf]
/-- What each slot came of; -2: nothing there. -/
def ff (t : Nat) (i : Nat) : Int := if i = 0 then -1 else if i % 8 = 1 ∧ i < 8 * t then (if i = 1 then -1 else 1) else -2
theorem ff_cases (t i : Nat) : ff t i = -1 ∨ ff t i = 1 ∨ ff t i = -2 := by
  unfold ff
  split
  · exact .inl rfl
  · split
    · split
      · exact .inl rfl
      · exact .inr (.inl rfl)
    · exact .inr (.inr rfl)
theorem forest_st0 (F : Nat) (hF : 100 ≤ F) (hg : GG g) : m_state_Forest F (st0 g size) = some ⟨tab g.xSlots.toNat (ff g.xThreads.toNat)⟩ := by
  have t1 := hg.t1; have s2 := hg.s2; have s1 := hg.s1
  have hl : (st0 g size).xSlots.length = g.xSlots.toNat := tab_length _ _
  unfold m_state_Forest
  rw [jn_]
  refine loop_st (fun n v l => m_state_Forest_l0 F (st0 g size) (fun v1 => some ⟨v1⟩) n v l) g.xSlots.toNat (fun v => tab v (ff g.xThreads.toNat)) _ (fun n v hv => ?_) (fun n => ?_) F 0 (by omega) (by omega)
  · have hn : nth (st0 g size).xSlots (v : Int) = sf g.xThreads.toNat v := nth_tab' hv
    conv => lhs; unfold m_state_Forest_l0
    rw [hl, dlt hv, ct, gd_ix (by omega) (by rw [hl]; omega), jn_, hn, cs, tab_succ]
    have key : ((m_cap_None F (sf g.xThreads.toNat v).xCap).bind fun x30 => bif x30 then some (-2 : Int) else some (sf g.xThreads.toNat v).xUp) = some (ff g.xThreads.toNat v) := by
      unfold sf ff
      split
      · rfl
      · split
        · split <;> rfl
        · rfl
    obtain ⟨b, hb⟩ : ∃ b, m_cap_None F (sf g.xThreads.toNat v).xCap = some b := ⟨_, rfl⟩
    rw [hb, ob] at key ⊢
    cases b
    · rw [cf] at key ⊢
      injection key with key
      dsimp only
      rw [key, gd_pos (by rw [tab_length]; simp only [List.length_cons, List.length_nil]; omega), gd_inI (by omega) (by omega)]
    · rw [ct] at key ⊢
      injection key with key
      dsimp only
      rw [key, gd_pos (by rw [tab_length]; simp only [List.length_cons, List.length_nil]; omega), gd_inI (by omega) (by omega)]
  · conv => lhs; unfold m_state_Forest_l0
    rw [hl, dge, cf]
theorem is_tab (F : Nat) {n : Nat} {f : Nat → Int} {i : Int} (h0 : 0 ≤ i) (h1 : i < n) : m_forest_Forest_is F ⟨tab n f⟩ i = some (f i.toNat != -2) := by
  unfold m_forest_Forest_is
  rw [tab_length, decide_eq_true h0, decide_eq_true h1, Bool.and_self, gd_pos (fun _ => ⟨h0, by rw [tab_length]; exact h1⟩), nth_tab h0 h1, Bool.true_and]
theorem is_neg (F : Nat) {n : Nat} {f : Nat → Int} {i : Int} (h0 : i < 0) : m_forest_Forest_is F ⟨tab n f⟩ i = some false := by
  unfold m_forest_Forest_is
  rw [decide_eq_false (show ¬ (0 ≤ i) by omega), Bool.false_and, gd_pos (fun h => by cases h), Bool.false_and]
theorem forest_good (F : Nat) (hF : 100 ≤ F) (hg : GG g) : m_forest_Good F ⟨tab g.xSlots.toNat (ff g.xThreads.toNat)⟩ = some true := by
  have t1 := hg.t1; have s2 := hg.s2; have s1 := hg.s1
  have f1 : ff g.xThreads.toNat 1 = -1 := by
    have hT : 1 < 8 * g.xThreads.toNat := by omega
    simp [ff, hT]
  have is1 : m_forest_Forest_is F ⟨tab g.xSlots.toNat (ff g.xThreads.toNat)⟩ 1 = some true := by
    rw [is_tab F (by omega) (by omega), show (1 : Int).toNat = 1 from rfl, f1]; rfl
  have n1 : nth (tab g.xSlots.toNat (ff g.xThreads.toNat)) 1 = -1 := by rw [nth_tab (by omega) (by omega)]; exact f1
  unfold m_forest_Good
  rw [tab_length, decide_eq_false (show ¬ ((96 : Int) < ((g.xSlots.toNat : Nat) : Int)) by omega), cf, jn_]
  refine (loop_all (fun n v => m_forest_Good_l2 F ⟨tab g.xSlots.toNat (ff g.xThreads.toNat)⟩ _ n v) g.xSlots.toNat (some true) (fun n v hv => ?_) (fun n => ?_) F 0 (by omega) (by omega))
  · conv => lhs; unfold m_forest_Good_l2
    rw [tab_length, dlt hv, ct, gd_ix (by omega) (by rw [tab_length]; omega), nth_tab' hv, cs]
    rcases ff_cases g.xThreads.toNat v with e | e | e <;> rw [e]
    · rw [show ((-1 : Int) != -2 && (-1 : Int) != -1) = false from rfl, ftf, lzf, ob, Bool.false_and, cf, gd_inI (by omega) (by omega)]
    · rw [show ((1 : Int) != -2 && (1 : Int) != -1) = true from rfl, ttt, lzt, is1, ob, Bool.not_true, Bool.and_false, cf, gd_inI (by omega) (by omega)]
    · rw [show ((-2 : Int) != -2 && (-2 : Int) != -1) = false from rfl, ftf, lzf, ob, Bool.false_and, cf, gd_inI (by omega) (by omega)]
  · conv => lhs; unfold m_forest_Good_l2
    rw [tab_length, dge, cf, jn_]
    refine (loop_all (fun n v => m_forest_Good_l0 F ⟨tab g.xSlots.toNat (ff g.xThreads.toNat)⟩ _ n v) g.xSlots.toNat (some true) (fun n v hv => ?_) (fun n => ?_) F 0 (by omega) (by omega))
    · conv => lhs; unfold m_forest_Good_l0
      rw [tab_length, dlt hv, ct, jn_]
      obtain ⟨G, hG⟩ : ∃ G, F = G + 3 := ⟨F - 3, by omega⟩
      have hl1 : ∀ (k : Unit → Option Bool), m_forest_Good_l1 F ⟨tab g.xSlots.toNat (ff g.xThreads.toNat)⟩ k F 0 (v : Int) = k () := by
        intro k
        have stop : ∀ (m : Nat) (c : Int), m_forest_Good_l1 F ⟨tab g.xSlots.toNat (ff g.xThreads.toNat)⟩ k (m + 1) c (-1) = k () := by
          intro m c
          unfold m_forest_Good_l1
          rw [is_neg F (by omega), ob, cf]
        have go : ∀ (m : Nat) (c : Int) (i : Int) (u : Int), c ≤ 2 → 0 ≤ c → m_forest_Forest_is F ⟨tab g.xSlots.toNat (ff g.xThreads.toNat)⟩ i = some true → nth (tab g.xSlots.toNat (ff g.xThreads.toNat)) i = u → 0 ≤ i → i < g.xSlots.toNat → m_forest_Good_l1 F ⟨tab g.xSlots.toNat (ff g.xThreads.toNat)⟩ k (m + 1) c i = m_forest_Good_l1 F ⟨tab g.xSlots.toNat (ff g.xThreads.toNat)⟩ k m (c + 1) u := by
          intro m c i u hc hc0 hi hu h0 h1
          conv => lhs; unfold m_forest_Good_l1
          rw [hi, ob, ct, tab_length, decide_eq_false (show ¬ (((g.xSlots.toNat : Nat) : Int) < c) by omega), cf, gd_inI (by omega) (by omega), gd_ix h0 (by rw [tab_length]; exact h1), hu]
        have hn := nth_tab' (f := ff g.xThreads.toNat) hv
        have his := is_tab F (n := g.xSlots.toNat) (f := ff g.xThreads.toNat) (i := (v : Int)) (by omega) (by omega)
        rw [show (v : Int).toNat = v by omega] at his
        have e3 : ∀ c x, m_forest_Good_l1 F ⟨tab g.xSlots.toNat (ff g.xThreads.toNat)⟩ k F c x = m_forest_Good_l1 F ⟨tab g.xSlots.toNat (ff g.xThreads.toNat)⟩ k (G + 2 + 1) c x := fun c x => by rw [show G + 2 + 1 = F by omega]
        rw [e3]
        rcases ff_cases g.xThreads.toNat v with e | e | e
        · rw [go (G + 2) 0 v (-1) (by omega) (by omega) (by rw [his, e]; rfl) (by rw [hn, e]) (by omega) (by omega), stop]
        · rw [go (G + 2) 0 v 1 (by omega) (by omega) (by rw [his, e]; rfl) (by rw [hn, e]) (by omega) (by omega), go (G + 1) (0 + 1) 1 (-1) (by omega) (by omega) is1 n1 (by omega) (by omega), stop]
        · unfold m_forest_Good_l1
          rw [his, e, ob, show ((-2 : Int) != -2) = false from rfl, cf]
      rw [hl1, gd_inI (by omega) (by omega), cs]
    · conv => lhs; unfold m_forest_Good_l0
      rw [tab_length, dge, cf]
theorem allowed_st0 (F : Nat) (hF : 100 ≤ F) (hg : GG g) : m_state_State_allowed F (st0 g size) = some true := by
  have t1 := hg.t1; have s2 := hg.s2; have s1 := hg.s1
  have hl : (st0 g size).xSlots.length = g.xSlots.toNat := tab_length _ _
  have hn1 : nth (st0 g size).xSlots 1 = ⟨cMail, -1⟩ := by
    have hT : 1 < 8 * g.xThreads.toNat := by omega
    rw [show nth (st0 g size).xSlots 1 = sf g.xThreads.toNat 1 from nth_tab' (v := 1) (by omega)]
    simp [sf, hT]
  unfold m_state_State_allowed
  rw [jn_]
  refine loop_all (fun n v => m_state_State_allowed_l0 F (st0 g size) (fun _ => some true) n v) g.xSlots.toNat _ (fun n v hv => ?_) (fun n => ?_) F 0 (by omega) (by omega)
  · have hn : nth (st0 g size).xSlots (v : Int) = sf g.xThreads.toNat v := nth_tab' hv
    conv => lhs; unfold m_state_State_allowed_l0
    rw [hl, dlt hv, ct, jn_, gd_ix (by omega) (by rw [hl]; omega), hn, cs]
    have stop : ∀ (k : Unit → Option Bool) (m : Nat) (c : Int), 0 ≤ c → c < 4 → m_state_State_allowed_l1 F (st0 g size) v k (m + 1) (-1) c = k () := by
      intro k m c h0 h1
      unfold m_state_State_allowed_l1
      rw [hl, decide_eq_true (show c < ((g.xSlots.toNat : Nat) : Int) by omega), ct, show decide ((-1 : Int) < 0) = true from rfl, ct]
    obtain ⟨G, hG⟩ : ∃ G, F = G + 2 := ⟨F - 2, by omega⟩
    have e3 : ∀ k c x, m_state_State_allowed_l1 F (st0 g size) v k F c x = m_state_State_allowed_l1 F (st0 g size) v k (G + 1 + 1) c x := fun k c x => by rw [show G + 1 + 1 = F by omega]
    rw [e3]
    rcases sf_cases g.xThreads.toNat v with e | e | e | e
    · rw [e]; rw [stop _ _ _ (by omega) (by omega), gd_inI (by omega) (by omega)]
    · rw [e]; rw [stop _ _ _ (by omega) (by omega), gd_inI (by omega) (by omega)]
    · rw [show (sf g.xThreads.toNat v).xUp = 1 from by rw [e]]
      conv => lhs; unfold m_state_State_allowed_l1
      rw [hl, decide_eq_true (show (0 : Int) < ((g.xSlots.toNat : Nat) : Int) by omega), ct, show decide ((1 : Int) < 0) = false from rfl, cf, gd_ix (by omega) (by rw [hl]; omega), hn1, hn, e, cless, ob, Bool.not_true, Bool.false_and, cf, gd_inI (by omega) (by omega), stop _ _ _ (by omega) (by omega), gd_inI (by omega) (by omega)]
    · rw [e]; rw [stop _ _ _ (by omega) (by omega), gd_inI (by omega) (by omega)]
  · conv => lhs; unfold m_state_State_allowed_l0
    rw [hl, dge, cf]
theorem state_Good (F : Nat) (hF : 100 ≤ F) (hg : GG g) (hz1 : 1 ≤ size) (hz2 : size ≤ 4096) : m_state_Good F (st0 g size) = some true := by
  have t1 := hg.t1; have s2 := hg.s2; have s1 := hg.s1; have h1 := hg.h1
  have hl : (st0 g size).xSlots.length = g.xSlots.toNat := tab_length _ _
  have hlt : (st0 g size).xThings.length = g.xThings.toNat := tab_length _ _
  have hgeo : (st0 g size).xGeo = g := rfl
  have e1 : ((((st0 g size).xSlots.length : Nat) : Int) != g.xSlots) = false := by rw [hl, bne_eq_false_iff_eq]; omega
  have e2 : ((((st0 g size).xThings.length : Nat) : Int) != g.xThings) = false := by rw [hlt, bne_eq_false_iff_eq]; omega
  unfold m_state_Good
  have o : (false || false) = false := rfl
  have aa : (true && true) = true := rfl
  rw [hgeo, geo_Good F hg, ob, e1, e2, Bool.not_true, o, o, cf, caps_st0 F hF hg, ob, ttt, lzt, things_st0 F hF hg hz1 hz2, ob, aa, ttt, lzt, nodes_st0 F hF hg, ob, aa, ttt, lzt, ring_st0 F hF hg, ob, Bool.not_false, aa, ttt, lzt, forest_st0 F hF hg, ob, lzt, forest_good F hF hg, ob, aa, ttt, lzt, allowed_st0 F hF hg, ob, aa]
end Go.V.P
