/- The V-layer, part O: calls that are handed regions, and hand them back. No premises. -/
import Derived.Test.YteocabneaenpeaaGreatVN
set_option linter.unusedVariables false
set_option linter.unusedSimpArgs false
namespace Go.V
open Go.RowKit

def hasSt (st : Store) (r : Nat) : Bool := (sget st r).isSome
/-- The regions of a store that another one has not. -/
def rest (st : Store) (l : Store) : Store := match l with
  | [] => []
  | (q, g) :: l => bif hasSt st q then rest st l else (q, g) :: rest st l
theorem sget_rest (st : Store) : ∀ (l : Store) (q : Nat), sget (rest st l) q = bif hasSt st q then none else sget l q
  | [], q => by simp [rest, sget]
  | (k, g) :: l, q => by
    simp only [rest]
    cases hk : hasSt st k with
    | true =>
      simp only [cond_true, sget_rest st l q]
      cases hq : hasSt st q with
      | true => rfl
      | false =>
        have : (k == q) = false := by
          cases hb : k == q with
          | false => rfl
          | true => have := eq_of_beq hb; subst this; rw [hk] at hq; cases hq
        simp only [cond_false, sget, this]
    | false =>
      simp only [cond_false, sget, sget_rest st l q]
      cases hb : k == q with
      | true => have := eq_of_beq hb; subst this; rw [hk]; rfl
      | false => rfl
theorem sget_append : ∀ (a b : Store) (q : Nat), sget (a ++ b) q = bif hasSt a q then sget a q else sget b q
  | [], b, q => by simp [hasSt, sget]
  | (k, g) :: a, b, q => by
    simp only [List.cons_append, sget, hasSt]
    cases hb : k == q with
    | true => rfl
    | false => exact sget_append a b q
/-- What hangs on a region that is handed over and may move is let go. -/
def movT (st : Store) : T → T
  | .own r off n ap => bif hasSt st r then .dead else .own r off n ap
  | .ptr r off => bif hasSt st r && Nat.blt r 100000 then .dead else .ptr r off
  | t => t
def stayT (st : Store) : T → Bool
  | .own r _ _ _ => !(hasSt st r)
  | .ptr r _ => !(hasSt st r && Nat.blt r 100000)
  | _ => true
def inT (st : Store) : T → Bool
  | .own r _ _ _ => hasSt st r
  | .ptr r _ => hasSt st r
  | _ => true

attribute [simp] hasSt rest movT
end Go.V
