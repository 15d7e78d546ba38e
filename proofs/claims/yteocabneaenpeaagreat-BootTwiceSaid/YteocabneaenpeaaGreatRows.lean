/-
  No cell of these rows narrows 'for every input' (looked for: loops, veiled, ifaces, maps, wideKeys, modest, calm, conditions, laid).
  DERIVED. THE GIVEN ROWS OF THIS SEAT. 3 by the template 'for every input the law returns true; each argument reads behind the call as it read before'; 0 by the template 'total and deterministic' (their statements: YteocabneaenpeaaGreatTotals.lean).
  GIVEN WITH THE SEED: the statements are not yours to turn. If you find one false, say at which input.
  Laid BY PROGRAM, IN A SANDBOX (cutbox-rows.mjs): the forced cells as the released guide's own fill.sh prints them over the translation d5f33d06bf7714a9… (all of the seat's roots in one cut). By AI agents, Wed Nov 11 2026. No macro, syntax, notation, axiom, sorry.
-/
import Derived.Test.YteocabneaenpeaaGreatChecked
import GoSem.Claim
import GoSem.ClaimJoined
import GoSem.ClaimMapViews
import Derived.JoinedTies
import Derived.KernelRfl
namespace Go.Proofs.YteocabneaenpeaaGreat
/- THE CELL 'sum', in the pinned program and in every row, IS THE sha256 OF THE DUMP (.gsa) THAT YteocabneaenpeaaGreatProg.lean LOADS. Nothing in Lean hashes anything: it is a label: what it is worth is what the hold of that sum in a sandbox is worth. -/
noncomputable def Tryz.pinned : Pinned := { name := "yteocabneaenpeaagreat", sum := "d5f33d06bf7714a909088ae4c8c5d20b18226aee2cd15f7f67e909f6f823e4c0", checked := Tryz.checked }
namespace Rows
def none {H : Type} : Left H := { results := [], args := [] }

/-- 'reevelaw26.BootTwice': WHATEVER THE INPUT: true; the input reads as it did. -/
def bootTwiceSpec : ChangeSpec := { name := "bootTwice", fn := fun _ => fun
  | [d1, d2, d3, d4] => { results := [.lit (.bool true)], args := [d1, d2, d3, d4] }
  | _ => none }
def bootTwiceRow : OpenClaim := { program := "yteocabneaenpeaagreat", sum := "d5f33d06bf7714a909088ae4c8c5d20b18226aee2cd15f7f67e909f6f823e4c0", func := "reeve/reevelaw26.BootTwice", spec := "bootTwice", inPlace := ["math.archTrunc", "math.Float64bits", "math.Float64frombits"], unfollowed := true, recurses := true, apart := false }
def BootTwiceSaid : Prop := bootTwiceRow.holds Tryz.pinned (OpenSpec.ofChange bootTwiceSpec)

/-- ITS FALSE NEIGHBOUR: 'it returns false'. Refute it at one input. -/
def bootTwiceWrong : ChangeSpec := { name := "bootTwice", fn := fun _ => fun
  | [d1, d2, d3, d4] => { results := [.lit (.bool false)], args := [d1, d2, d3, d4] }
  | _ => none }
def BootTwiceWrongFalsely : Prop := bootTwiceRow.holds Tryz.pinned (OpenSpec.ofChange bootTwiceWrong)

/-- 'reevelaw26.BootMakes': WHATEVER THE INPUT: true; the input reads as it did. -/
def bootMakesSpec : ChangeSpec := { name := "bootMakes", fn := fun _ => fun
  | [d1, d2] => { results := [.lit (.bool true)], args := [d1, d2] }
  | _ => none }
def bootMakesRow : OpenClaim := { program := "yteocabneaenpeaagreat", sum := "d5f33d06bf7714a909088ae4c8c5d20b18226aee2cd15f7f67e909f6f823e4c0", func := "reeve/reevelaw26.BootMakes", spec := "bootMakes", inPlace := ["math.archTrunc", "math.Float64bits", "math.Float64frombits"], unfollowed := true, recurses := true, apart := false }
def BootMakesSaid : Prop := bootMakesRow.holds Tryz.pinned (OpenSpec.ofChange bootMakesSpec)

/-- ITS FALSE NEIGHBOUR: 'it returns false'. Refute it at one input. -/
def bootMakesWrong : ChangeSpec := { name := "bootMakes", fn := fun _ => fun
  | [d1, d2] => { results := [.lit (.bool false)], args := [d1, d2] }
  | _ => none }
def BootMakesWrongFalsely : Prop := bootMakesRow.holds Tryz.pinned (OpenSpec.ofChange bootMakesWrong)

/-- 'reevelaw26.BootSays': WHATEVER THE INPUT: true; the input reads as it did. -/
def bootSaysSpec : ChangeSpec := { name := "bootSays", fn := fun _ => fun
  | [d1, d2, d3] => { results := [.lit (.bool true)], args := [d1, d2, d3] }
  | _ => none }
def bootSaysRow : OpenClaim := { program := "yteocabneaenpeaagreat", sum := "d5f33d06bf7714a909088ae4c8c5d20b18226aee2cd15f7f67e909f6f823e4c0", func := "reeve/reevelaw26.BootSays", spec := "bootSays", inPlace := ["math.archTrunc", "math.Float64bits", "math.Float64frombits"], unfollowed := true, recurses := true, apart := false }
def BootSaysSaid : Prop := bootSaysRow.holds Tryz.pinned (OpenSpec.ofChange bootSaysSpec)

/-- ITS FALSE NEIGHBOUR: 'it returns false'. Refute it at one input. -/
def bootSaysWrong : ChangeSpec := { name := "bootSays", fn := fun _ => fun
  | [d1, d2, d3] => { results := [.lit (.bool false)], args := [d1, d2, d3] }
  | _ => none }
def BootSaysWrongFalsely : Prop := bootSaysRow.holds Tryz.pinned (OpenSpec.ofChange bootSaysWrong)

/- THE SECOND FORM. 'bulk': how many values and letters a reading holds, each counted each time it is reached (what is shared counts as often as it is met; a slice's spare places count too). A statement '..UptoSaid' is the law's where the arguments, and the package variables that the reading takes, are together of bulk at most 1048576: NARROWER than '..Said'. Prove '..Said' where nothing that the law and all that it calls make is longer than what came in: it says more and counts as full. Else prove '..UptoSaid'. A law counts once. -/
mutual
def uptoBulk {H : Type} : DataW H → Nat
  | .lit (.string bytes) => bytes.length + 1
  | .lit _ => 1
  | .nil => 1
  | .ptr d => uptoBulk d + 1
  | .slice elems spare => uptoBulkAll elems + uptoBulkAll spare + 1
  | .agg parts => uptoBulkAll parts + 1
  | .iface _ d => uptoBulk d + 1
  | .map entries => uptoBulkEntries entries + 1
  | .held _ => 1
def uptoBulkAll {H : Type} : List (DataW H) → Nat
  | [] => 0
  | d :: r => uptoBulk d + uptoBulkAll r
def uptoBulkEntries {H : Type} : List (Lit × DataW H) → Nat
  | [] => 0
  | x :: r => uptoBulkEntry x + uptoBulkEntries r
def uptoBulkEntry {H : Type} : Lit × DataW H → Nat
  | (.string bytes, d) => bytes.length + uptoBulk d + 1
  | (_, d) => uptoBulk d + 1
 end
def uptoSmall : (H : Type) → List (DataW H) → Bool := fun _ ds => decide (uptoBulkAll ds ≤ 1048576)
def OpenSpec.upto (s : _root_.Go.ChangeSpec) : _root_.Go.OpenSpec := { _root_.Go.OpenSpec.ofChange s with cond := some uptoSmall }

/-- 'reevelaw26.BootTwice', WHERE WHAT IT READS IS OF BULK AT MOST 1048576: true; the input reads as it did. -/
def bootTwiceUptoRow : OpenClaim := { program := "yteocabneaenpeaagreat", sum := "d5f33d06bf7714a909088ae4c8c5d20b18226aee2cd15f7f67e909f6f823e4c0", func := "reeve/reevelaw26.BootTwice", spec := "bootTwice", inPlace := ["math.archTrunc", "math.Float64bits", "math.Float64frombits"], unfollowed := true, recurses := true, apart := false, narrowed := true }
def BootTwiceUptoSaid : Prop := bootTwiceUptoRow.holds Tryz.pinned (OpenSpec.upto bootTwiceSpec)

/-- 'reevelaw26.BootMakes', WHERE WHAT IT READS IS OF BULK AT MOST 1048576: true; the input reads as it did. -/
def bootMakesUptoRow : OpenClaim := { program := "yteocabneaenpeaagreat", sum := "d5f33d06bf7714a909088ae4c8c5d20b18226aee2cd15f7f67e909f6f823e4c0", func := "reeve/reevelaw26.BootMakes", spec := "bootMakes", inPlace := ["math.archTrunc", "math.Float64bits", "math.Float64frombits"], unfollowed := true, recurses := true, apart := false, narrowed := true }
def BootMakesUptoSaid : Prop := bootMakesUptoRow.holds Tryz.pinned (OpenSpec.upto bootMakesSpec)

/-- 'reevelaw26.BootSays', WHERE WHAT IT READS IS OF BULK AT MOST 1048576: true; the input reads as it did. -/
def bootSaysUptoRow : OpenClaim := { program := "yteocabneaenpeaagreat", sum := "d5f33d06bf7714a909088ae4c8c5d20b18226aee2cd15f7f67e909f6f823e4c0", func := "reeve/reevelaw26.BootSays", spec := "bootSays", inPlace := ["math.archTrunc", "math.Float64bits", "math.Float64frombits"], unfollowed := true, recurses := true, apart := false, narrowed := true }
def BootSaysUptoSaid : Prop := bootSaysUptoRow.holds Tryz.pinned (OpenSpec.upto bootSaysSpec)

end Rows
end Go.Proofs.YteocabneaenpeaaGreat
