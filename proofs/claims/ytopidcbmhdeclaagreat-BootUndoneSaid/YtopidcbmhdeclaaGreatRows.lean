/-
  No cell of these rows narrows 'for every input' (looked for: loops, veiled, ifaces, maps, wideKeys, modest, calm, conditions, laid).
  DERIVED. THE GIVEN ROWS OF THIS SEAT. 6 by the template 'for every input the law returns true; each argument reads behind the call as it read before'; 0 by the template 'total and deterministic' (their statements: YtopidcbmhdeclaaGreatTotals.lean).
  GIVEN WITH THE SEED: the statements are not yours to turn. If you find one false, say at which input.
  Laid BY PROGRAM, IN A SANDBOX (cutbox-rows.mjs): the forced cells as the released guide's own fill.sh prints them over the translation cb81ec2e12d8e50f… (all of the seat's roots in one cut). By AI agents, Wed Nov 11 2026. No macro, syntax, notation, axiom, sorry.
-/
import Derived.Test.YtopidcbmhdeclaaGreatChecked
import GoSem.Claim
import GoSem.ClaimJoined
import GoSem.ClaimMapViews
import Derived.JoinedTies
import Derived.KernelRfl
namespace Go.Proofs.YtopidcbmhdeclaaGreat
/- THE CELL 'sum', in the pinned program and in every row, IS THE sha256 OF THE DUMP (.gsa) THAT YtopidcbmhdeclaaGreatProg.lean LOADS. Nothing in Lean hashes anything: it is a label: what it is worth is what the hold of that sum in a sandbox is worth. -/
noncomputable def Tryz.pinned : Pinned := { name := "ytopidcbmhdeclaagreat", sum := "cb81ec2e12d8e50fb0977c5850d4c25fde59f5ba10ad56c5754b7641bc5a9b63", checked := Tryz.checked }
namespace Rows
def none {H : Type} : Left H := { results := [], args := [] }

/-- 'reevelaw25.GearHelps': WHATEVER THE INPUT: true; the input reads as it did. -/
def gearHelpsSpec : ChangeSpec := { name := "gearHelps", fn := fun _ => fun
  | [d1, d2, d3] => { results := [.lit (.bool true)], args := [d1, d2, d3] }
  | _ => none }
def gearHelpsRow : OpenClaim := { program := "ytopidcbmhdeclaagreat", sum := "cb81ec2e12d8e50fb0977c5850d4c25fde59f5ba10ad56c5754b7641bc5a9b63", func := "reeve/reevelaw25.GearHelps", spec := "gearHelps", inPlace := ["math.archTrunc", "math.Float64bits", "math.Float64frombits", "internal/bytealg.IndexByteString", "internal/bytealg.IndexString"], unfollowed := true, recurses := true, named := ["internal/bytealg.MaxLen"], apart := false }
def GearHelpsSaid : Prop := gearHelpsRow.holds Tryz.pinned (OpenSpec.ofChange gearHelpsSpec)

/-- ITS FALSE NEIGHBOUR: 'it returns false'. Refute it at one input. -/
def gearHelpsWrong : ChangeSpec := { name := "gearHelps", fn := fun _ => fun
  | [d1, d2, d3] => { results := [.lit (.bool false)], args := [d1, d2, d3] }
  | _ => none }
def GearHelpsWrongFalsely : Prop := gearHelpsRow.holds Tryz.pinned (OpenSpec.ofChange gearHelpsWrong)

/-- 'reevelaw25.GearReads': WHATEVER THE INPUT: true; the input reads as it did. -/
def gearReadsSpec : ChangeSpec := { name := "gearReads", fn := fun _ => fun
  | [d1, d2] => { results := [.lit (.bool true)], args := [d1, d2] }
  | _ => none }
def gearReadsRow : OpenClaim := { program := "ytopidcbmhdeclaagreat", sum := "cb81ec2e12d8e50fb0977c5850d4c25fde59f5ba10ad56c5754b7641bc5a9b63", func := "reeve/reevelaw25.GearReads", spec := "gearReads", inPlace := ["math.archTrunc", "math.Float64bits", "math.Float64frombits", "internal/bytealg.IndexByteString", "internal/bytealg.IndexString"], unfollowed := true, recurses := true, named := ["internal/bytealg.MaxLen"], apart := false }
def GearReadsSaid : Prop := gearReadsRow.holds Tryz.pinned (OpenSpec.ofChange gearReadsSpec)

/-- ITS FALSE NEIGHBOUR: 'it returns false'. Refute it at one input. -/
def gearReadsWrong : ChangeSpec := { name := "gearReads", fn := fun _ => fun
  | [d1, d2] => { results := [.lit (.bool false)], args := [d1, d2] }
  | _ => none }
def GearReadsWrongFalsely : Prop := gearReadsRow.holds Tryz.pinned (OpenSpec.ofChange gearReadsWrong)

/-- 'reevelaw25.GearOnce': WHATEVER THE INPUT: true; the input reads as it did. -/
def gearOnceSpec : ChangeSpec := { name := "gearOnce", fn := fun _ => fun
  | [d] => { results := [.lit (.bool true)], args := [d] }
  | _ => none }
def gearOnceRow : OpenClaim := { program := "ytopidcbmhdeclaagreat", sum := "cb81ec2e12d8e50fb0977c5850d4c25fde59f5ba10ad56c5754b7641bc5a9b63", func := "reeve/reevelaw25.GearOnce", spec := "gearOnce", inPlace := ["math.archTrunc", "math.Float64bits", "math.Float64frombits", "internal/bytealg.IndexByteString", "internal/bytealg.IndexString"], unfollowed := true, recurses := true, named := ["internal/bytealg.MaxLen"], apart := false }
def GearOnceSaid : Prop := gearOnceRow.holds Tryz.pinned (OpenSpec.ofChange gearOnceSpec)

/-- ITS FALSE NEIGHBOUR: 'it returns false'. Refute it at one input. -/
def gearOnceWrong : ChangeSpec := { name := "gearOnce", fn := fun _ => fun
  | [d] => { results := [.lit (.bool false)], args := [d] }
  | _ => none }
def GearOnceWrongFalsely : Prop := gearOnceRow.holds Tryz.pinned (OpenSpec.ofChange gearOnceWrong)

/-- 'reevelaw25.GearKnown': WHATEVER THE INPUT: true; the input reads as it did. -/
def gearKnownSpec : ChangeSpec := { name := "gearKnown", fn := fun _ => fun
  | [] => { results := [.lit (.bool true)], args := [] }
  | _ => none }
def gearKnownRow : OpenClaim := { program := "ytopidcbmhdeclaagreat", sum := "cb81ec2e12d8e50fb0977c5850d4c25fde59f5ba10ad56c5754b7641bc5a9b63", func := "reeve/reevelaw25.GearKnown", spec := "gearKnown", inPlace := ["math.archTrunc", "math.Float64bits", "math.Float64frombits", "internal/bytealg.IndexByteString", "internal/bytealg.IndexString"], unfollowed := true, recurses := true, named := ["internal/bytealg.MaxLen"], apart := false }
def GearKnownSaid : Prop := gearKnownRow.holds Tryz.pinned (OpenSpec.ofChange gearKnownSpec)

/-- ITS FALSE NEIGHBOUR: 'it returns false'. Refute it at one input. -/
def gearKnownWrong : ChangeSpec := { name := "gearKnown", fn := fun _ => fun
  | [] => { results := [.lit (.bool false)], args := [] }
  | _ => none }
def GearKnownWrongFalsely : Prop := gearKnownRow.holds Tryz.pinned (OpenSpec.ofChange gearKnownWrong)

/-- 'reevelaw26.BootUndone': WHATEVER THE INPUT: true; the input reads as it did. -/
def bootUndoneSpec : ChangeSpec := { name := "bootUndone", fn := fun _ => fun
  | [d1, d2] => { results := [.lit (.bool true)], args := [d1, d2] }
  | _ => none }
def bootUndoneRow : OpenClaim := { program := "ytopidcbmhdeclaagreat", sum := "cb81ec2e12d8e50fb0977c5850d4c25fde59f5ba10ad56c5754b7641bc5a9b63", func := "reeve/reevelaw26.BootUndone", spec := "bootUndone", inPlace := ["math.archTrunc", "math.Float64bits", "math.Float64frombits", "internal/bytealg.IndexByteString", "internal/bytealg.IndexString"], unfollowed := true, recurses := true, named := ["internal/bytealg.MaxLen"], apart := false }
def BootUndoneSaid : Prop := bootUndoneRow.holds Tryz.pinned (OpenSpec.ofChange bootUndoneSpec)

/-- ITS FALSE NEIGHBOUR: 'it returns false'. Refute it at one input. -/
def bootUndoneWrong : ChangeSpec := { name := "bootUndone", fn := fun _ => fun
  | [d1, d2] => { results := [.lit (.bool false)], args := [d1, d2] }
  | _ => none }
def BootUndoneWrongFalsely : Prop := bootUndoneRow.holds Tryz.pinned (OpenSpec.ofChange bootUndoneWrong)

/-- 'reevelaw26.BootKnown': WHATEVER THE INPUT: true; the input reads as it did. -/
def bootKnownSpec : ChangeSpec := { name := "bootKnown", fn := fun _ => fun
  | [] => { results := [.lit (.bool true)], args := [] }
  | _ => none }
def bootKnownRow : OpenClaim := { program := "ytopidcbmhdeclaagreat", sum := "cb81ec2e12d8e50fb0977c5850d4c25fde59f5ba10ad56c5754b7641bc5a9b63", func := "reeve/reevelaw26.BootKnown", spec := "bootKnown", inPlace := ["math.archTrunc", "math.Float64bits", "math.Float64frombits", "internal/bytealg.IndexByteString", "internal/bytealg.IndexString"], unfollowed := true, recurses := true, named := ["internal/bytealg.MaxLen"], apart := false }
def BootKnownSaid : Prop := bootKnownRow.holds Tryz.pinned (OpenSpec.ofChange bootKnownSpec)

/-- ITS FALSE NEIGHBOUR: 'it returns false'. Refute it at one input. -/
def bootKnownWrong : ChangeSpec := { name := "bootKnown", fn := fun _ => fun
  | [] => { results := [.lit (.bool false)], args := [] }
  | _ => none }
def BootKnownWrongFalsely : Prop := bootKnownRow.holds Tryz.pinned (OpenSpec.ofChange bootKnownWrong)

/- THE SECOND FORM. 'bulk': how many values and letters a reading holds, each counted each time it is reached (what is shared counts as often as it is met; a slice's spare places count too). A statement '..UptoSaid' is the law's where the arguments, and the package variables that the reading takes, are together of bulk at most 1048576: NARROWER than '..Said'. Prove '..Said' where nothing that the law and all that it calls make is longer than what came in: it says more and counts as full. Else prove '..UptoSaid'. A law counts once. -/
mutual
def uptoBulk {H : Type} : DataW H → Nat
  | .lit (.string bytes) => bytes.length + 1
  | .lit _ => 1
  | .nil => 1
  | .ptr d => uptoBulk d + 1
  | .slice elems spare => uptoBulkAll elems + uptoBulkAll spare + 1
  | .agg parts => uptoBulkAll parts + 1
  | .iface _ d => uptoBulk d + 1
  | .map entries => uptoBulkEntries entries + 1
  | .held _ => 1
def uptoBulkAll {H : Type} : List (DataW H) → Nat
  | [] => 0
  | d :: r => uptoBulk d + uptoBulkAll r
def uptoBulkEntries {H : Type} : List (Lit × DataW H) → Nat
  | [] => 0
  | x :: r => uptoBulkEntry x + uptoBulkEntries r
def uptoBulkEntry {H : Type} : Lit × DataW H → Nat
  | (.string bytes, d) => bytes.length + uptoBulk d + 1
  | (_, d) => uptoBulk d + 1
 end
def uptoSmall : (H : Type) → List (DataW H) → Bool := fun _ ds => decide (uptoBulkAll ds ≤ 1048576)
def OpenSpec.upto (s : _root_.Go.ChangeSpec) : _root_.Go.OpenSpec := { _root_.Go.OpenSpec.ofChange s with cond := some uptoSmall }

/-- 'reevelaw25.GearHelps', WHERE WHAT IT READS IS OF BULK AT MOST 1048576: true; the input reads as it did. -/
def gearHelpsUptoRow : OpenClaim := { program := "ytopidcbmhdeclaagreat", sum := "cb81ec2e12d8e50fb0977c5850d4c25fde59f5ba10ad56c5754b7641bc5a9b63", func := "reeve/reevelaw25.GearHelps", spec := "gearHelps", inPlace := ["math.archTrunc", "math.Float64bits", "math.Float64frombits", "internal/bytealg.IndexByteString", "internal/bytealg.IndexString"], unfollowed := true, recurses := true, named := ["internal/bytealg.MaxLen"], apart := false, narrowed := true }
def GearHelpsUptoSaid : Prop := gearHelpsUptoRow.holds Tryz.pinned (OpenSpec.upto gearHelpsSpec)

/-- 'reevelaw25.GearReads', WHERE WHAT IT READS IS OF BULK AT MOST 1048576: true; the input reads as it did. -/
def gearReadsUptoRow : OpenClaim := { program := "ytopidcbmhdeclaagreat", sum := "cb81ec2e12d8e50fb0977c5850d4c25fde59f5ba10ad56c5754b7641bc5a9b63", func := "reeve/reevelaw25.GearReads", spec := "gearReads", inPlace := ["math.archTrunc", "math.Float64bits", "math.Float64frombits", "internal/bytealg.IndexByteString", "internal/bytealg.IndexString"], unfollowed := true, recurses := true, named := ["internal/bytealg.MaxLen"], apart := false, narrowed := true }
def GearReadsUptoSaid : Prop := gearReadsUptoRow.holds Tryz.pinned (OpenSpec.upto gearReadsSpec)

/-- 'reevelaw25.GearOnce', WHERE WHAT IT READS IS OF BULK AT MOST 1048576: true; the input reads as it did. -/
def gearOnceUptoRow : OpenClaim := { program := "ytopidcbmhdeclaagreat", sum := "cb81ec2e12d8e50fb0977c5850d4c25fde59f5ba10ad56c5754b7641bc5a9b63", func := "reeve/reevelaw25.GearOnce", spec := "gearOnce", inPlace := ["math.archTrunc", "math.Float64bits", "math.Float64frombits", "internal/bytealg.IndexByteString", "internal/bytealg.IndexString"], unfollowed := true, recurses := true, named := ["internal/bytealg.MaxLen"], apart := false, narrowed := true }
def GearOnceUptoSaid : Prop := gearOnceUptoRow.holds Tryz.pinned (OpenSpec.upto gearOnceSpec)

/-- 'reevelaw25.GearKnown', WHERE WHAT IT READS IS OF BULK AT MOST 1048576: true; the input reads as it did. -/
def gearKnownUptoRow : OpenClaim := { program := "ytopidcbmhdeclaagreat", sum := "cb81ec2e12d8e50fb0977c5850d4c25fde59f5ba10ad56c5754b7641bc5a9b63", func := "reeve/reevelaw25.GearKnown", spec := "gearKnown", inPlace := ["math.archTrunc", "math.Float64bits", "math.Float64frombits", "internal/bytealg.IndexByteString", "internal/bytealg.IndexString"], unfollowed := true, recurses := true, named := ["internal/bytealg.MaxLen"], apart := false, narrowed := true }
def GearKnownUptoSaid : Prop := gearKnownUptoRow.holds Tryz.pinned (OpenSpec.upto gearKnownSpec)

/-- 'reevelaw26.BootUndone', WHERE WHAT IT READS IS OF BULK AT MOST 1048576: true; the input reads as it did. -/
def bootUndoneUptoRow : OpenClaim := { program := "ytopidcbmhdeclaagreat", sum := "cb81ec2e12d8e50fb0977c5850d4c25fde59f5ba10ad56c5754b7641bc5a9b63", func := "reeve/reevelaw26.BootUndone", spec := "bootUndone", inPlace := ["math.archTrunc", "math.Float64bits", "math.Float64frombits", "internal/bytealg.IndexByteString", "internal/bytealg.IndexString"], unfollowed := true, recurses := true, named := ["internal/bytealg.MaxLen"], apart := false, narrowed := true }
def BootUndoneUptoSaid : Prop := bootUndoneUptoRow.holds Tryz.pinned (OpenSpec.upto bootUndoneSpec)

/-- 'reevelaw26.BootKnown', WHERE WHAT IT READS IS OF BULK AT MOST 1048576: true; the input reads as it did. -/
def bootKnownUptoRow : OpenClaim := { program := "ytopidcbmhdeclaagreat", sum := "cb81ec2e12d8e50fb0977c5850d4c25fde59f5ba10ad56c5754b7641bc5a9b63", func := "reeve/reevelaw26.BootKnown", spec := "bootKnown", inPlace := ["math.archTrunc", "math.Float64bits", "math.Float64frombits", "internal/bytealg.IndexByteString", "internal/bytealg.IndexString"], unfollowed := true, recurses := true, named := ["internal/bytealg.MaxLen"], apart := false, narrowed := true }
def BootKnownUptoSaid : Prop := bootKnownUptoRow.holds Tryz.pinned (OpenSpec.upto bootKnownSpec)

end Rows
end Go.Proofs.YtopidcbmhdeclaaGreat
