/-
  No cell of these rows narrows 'for every input' (looked for: loops, veiled, ifaces, maps, wideKeys, modest, calm, conditions, laid).
  DERIVED. THE GIVEN ROWS OF THIS SEAT. 8 by the template 'for every input the law returns true; each argument reads behind the call as it read before'; 0 by the template 'total and deterministic' (their statements: YtnlaepogkepnhaaTotals.lean).
  GIVEN WITH THE SEED: the statements are not yours to turn. If you find one false, say at which input.
  Laid BY PROGRAM, IN A SANDBOX (cutbox-rows.mjs): the forced cells as the released guide's own fill.sh prints them over the translation f72a8b4abdf143ae… (all of the seat's roots in one cut). By AI agents, Wed Nov 11 2026. No macro, syntax, notation, axiom, sorry.
-/
import Derived.Test.YtnlaepogkepnhaaChecked
import GoSem.Claim
import GoSem.ClaimJoined
import GoSem.ClaimMapViews
import Derived.JoinedTies
import Derived.KernelRfl
namespace Go.Proofs.Ytnlaepogkepnhaa
/- THE CELL 'sum', in the pinned program and in every row, IS THE sha256 OF THE DUMP (.gsa) THAT YtnlaepogkepnhaaProg.lean LOADS. Nothing in Lean hashes anything: it is a label: what it is worth is what the hold of that sum in a sandbox is worth. -/
noncomputable def Try.pinned : Pinned := { name := "ytnlaepogkepnhaa", sum := "f72a8b4abdf143ae060304a073c6b72ee88dae1fa53956898f3da6f7c70040f7", checked := Try.checked }
namespace Rows
def none {H : Type} : Left H := { results := [], args := [] }

/-- 'quilletlaw09.VersGrows': WHATEVER THE INPUT: true; the input reads as it did. -/
def versGrowsSpec : ChangeSpec := { name := "versGrows", fn := fun _ => fun
  | [d1, d2, d3] => { results := [.lit (.bool true)], args := [d1, d2, d3] }
  | _ => none }
def versGrowsRow : OpenClaim := { program := "ytnlaepogkepnhaa", sum := "f72a8b4abdf143ae060304a073c6b72ee88dae1fa53956898f3da6f7c70040f7", func := "quillet/quilletlaw09.VersGrows", spec := "versGrows", inPlace := ["math.Float64frombits", "math.Float64bits", "slices.overlaps[quillet/vers.Item]"], unfollowed := true, recurses := true, apart := false }
def VersGrowsSaid : Prop := versGrowsRow.holds Try.pinned (OpenSpec.ofChange versGrowsSpec)

/-- ITS FALSE NEIGHBOUR: 'it returns false'. Refute it at one input. -/
def versGrowsWrong : ChangeSpec := { name := "versGrows", fn := fun _ => fun
  | [d1, d2, d3] => { results := [.lit (.bool false)], args := [d1, d2, d3] }
  | _ => none }
def VersGrowsWrongFalsely : Prop := versGrowsRow.holds Try.pinned (OpenSpec.ofChange versGrowsWrong)

/-- 'quilletlaw09.VersDrops': WHATEVER THE INPUT: true; the input reads as it did. -/
def versDropsSpec : ChangeSpec := { name := "versDrops", fn := fun _ => fun
  | [d1, d2] => { results := [.lit (.bool true)], args := [d1, d2] }
  | _ => none }
def versDropsRow : OpenClaim := { program := "ytnlaepogkepnhaa", sum := "f72a8b4abdf143ae060304a073c6b72ee88dae1fa53956898f3da6f7c70040f7", func := "quillet/quilletlaw09.VersDrops", spec := "versDrops", inPlace := ["math.Float64frombits", "math.Float64bits", "slices.overlaps[quillet/vers.Item]"], unfollowed := true, recurses := true, apart := false }
def VersDropsSaid : Prop := versDropsRow.holds Try.pinned (OpenSpec.ofChange versDropsSpec)

/-- ITS FALSE NEIGHBOUR: 'it returns false'. Refute it at one input. -/
def versDropsWrong : ChangeSpec := { name := "versDrops", fn := fun _ => fun
  | [d1, d2] => { results := [.lit (.bool false)], args := [d1, d2] }
  | _ => none }
def VersDropsWrongFalsely : Prop := versDropsRow.holds Try.pinned (OpenSpec.ofChange versDropsWrong)

/-- 'quilletlaw09.VersPlays': WHATEVER THE INPUT: true; the input reads as it did. -/
def versPlaysSpec : ChangeSpec := { name := "versPlays", fn := fun _ => fun
  | [d1, d2, d3, d4] => { results := [.lit (.bool true)], args := [d1, d2, d3, d4] }
  | _ => none }
def versPlaysRow : OpenClaim := { program := "ytnlaepogkepnhaa", sum := "f72a8b4abdf143ae060304a073c6b72ee88dae1fa53956898f3da6f7c70040f7", func := "quillet/quilletlaw09.VersPlays", spec := "versPlays", inPlace := ["math.Float64frombits", "math.Float64bits", "slices.overlaps[quillet/vers.Item]"], unfollowed := true, recurses := true, apart := false }
def VersPlaysSaid : Prop := versPlaysRow.holds Try.pinned (OpenSpec.ofChange versPlaysSpec)

/-- ITS FALSE NEIGHBOUR: 'it returns false'. Refute it at one input. -/
def versPlaysWrong : ChangeSpec := { name := "versPlays", fn := fun _ => fun
  | [d1, d2, d3, d4] => { results := [.lit (.bool false)], args := [d1, d2, d3, d4] }
  | _ => none }
def VersPlaysWrongFalsely : Prop := versPlaysRow.holds Try.pinned (OpenSpec.ofChange versPlaysWrong)

/-- 'quilletlaw09.VersOver': WHATEVER THE INPUT: true; the input reads as it did. -/
def versOverSpec : ChangeSpec := { name := "versOver", fn := fun _ => fun
  | [d1, d2] => { results := [.lit (.bool true)], args := [d1, d2] }
  | _ => none }
def versOverRow : OpenClaim := { program := "ytnlaepogkepnhaa", sum := "f72a8b4abdf143ae060304a073c6b72ee88dae1fa53956898f3da6f7c70040f7", func := "quillet/quilletlaw09.VersOver", spec := "versOver", inPlace := ["math.Float64frombits", "math.Float64bits", "slices.overlaps[quillet/vers.Item]"], unfollowed := true, recurses := true, apart := false }
def VersOverSaid : Prop := versOverRow.holds Try.pinned (OpenSpec.ofChange versOverSpec)

/-- ITS FALSE NEIGHBOUR: 'it returns false'. Refute it at one input. -/
def versOverWrong : ChangeSpec := { name := "versOver", fn := fun _ => fun
  | [d1, d2] => { results := [.lit (.bool false)], args := [d1, d2] }
  | _ => none }
def VersOverWrongFalsely : Prop := versOverRow.holds Try.pinned (OpenSpec.ofChange versOverWrong)

/-- 'quilletlaw10.PredsAt': WHATEVER THE INPUT: true; the input reads as it did. -/
def predsAtSpec : ChangeSpec := { name := "predsAt", fn := fun _ => fun
  | [d1, d2] => { results := [.lit (.bool true)], args := [d1, d2] }
  | _ => none }
def predsAtRow : OpenClaim := { program := "ytnlaepogkepnhaa", sum := "f72a8b4abdf143ae060304a073c6b72ee88dae1fa53956898f3da6f7c70040f7", func := "quillet/quilletlaw10.PredsAt", spec := "predsAt", inPlace := ["math.Float64frombits", "math.Float64bits", "slices.overlaps[quillet/preds.Item]"], unfollowed := true, recurses := true, apart := false }
def PredsAtSaid : Prop := predsAtRow.holds Try.pinned (OpenSpec.ofChange predsAtSpec)

/-- ITS FALSE NEIGHBOUR: 'it returns false'. Refute it at one input. -/
def predsAtWrong : ChangeSpec := { name := "predsAt", fn := fun _ => fun
  | [d1, d2] => { results := [.lit (.bool false)], args := [d1, d2] }
  | _ => none }
def PredsAtWrongFalsely : Prop := predsAtRow.holds Try.pinned (OpenSpec.ofChange predsAtWrong)

/-- 'quilletlaw10.PredsDrops': WHATEVER THE INPUT: true; the input reads as it did. -/
def predsDropsSpec : ChangeSpec := { name := "predsDrops", fn := fun _ => fun
  | [d1, d2, d3] => { results := [.lit (.bool true)], args := [d1, d2, d3] }
  | _ => none }
def predsDropsRow : OpenClaim := { program := "ytnlaepogkepnhaa", sum := "f72a8b4abdf143ae060304a073c6b72ee88dae1fa53956898f3da6f7c70040f7", func := "quillet/quilletlaw10.PredsDrops", spec := "predsDrops", inPlace := ["math.Float64frombits", "math.Float64bits", "slices.overlaps[quillet/preds.Item]"], unfollowed := true, recurses := true, apart := false }
def PredsDropsSaid : Prop := predsDropsRow.holds Try.pinned (OpenSpec.ofChange predsDropsSpec)

/-- ITS FALSE NEIGHBOUR: 'it returns false'. Refute it at one input. -/
def predsDropsWrong : ChangeSpec := { name := "predsDrops", fn := fun _ => fun
  | [d1, d2, d3] => { results := [.lit (.bool false)], args := [d1, d2, d3] }
  | _ => none }
def PredsDropsWrongFalsely : Prop := predsDropsRow.holds Try.pinned (OpenSpec.ofChange predsDropsWrong)

/-- 'quilletlaw10.PredsOrder': WHATEVER THE INPUT: true; the input reads as it did. -/
def predsOrderSpec : ChangeSpec := { name := "predsOrder", fn := fun _ => fun
  | [d] => { results := [.lit (.bool true)], args := [d] }
  | _ => none }
def predsOrderRow : OpenClaim := { program := "ytnlaepogkepnhaa", sum := "f72a8b4abdf143ae060304a073c6b72ee88dae1fa53956898f3da6f7c70040f7", func := "quillet/quilletlaw10.PredsOrder", spec := "predsOrder", inPlace := ["math.Float64frombits", "math.Float64bits", "slices.overlaps[quillet/preds.Item]"], unfollowed := true, recurses := true, apart := false }
def PredsOrderSaid : Prop := predsOrderRow.holds Try.pinned (OpenSpec.ofChange predsOrderSpec)

/-- ITS FALSE NEIGHBOUR: 'it returns false'. Refute it at one input. -/
def predsOrderWrong : ChangeSpec := { name := "predsOrder", fn := fun _ => fun
  | [d] => { results := [.lit (.bool false)], args := [d] }
  | _ => none }
def PredsOrderWrongFalsely : Prop := predsOrderRow.holds Try.pinned (OpenSpec.ofChange predsOrderWrong)

/-- 'quilletlaw10.PredsPlays': WHATEVER THE INPUT: true; the input reads as it did. -/
def predsPlaysSpec : ChangeSpec := { name := "predsPlays", fn := fun _ => fun
  | [d1, d2, d3] => { results := [.lit (.bool true)], args := [d1, d2, d3] }
  | _ => none }
def predsPlaysRow : OpenClaim := { program := "ytnlaepogkepnhaa", sum := "f72a8b4abdf143ae060304a073c6b72ee88dae1fa53956898f3da6f7c70040f7", func := "quillet/quilletlaw10.PredsPlays", spec := "predsPlays", inPlace := ["math.Float64frombits", "math.Float64bits", "slices.overlaps[quillet/preds.Item]"], unfollowed := true, recurses := true, apart := false }
def PredsPlaysSaid : Prop := predsPlaysRow.holds Try.pinned (OpenSpec.ofChange predsPlaysSpec)

/-- ITS FALSE NEIGHBOUR: 'it returns false'. Refute it at one input. -/
def predsPlaysWrong : ChangeSpec := { name := "predsPlays", fn := fun _ => fun
  | [d1, d2, d3] => { results := [.lit (.bool false)], args := [d1, d2, d3] }
  | _ => none }
def PredsPlaysWrongFalsely : Prop := predsPlaysRow.holds Try.pinned (OpenSpec.ofChange predsPlaysWrong)

/- THE SECOND FORM. 'bulk': how many values and letters a reading holds, each counted each time it is reached (what is shared counts as often as it is met; a slice's spare places count too). A statement '..UptoSaid' is the law's where the arguments, and the package variables that the reading takes, are together of bulk at most 1048576: NARROWER than '..Said'. Prove '..Said' where nothing that the law and all that it calls make is longer than what came in: it says more and counts as full. Else prove '..UptoSaid'. A law counts once. -/
mutual
def uptoBulk {H : Type} : DataW H → Nat
  | .lit (.string bytes) => bytes.length + 1
  | .lit _ => 1
  | .nil => 1
  | .ptr d => uptoBulk d + 1
  | .slice elems spare => uptoBulkAll elems + uptoBulkAll spare + 1
  | .agg parts => uptoBulkAll parts + 1
  | .iface _ d => uptoBulk d + 1
  | .map entries => uptoBulkEntries entries + 1
  | .held _ => 1
def uptoBulkAll {H : Type} : List (DataW H) → Nat
  | [] => 0
  | d :: r => uptoBulk d + uptoBulkAll r
def uptoBulkEntries {H : Type} : List (Lit × DataW H) → Nat
  | [] => 0
  | x :: r => uptoBulkEntry x + uptoBulkEntries r
def uptoBulkEntry {H : Type} : Lit × DataW H → Nat
  | (.string bytes, d) => bytes.length + uptoBulk d + 1
  | (_, d) => uptoBulk d + 1
 end
def uptoSmall : (H : Type) → List (DataW H) → Bool := fun _ ds => decide (uptoBulkAll ds ≤ 1048576)
def OpenSpec.upto (s : _root_.Go.ChangeSpec) : _root_.Go.OpenSpec := { _root_.Go.OpenSpec.ofChange s with cond := some uptoSmall }

/-- 'quilletlaw09.VersGrows', WHERE WHAT IT READS IS OF BULK AT MOST 1048576: true; the input reads as it did. -/
def versGrowsUptoRow : OpenClaim := { program := "ytnlaepogkepnhaa", sum := "f72a8b4abdf143ae060304a073c6b72ee88dae1fa53956898f3da6f7c70040f7", func := "quillet/quilletlaw09.VersGrows", spec := "versGrows", inPlace := ["math.Float64frombits", "math.Float64bits", "slices.overlaps[quillet/vers.Item]"], unfollowed := true, recurses := true, apart := false, narrowed := true }
def VersGrowsUptoSaid : Prop := versGrowsUptoRow.holds Try.pinned (OpenSpec.upto versGrowsSpec)

/-- 'quilletlaw09.VersDrops', WHERE WHAT IT READS IS OF BULK AT MOST 1048576: true; the input reads as it did. -/
def versDropsUptoRow : OpenClaim := { program := "ytnlaepogkepnhaa", sum := "f72a8b4abdf143ae060304a073c6b72ee88dae1fa53956898f3da6f7c70040f7", func := "quillet/quilletlaw09.VersDrops", spec := "versDrops", inPlace := ["math.Float64frombits", "math.Float64bits", "slices.overlaps[quillet/vers.Item]"], unfollowed := true, recurses := true, apart := false, narrowed := true }
def VersDropsUptoSaid : Prop := versDropsUptoRow.holds Try.pinned (OpenSpec.upto versDropsSpec)

/-- 'quilletlaw09.VersPlays', WHERE WHAT IT READS IS OF BULK AT MOST 1048576: true; the input reads as it did. -/
def versPlaysUptoRow : OpenClaim := { program := "ytnlaepogkepnhaa", sum := "f72a8b4abdf143ae060304a073c6b72ee88dae1fa53956898f3da6f7c70040f7", func := "quillet/quilletlaw09.VersPlays", spec := "versPlays", inPlace := ["math.Float64frombits", "math.Float64bits", "slices.overlaps[quillet/vers.Item]"], unfollowed := true, recurses := true, apart := false, narrowed := true }
def VersPlaysUptoSaid : Prop := versPlaysUptoRow.holds Try.pinned (OpenSpec.upto versPlaysSpec)

/-- 'quilletlaw09.VersOver', WHERE WHAT IT READS IS OF BULK AT MOST 1048576: true; the input reads as it did. -/
def versOverUptoRow : OpenClaim := { program := "ytnlaepogkepnhaa", sum := "f72a8b4abdf143ae060304a073c6b72ee88dae1fa53956898f3da6f7c70040f7", func := "quillet/quilletlaw09.VersOver", spec := "versOver", inPlace := ["math.Float64frombits", "math.Float64bits", "slices.overlaps[quillet/vers.Item]"], unfollowed := true, recurses := true, apart := false, narrowed := true }
def VersOverUptoSaid : Prop := versOverUptoRow.holds Try.pinned (OpenSpec.upto versOverSpec)

/-- 'quilletlaw10.PredsAt', WHERE WHAT IT READS IS OF BULK AT MOST 1048576: true; the input reads as it did. -/
def predsAtUptoRow : OpenClaim := { program := "ytnlaepogkepnhaa", sum := "f72a8b4abdf143ae060304a073c6b72ee88dae1fa53956898f3da6f7c70040f7", func := "quillet/quilletlaw10.PredsAt", spec := "predsAt", inPlace := ["math.Float64frombits", "math.Float64bits", "slices.overlaps[quillet/preds.Item]"], unfollowed := true, recurses := true, apart := false, narrowed := true }
def PredsAtUptoSaid : Prop := predsAtUptoRow.holds Try.pinned (OpenSpec.upto predsAtSpec)

/-- 'quilletlaw10.PredsDrops', WHERE WHAT IT READS IS OF BULK AT MOST 1048576: true; the input reads as it did. -/
def predsDropsUptoRow : OpenClaim := { program := "ytnlaepogkepnhaa", sum := "f72a8b4abdf143ae060304a073c6b72ee88dae1fa53956898f3da6f7c70040f7", func := "quillet/quilletlaw10.PredsDrops", spec := "predsDrops", inPlace := ["math.Float64frombits", "math.Float64bits", "slices.overlaps[quillet/preds.Item]"], unfollowed := true, recurses := true, apart := false, narrowed := true }
def PredsDropsUptoSaid : Prop := predsDropsUptoRow.holds Try.pinned (OpenSpec.upto predsDropsSpec)

/-- 'quilletlaw10.PredsOrder', WHERE WHAT IT READS IS OF BULK AT MOST 1048576: true; the input reads as it did. -/
def predsOrderUptoRow : OpenClaim := { program := "ytnlaepogkepnhaa", sum := "f72a8b4abdf143ae060304a073c6b72ee88dae1fa53956898f3da6f7c70040f7", func := "quillet/quilletlaw10.PredsOrder", spec := "predsOrder", inPlace := ["math.Float64frombits", "math.Float64bits", "slices.overlaps[quillet/preds.Item]"], unfollowed := true, recurses := true, apart := false, narrowed := true }
def PredsOrderUptoSaid : Prop := predsOrderUptoRow.holds Try.pinned (OpenSpec.upto predsOrderSpec)

/-- 'quilletlaw10.PredsPlays', WHERE WHAT IT READS IS OF BULK AT MOST 1048576: true; the input reads as it did. -/
def predsPlaysUptoRow : OpenClaim := { program := "ytnlaepogkepnhaa", sum := "f72a8b4abdf143ae060304a073c6b72ee88dae1fa53956898f3da6f7c70040f7", func := "quillet/quilletlaw10.PredsPlays", spec := "predsPlays", inPlace := ["math.Float64frombits", "math.Float64bits", "slices.overlaps[quillet/preds.Item]"], unfollowed := true, recurses := true, apart := false, narrowed := true }
def PredsPlaysUptoSaid : Prop := predsPlaysUptoRow.holds Try.pinned (OpenSpec.upto predsPlaysSpec)

end Rows
end Go.Proofs.Ytnlaepogkepnhaa
