/-
  No cell of these rows narrows 'for every input' (looked for: loops, veiled, ifaces, maps, wideKeys, modest, calm, conditions, laid).
  DERIVED. THE GIVEN ROWS OF THIS SEAT. 7 by the template 'for every input the law returns true; each argument reads behind the call as it read before'; 0 by the template 'total and deterministic' (their statements: YtdeeoddacnealaaGreatTotals.lean).
  GIVEN WITH THE SEED: the statements are not yours to turn. If you find one false, say at which input.
  Laid BY PROGRAM, IN A SANDBOX (cutbox-rows.mjs): the forced cells as the released guide's own fill.sh prints them over the translation 9fe7d1c8eb0b9e06… (all of the seat's roots in one cut). By AI agents, Wed Nov 11 2026. No macro, syntax, notation, axiom, sorry.
-/
import Derived.Test.YtdeeoddacnealaaGreatChecked
import GoSem.Claim
import GoSem.ClaimJoined
import GoSem.ClaimMapViews
import Derived.JoinedTies
import Derived.KernelRfl
namespace Go.Proofs.YtdeeoddacnealaaGreat
/- THE CELL 'sum', in the pinned program and in every row, IS THE sha256 OF THE DUMP (.gsa) THAT YtdeeoddacnealaaGreatProg.lean LOADS. Nothing in Lean hashes anything: it is a label: what it is worth is what the hold of that sum in a sandbox is worth. -/
noncomputable def Tryz.pinned : Pinned := { name := "ytdeeoddacnealaagreat", sum := "9fe7d1c8eb0b9e06cbdc801caa14f1b689aea064b76f4abdbffdb241a67a931e", checked := Tryz.checked }
namespace Rows
def none {H : Type} : Left H := { results := [], args := [] }

/-- 'quilletlaw11.CertPlays': WHATEVER THE INPUT: true; the input reads as it did. -/
def certPlaysSpec : ChangeSpec := { name := "certPlays", fn := fun _ => fun
  | [d1, d2, d3] => { results := [.lit (.bool true)], args := [d1, d2, d3] }
  | _ => none }
def certPlaysRow : OpenClaim := { program := "ytdeeoddacnealaagreat", sum := "9fe7d1c8eb0b9e06cbdc801caa14f1b689aea064b76f4abdbffdb241a67a931e", func := "quillet/quilletlaw11.CertPlays", spec := "certPlays", inPlace := ["math.Float64frombits", "math.Float64bits", "slices.overlaps[quillet/vers.Item]", "slices.overlaps[quillet/preds.Item]"], unfollowed := true, recurses := true, apart := false }
def CertPlaysSaid : Prop := certPlaysRow.holds Tryz.pinned (OpenSpec.ofChange certPlaysSpec)

/-- ITS FALSE NEIGHBOUR: 'it returns false'. Refute it at one input. -/
def certPlaysWrong : ChangeSpec := { name := "certPlays", fn := fun _ => fun
  | [d1, d2, d3] => { results := [.lit (.bool false)], args := [d1, d2, d3] }
  | _ => none }
def CertPlaysWrongFalsely : Prop := certPlaysRow.holds Tryz.pinned (OpenSpec.ofChange certPlaysWrong)

/-- 'quilletlaw14.MachineOnce': WHATEVER THE INPUT: true; the input reads as it did. -/
def machineOnceSpec : ChangeSpec := { name := "machineOnce", fn := fun _ => fun
  | [d1, d2, d3] => { results := [.lit (.bool true)], args := [d1, d2, d3] }
  | _ => none }
def machineOnceRow : OpenClaim := { program := "ytdeeoddacnealaagreat", sum := "9fe7d1c8eb0b9e06cbdc801caa14f1b689aea064b76f4abdbffdb241a67a931e", func := "quillet/quilletlaw14.MachineOnce", spec := "machineOnce", inPlace := ["math.Float64bits", "math.Float64frombits", "slices.overlaps[quillet/vers.Item]", "slices.overlaps[quillet/preds.Item]", "slices.overlaps[quillet/sess.Item]"], unfollowed := true, recurses := true, apart := false }
def MachineOnceSaid : Prop := machineOnceRow.holds Tryz.pinned (OpenSpec.ofChange machineOnceSpec)

/-- ITS FALSE NEIGHBOUR: 'it returns false'. Refute it at one input. -/
def machineOnceWrong : ChangeSpec := { name := "machineOnce", fn := fun _ => fun
  | [d1, d2, d3] => { results := [.lit (.bool false)], args := [d1, d2, d3] }
  | _ => none }
def MachineOnceWrongFalsely : Prop := machineOnceRow.holds Tryz.pinned (OpenSpec.ofChange machineOnceWrong)

/-- 'quilletlaw11.CertLoads': WHATEVER THE INPUT: true; the input reads as it did. -/
def certLoadsSpec : ChangeSpec := { name := "certLoads", fn := fun _ => fun
  | [d1, d2, d3, d4] => { results := [.lit (.bool true)], args := [d1, d2, d3, d4] }
  | _ => none }
def certLoadsRow : OpenClaim := { program := "ytdeeoddacnealaagreat", sum := "9fe7d1c8eb0b9e06cbdc801caa14f1b689aea064b76f4abdbffdb241a67a931e", func := "quillet/quilletlaw11.CertLoads", spec := "certLoads", inPlace := ["math.Float64frombits", "math.Float64bits", "slices.overlaps[quillet/vers.Item]", "slices.overlaps[quillet/preds.Item]"], unfollowed := true, recurses := true, apart := false }
def CertLoadsSaid : Prop := certLoadsRow.holds Tryz.pinned (OpenSpec.ofChange certLoadsSpec)

/-- ITS FALSE NEIGHBOUR: 'it returns false'. Refute it at one input. -/
def certLoadsWrong : ChangeSpec := { name := "certLoads", fn := fun _ => fun
  | [d1, d2, d3, d4] => { results := [.lit (.bool false)], args := [d1, d2, d3, d4] }
  | _ => none }
def CertLoadsWrongFalsely : Prop := certLoadsRow.holds Tryz.pinned (OpenSpec.ofChange certLoadsWrong)

/-- 'quilletlaw14.MachinePlays': WHATEVER THE INPUT: true; the input reads as it did. -/
def machinePlaysSpec : ChangeSpec := { name := "machinePlays", fn := fun _ => fun
  | [d1, d2, d3] => { results := [.lit (.bool true)], args := [d1, d2, d3] }
  | _ => none }
def machinePlaysRow : OpenClaim := { program := "ytdeeoddacnealaagreat", sum := "9fe7d1c8eb0b9e06cbdc801caa14f1b689aea064b76f4abdbffdb241a67a931e", func := "quillet/quilletlaw14.MachinePlays", spec := "machinePlays", inPlace := ["math.Float64bits", "math.Float64frombits", "slices.overlaps[quillet/vers.Item]", "slices.overlaps[quillet/preds.Item]", "slices.overlaps[quillet/sess.Item]"], unfollowed := true, recurses := true, apart := false }
def MachinePlaysSaid : Prop := machinePlaysRow.holds Tryz.pinned (OpenSpec.ofChange machinePlaysSpec)

/-- ITS FALSE NEIGHBOUR: 'it returns false'. Refute it at one input. -/
def machinePlaysWrong : ChangeSpec := { name := "machinePlays", fn := fun _ => fun
  | [d1, d2, d3] => { results := [.lit (.bool false)], args := [d1, d2, d3] }
  | _ => none }
def MachinePlaysWrongFalsely : Prop := machinePlaysRow.holds Tryz.pinned (OpenSpec.ofChange machinePlaysWrong)

/-- 'quilletlaw14.MachineSkips': WHATEVER THE INPUT: true; the input reads as it did. -/
def machineSkipsSpec : ChangeSpec := { name := "machineSkips", fn := fun _ => fun
  | [d1, d2, d3] => { results := [.lit (.bool true)], args := [d1, d2, d3] }
  | _ => none }
def machineSkipsRow : OpenClaim := { program := "ytdeeoddacnealaagreat", sum := "9fe7d1c8eb0b9e06cbdc801caa14f1b689aea064b76f4abdbffdb241a67a931e", func := "quillet/quilletlaw14.MachineSkips", spec := "machineSkips", inPlace := ["math.Float64bits", "math.Float64frombits", "slices.overlaps[quillet/vers.Item]", "slices.overlaps[quillet/preds.Item]", "slices.overlaps[quillet/sess.Item]"], unfollowed := true, recurses := true, apart := false }
def MachineSkipsSaid : Prop := machineSkipsRow.holds Tryz.pinned (OpenSpec.ofChange machineSkipsSpec)

/-- ITS FALSE NEIGHBOUR: 'it returns false'. Refute it at one input. -/
def machineSkipsWrong : ChangeSpec := { name := "machineSkips", fn := fun _ => fun
  | [d1, d2, d3] => { results := [.lit (.bool false)], args := [d1, d2, d3] }
  | _ => none }
def MachineSkipsWrongFalsely : Prop := machineSkipsRow.holds Tryz.pinned (OpenSpec.ofChange machineSkipsWrong)

/-- 'quilletlaw14.MachineLoads': WHATEVER THE INPUT: true; the input reads as it did. -/
def machineLoadsSpec : ChangeSpec := { name := "machineLoads", fn := fun _ => fun
  | [d1, d2, d3, d4, d5] => { results := [.lit (.bool true)], args := [d1, d2, d3, d4, d5] }
  | _ => none }
def machineLoadsRow : OpenClaim := { program := "ytdeeoddacnealaagreat", sum := "9fe7d1c8eb0b9e06cbdc801caa14f1b689aea064b76f4abdbffdb241a67a931e", func := "quillet/quilletlaw14.MachineLoads", spec := "machineLoads", inPlace := ["math.Float64bits", "math.Float64frombits", "slices.overlaps[quillet/vers.Item]", "slices.overlaps[quillet/preds.Item]", "slices.overlaps[quillet/sess.Item]"], unfollowed := true, recurses := true, apart := false }
def MachineLoadsSaid : Prop := machineLoadsRow.holds Tryz.pinned (OpenSpec.ofChange machineLoadsSpec)

/-- ITS FALSE NEIGHBOUR: 'it returns false'. Refute it at one input. -/
def machineLoadsWrong : ChangeSpec := { name := "machineLoads", fn := fun _ => fun
  | [d1, d2, d3, d4, d5] => { results := [.lit (.bool false)], args := [d1, d2, d3, d4, d5] }
  | _ => none }
def MachineLoadsWrongFalsely : Prop := machineLoadsRow.holds Tryz.pinned (OpenSpec.ofChange machineLoadsWrong)

/-- 'quilletlaw14.MachineTwins': WHATEVER THE INPUT: true; the input reads as it did. -/
def machineTwinsSpec : ChangeSpec := { name := "machineTwins", fn := fun _ => fun
  | [d1, d2, d3, d4] => { results := [.lit (.bool true)], args := [d1, d2, d3, d4] }
  | _ => none }
def machineTwinsRow : OpenClaim := { program := "ytdeeoddacnealaagreat", sum := "9fe7d1c8eb0b9e06cbdc801caa14f1b689aea064b76f4abdbffdb241a67a931e", func := "quillet/quilletlaw14.MachineTwins", spec := "machineTwins", inPlace := ["math.Float64bits", "math.Float64frombits", "slices.overlaps[quillet/vers.Item]", "slices.overlaps[quillet/preds.Item]", "slices.overlaps[quillet/sess.Item]"], unfollowed := true, recurses := true, apart := false }
def MachineTwinsSaid : Prop := machineTwinsRow.holds Tryz.pinned (OpenSpec.ofChange machineTwinsSpec)

/-- ITS FALSE NEIGHBOUR: 'it returns false'. Refute it at one input. -/
def machineTwinsWrong : ChangeSpec := { name := "machineTwins", fn := fun _ => fun
  | [d1, d2, d3, d4] => { results := [.lit (.bool false)], args := [d1, d2, d3, d4] }
  | _ => none }
def MachineTwinsWrongFalsely : Prop := machineTwinsRow.holds Tryz.pinned (OpenSpec.ofChange machineTwinsWrong)

/- THE SECOND FORM. 'bulk': how many values and letters a reading holds, each counted each time it is reached (what is shared counts as often as it is met; a slice's spare places count too). A statement '..UptoSaid' is the law's where the arguments, and the package variables that the reading takes, are together of bulk at most 1048576: NARROWER than '..Said'. Prove '..Said' where nothing that the law and all that it calls make is longer than what came in: it says more and counts as full. Else prove '..UptoSaid'. A law counts once. -/
mutual
def uptoBulk {H : Type} : DataW H → Nat
  | .lit (.string bytes) => bytes.length + 1
  | .lit _ => 1
  | .nil => 1
  | .ptr d => uptoBulk d + 1
  | .slice elems spare => uptoBulkAll elems + uptoBulkAll spare + 1
  | .agg parts => uptoBulkAll parts + 1
  | .iface _ d => uptoBulk d + 1
  | .map entries => uptoBulkEntries entries + 1
  | .held _ => 1
def uptoBulkAll {H : Type} : List (DataW H) → Nat
  | [] => 0
  | d :: r => uptoBulk d + uptoBulkAll r
def uptoBulkEntries {H : Type} : List (Lit × DataW H) → Nat
  | [] => 0
  | x :: r => uptoBulkEntry x + uptoBulkEntries r
def uptoBulkEntry {H : Type} : Lit × DataW H → Nat
  | (.string bytes, d) => bytes.length + uptoBulk d + 1
  | (_, d) => uptoBulk d + 1
 end
def uptoSmall : (H : Type) → List (DataW H) → Bool := fun _ ds => decide (uptoBulkAll ds ≤ 1048576)
def OpenSpec.upto (s : _root_.Go.ChangeSpec) : _root_.Go.OpenSpec := { _root_.Go.OpenSpec.ofChange s with cond := some uptoSmall }

/-- 'quilletlaw11.CertPlays', WHERE WHAT IT READS IS OF BULK AT MOST 1048576: true; the input reads as it did. -/
def certPlaysUptoRow : OpenClaim := { program := "ytdeeoddacnealaagreat", sum := "9fe7d1c8eb0b9e06cbdc801caa14f1b689aea064b76f4abdbffdb241a67a931e", func := "quillet/quilletlaw11.CertPlays", spec := "certPlays", inPlace := ["math.Float64frombits", "math.Float64bits", "slices.overlaps[quillet/vers.Item]", "slices.overlaps[quillet/preds.Item]"], unfollowed := true, recurses := true, apart := false, narrowed := true }
def CertPlaysUptoSaid : Prop := certPlaysUptoRow.holds Tryz.pinned (OpenSpec.upto certPlaysSpec)

/-- 'quilletlaw14.MachineOnce', WHERE WHAT IT READS IS OF BULK AT MOST 1048576: true; the input reads as it did. -/
def machineOnceUptoRow : OpenClaim := { program := "ytdeeoddacnealaagreat", sum := "9fe7d1c8eb0b9e06cbdc801caa14f1b689aea064b76f4abdbffdb241a67a931e", func := "quillet/quilletlaw14.MachineOnce", spec := "machineOnce", inPlace := ["math.Float64bits", "math.Float64frombits", "slices.overlaps[quillet/vers.Item]", "slices.overlaps[quillet/preds.Item]", "slices.overlaps[quillet/sess.Item]"], unfollowed := true, recurses := true, apart := false, narrowed := true }
def MachineOnceUptoSaid : Prop := machineOnceUptoRow.holds Tryz.pinned (OpenSpec.upto machineOnceSpec)

/-- 'quilletlaw11.CertLoads', WHERE WHAT IT READS IS OF BULK AT MOST 1048576: true; the input reads as it did. -/
def certLoadsUptoRow : OpenClaim := { program := "ytdeeoddacnealaagreat", sum := "9fe7d1c8eb0b9e06cbdc801caa14f1b689aea064b76f4abdbffdb241a67a931e", func := "quillet/quilletlaw11.CertLoads", spec := "certLoads", inPlace := ["math.Float64frombits", "math.Float64bits", "slices.overlaps[quillet/vers.Item]", "slices.overlaps[quillet/preds.Item]"], unfollowed := true, recurses := true, apart := false, narrowed := true }
def CertLoadsUptoSaid : Prop := certLoadsUptoRow.holds Tryz.pinned (OpenSpec.upto certLoadsSpec)

/-- 'quilletlaw14.MachinePlays', WHERE WHAT IT READS IS OF BULK AT MOST 1048576: true; the input reads as it did. -/
def machinePlaysUptoRow : OpenClaim := { program := "ytdeeoddacnealaagreat", sum := "9fe7d1c8eb0b9e06cbdc801caa14f1b689aea064b76f4abdbffdb241a67a931e", func := "quillet/quilletlaw14.MachinePlays", spec := "machinePlays", inPlace := ["math.Float64bits", "math.Float64frombits", "slices.overlaps[quillet/vers.Item]", "slices.overlaps[quillet/preds.Item]", "slices.overlaps[quillet/sess.Item]"], unfollowed := true, recurses := true, apart := false, narrowed := true }
def MachinePlaysUptoSaid : Prop := machinePlaysUptoRow.holds Tryz.pinned (OpenSpec.upto machinePlaysSpec)

/-- 'quilletlaw14.MachineSkips', WHERE WHAT IT READS IS OF BULK AT MOST 1048576: true; the input reads as it did. -/
def machineSkipsUptoRow : OpenClaim := { program := "ytdeeoddacnealaagreat", sum := "9fe7d1c8eb0b9e06cbdc801caa14f1b689aea064b76f4abdbffdb241a67a931e", func := "quillet/quilletlaw14.MachineSkips", spec := "machineSkips", inPlace := ["math.Float64bits", "math.Float64frombits", "slices.overlaps[quillet/vers.Item]", "slices.overlaps[quillet/preds.Item]", "slices.overlaps[quillet/sess.Item]"], unfollowed := true, recurses := true, apart := false, narrowed := true }
def MachineSkipsUptoSaid : Prop := machineSkipsUptoRow.holds Tryz.pinned (OpenSpec.upto machineSkipsSpec)

/-- 'quilletlaw14.MachineLoads', WHERE WHAT IT READS IS OF BULK AT MOST 1048576: true; the input reads as it did. -/
def machineLoadsUptoRow : OpenClaim := { program := "ytdeeoddacnealaagreat", sum := "9fe7d1c8eb0b9e06cbdc801caa14f1b689aea064b76f4abdbffdb241a67a931e", func := "quillet/quilletlaw14.MachineLoads", spec := "machineLoads", inPlace := ["math.Float64bits", "math.Float64frombits", "slices.overlaps[quillet/vers.Item]", "slices.overlaps[quillet/preds.Item]", "slices.overlaps[quillet/sess.Item]"], unfollowed := true, recurses := true, apart := false, narrowed := true }
def MachineLoadsUptoSaid : Prop := machineLoadsUptoRow.holds Tryz.pinned (OpenSpec.upto machineLoadsSpec)

/-- 'quilletlaw14.MachineTwins', WHERE WHAT IT READS IS OF BULK AT MOST 1048576: true; the input reads as it did. -/
def machineTwinsUptoRow : OpenClaim := { program := "ytdeeoddacnealaagreat", sum := "9fe7d1c8eb0b9e06cbdc801caa14f1b689aea064b76f4abdbffdb241a67a931e", func := "quillet/quilletlaw14.MachineTwins", spec := "machineTwins", inPlace := ["math.Float64bits", "math.Float64frombits", "slices.overlaps[quillet/vers.Item]", "slices.overlaps[quillet/preds.Item]", "slices.overlaps[quillet/sess.Item]"], unfollowed := true, recurses := true, apart := false, narrowed := true }
def MachineTwinsUptoSaid : Prop := machineTwinsUptoRow.holds Tryz.pinned (OpenSpec.upto machineTwinsSpec)

end Rows
end Go.Proofs.YtdeeoddacnealaaGreat
