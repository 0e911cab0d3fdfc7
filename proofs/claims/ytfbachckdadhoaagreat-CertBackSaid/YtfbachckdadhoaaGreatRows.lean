/-
  No cell of these rows narrows 'for every input' (looked for: loops, veiled, ifaces, maps, wideKeys, modest, calm, conditions, laid).
  DERIVED. THE GIVEN ROWS OF THIS SEAT. 8 by the template 'for every input the law returns true; each argument reads behind the call as it read before'; 0 by the template 'total and deterministic' (their statements: YtfbachckdadhoaaGreatTotals.lean).
  GIVEN WITH THE SEED: the statements are not yours to turn. If you find one false, say at which input.
  Laid BY PROGRAM, IN A SANDBOX (cutbox-rows.mjs): the forced cells as the released guide's own fill.sh prints them over the translation e85af55412ea40c1… (all of the seat's roots in one cut). By AI agents, Wed Nov 11 2026. No macro, syntax, notation, axiom, sorry.
-/
import Derived.Test.YtfbachckdadhoaaGreatChecked
import GoSem.Claim
import GoSem.ClaimJoined
import GoSem.ClaimMapViews
import Derived.JoinedTies
import Derived.KernelRfl
namespace Go.Proofs.YtfbachckdadhoaaGreat
/- THE CELL 'sum', in the pinned program and in every row, IS THE sha256 OF THE DUMP (.gsa) THAT YtfbachckdadhoaaGreatProg.lean LOADS. Nothing in Lean hashes anything: it is a label: what it is worth is what the hold of that sum in a sandbox is worth. -/
noncomputable def Tryz.pinned : Pinned := { name := "ytfbachckdadhoaagreat", sum := "e85af55412ea40c1c7ed377899897febbfce3568be9ff867092e0fb19a5d8091", checked := Tryz.checked }
namespace Rows
def none {H : Type} : Left H := { results := [], args := [] }

/-- 'quilletlaw11.CertFree': WHATEVER THE INPUT: true; the input reads as it did. -/
def certFreeSpec : ChangeSpec := { name := "certFree", fn := fun _ => fun
  | [d1, d2, d3] => { results := [.lit (.bool true)], args := [d1, d2, d3] }
  | _ => none }
def certFreeRow : OpenClaim := { program := "ytfbachckdadhoaagreat", sum := "e85af55412ea40c1c7ed377899897febbfce3568be9ff867092e0fb19a5d8091", func := "quillet/quilletlaw11.CertFree", spec := "certFree", inPlace := ["math.Float64frombits", "math.Float64bits", "slices.overlaps[quillet/vers.Item]", "slices.overlaps[quillet/preds.Item]"], unfollowed := true, recurses := true, apart := false }
def CertFreeSaid : Prop := certFreeRow.holds Tryz.pinned (OpenSpec.ofChange certFreeSpec)

/-- ITS FALSE NEIGHBOUR: 'it returns false'. Refute it at one input. -/
def certFreeWrong : ChangeSpec := { name := "certFree", fn := fun _ => fun
  | [d1, d2, d3] => { results := [.lit (.bool false)], args := [d1, d2, d3] }
  | _ => none }
def CertFreeWrongFalsely : Prop := certFreeRow.holds Tryz.pinned (OpenSpec.ofChange certFreeWrong)

/-- 'quilletlaw11.CertSafe': WHATEVER THE INPUT: true; the input reads as it did. -/
def certSafeSpec : ChangeSpec := { name := "certSafe", fn := fun _ => fun
  | [d1, d2, d3] => { results := [.lit (.bool true)], args := [d1, d2, d3] }
  | _ => none }
def certSafeRow : OpenClaim := { program := "ytfbachckdadhoaagreat", sum := "e85af55412ea40c1c7ed377899897febbfce3568be9ff867092e0fb19a5d8091", func := "quillet/quilletlaw11.CertSafe", spec := "certSafe", inPlace := ["math.Float64frombits", "math.Float64bits", "slices.overlaps[quillet/vers.Item]", "slices.overlaps[quillet/preds.Item]"], unfollowed := true, recurses := true, apart := false }
def CertSafeSaid : Prop := certSafeRow.holds Tryz.pinned (OpenSpec.ofChange certSafeSpec)

/-- ITS FALSE NEIGHBOUR: 'it returns false'. Refute it at one input. -/
def certSafeWrong : ChangeSpec := { name := "certSafe", fn := fun _ => fun
  | [d1, d2, d3] => { results := [.lit (.bool false)], args := [d1, d2, d3] }
  | _ => none }
def CertSafeWrongFalsely : Prop := certSafeRow.holds Tryz.pinned (OpenSpec.ofChange certSafeWrong)

/-- 'quilletlaw11.CertPairs': WHATEVER THE INPUT: true; the input reads as it did. -/
def certPairsSpec : ChangeSpec := { name := "certPairs", fn := fun _ => fun
  | [d1, d2] => { results := [.lit (.bool true)], args := [d1, d2] }
  | _ => none }
def certPairsRow : OpenClaim := { program := "ytfbachckdadhoaagreat", sum := "e85af55412ea40c1c7ed377899897febbfce3568be9ff867092e0fb19a5d8091", func := "quillet/quilletlaw11.CertPairs", spec := "certPairs", inPlace := ["math.Float64frombits", "math.Float64bits", "slices.overlaps[quillet/vers.Item]", "slices.overlaps[quillet/preds.Item]"], unfollowed := true, recurses := true, apart := false }
def CertPairsSaid : Prop := certPairsRow.holds Tryz.pinned (OpenSpec.ofChange certPairsSpec)

/-- ITS FALSE NEIGHBOUR: 'it returns false'. Refute it at one input. -/
def certPairsWrong : ChangeSpec := { name := "certPairs", fn := fun _ => fun
  | [d1, d2] => { results := [.lit (.bool false)], args := [d1, d2] }
  | _ => none }
def CertPairsWrongFalsely : Prop := certPairsRow.holds Tryz.pinned (OpenSpec.ofChange certPairsWrong)

/-- 'quilletlaw11.CertChains': WHATEVER THE INPUT: true; the input reads as it did. -/
def certChainsSpec : ChangeSpec := { name := "certChains", fn := fun _ => fun
  | [d1, d2, d3] => { results := [.lit (.bool true)], args := [d1, d2, d3] }
  | _ => none }
def certChainsRow : OpenClaim := { program := "ytfbachckdadhoaagreat", sum := "e85af55412ea40c1c7ed377899897febbfce3568be9ff867092e0fb19a5d8091", func := "quillet/quilletlaw11.CertChains", spec := "certChains", inPlace := ["math.Float64frombits", "math.Float64bits", "slices.overlaps[quillet/vers.Item]", "slices.overlaps[quillet/preds.Item]"], unfollowed := true, recurses := true, apart := false }
def CertChainsSaid : Prop := certChainsRow.holds Tryz.pinned (OpenSpec.ofChange certChainsSpec)

/-- ITS FALSE NEIGHBOUR: 'it returns false'. Refute it at one input. -/
def certChainsWrong : ChangeSpec := { name := "certChains", fn := fun _ => fun
  | [d1, d2, d3] => { results := [.lit (.bool false)], args := [d1, d2, d3] }
  | _ => none }
def CertChainsWrongFalsely : Prop := certChainsRow.holds Tryz.pinned (OpenSpec.ofChange certChainsWrong)

/-- 'quilletlaw11.CertPlays': WHATEVER THE INPUT: true; the input reads as it did. -/
def certPlaysSpec : ChangeSpec := { name := "certPlays", fn := fun _ => fun
  | [d1, d2, d3] => { results := [.lit (.bool true)], args := [d1, d2, d3] }
  | _ => none }
def certPlaysRow : OpenClaim := { program := "ytfbachckdadhoaagreat", sum := "e85af55412ea40c1c7ed377899897febbfce3568be9ff867092e0fb19a5d8091", func := "quillet/quilletlaw11.CertPlays", spec := "certPlays", inPlace := ["math.Float64frombits", "math.Float64bits", "slices.overlaps[quillet/vers.Item]", "slices.overlaps[quillet/preds.Item]"], unfollowed := true, recurses := true, apart := false }
def CertPlaysSaid : Prop := certPlaysRow.holds Tryz.pinned (OpenSpec.ofChange certPlaysSpec)

/-- ITS FALSE NEIGHBOUR: 'it returns false'. Refute it at one input. -/
def certPlaysWrong : ChangeSpec := { name := "certPlays", fn := fun _ => fun
  | [d1, d2, d3] => { results := [.lit (.bool false)], args := [d1, d2, d3] }
  | _ => none }
def CertPlaysWrongFalsely : Prop := certPlaysRow.holds Tryz.pinned (OpenSpec.ofChange certPlaysWrong)

/-- 'quilletlaw11.CertAges': WHATEVER THE INPUT: true; the input reads as it did. -/
def certAgesSpec : ChangeSpec := { name := "certAges", fn := fun _ => fun
  | [d1, d2, d3] => { results := [.lit (.bool true)], args := [d1, d2, d3] }
  | _ => none }
def certAgesRow : OpenClaim := { program := "ytfbachckdadhoaagreat", sum := "e85af55412ea40c1c7ed377899897febbfce3568be9ff867092e0fb19a5d8091", func := "quillet/quilletlaw11.CertAges", spec := "certAges", inPlace := ["math.Float64frombits", "math.Float64bits", "slices.overlaps[quillet/vers.Item]", "slices.overlaps[quillet/preds.Item]"], unfollowed := true, recurses := true, apart := false }
def CertAgesSaid : Prop := certAgesRow.holds Tryz.pinned (OpenSpec.ofChange certAgesSpec)

/-- ITS FALSE NEIGHBOUR: 'it returns false'. Refute it at one input. -/
def certAgesWrong : ChangeSpec := { name := "certAges", fn := fun _ => fun
  | [d1, d2, d3] => { results := [.lit (.bool false)], args := [d1, d2, d3] }
  | _ => none }
def CertAgesWrongFalsely : Prop := certAgesRow.holds Tryz.pinned (OpenSpec.ofChange certAgesWrong)

/-- 'quilletlaw11.CertLoads': WHATEVER THE INPUT: true; the input reads as it did. -/
def certLoadsSpec : ChangeSpec := { name := "certLoads", fn := fun _ => fun
  | [d1, d2, d3, d4] => { results := [.lit (.bool true)], args := [d1, d2, d3, d4] }
  | _ => none }
def certLoadsRow : OpenClaim := { program := "ytfbachckdadhoaagreat", sum := "e85af55412ea40c1c7ed377899897febbfce3568be9ff867092e0fb19a5d8091", func := "quillet/quilletlaw11.CertLoads", spec := "certLoads", inPlace := ["math.Float64frombits", "math.Float64bits", "slices.overlaps[quillet/vers.Item]", "slices.overlaps[quillet/preds.Item]"], unfollowed := true, recurses := true, apart := false }
def CertLoadsSaid : Prop := certLoadsRow.holds Tryz.pinned (OpenSpec.ofChange certLoadsSpec)

/-- ITS FALSE NEIGHBOUR: 'it returns false'. Refute it at one input. -/
def certLoadsWrong : ChangeSpec := { name := "certLoads", fn := fun _ => fun
  | [d1, d2, d3, d4] => { results := [.lit (.bool false)], args := [d1, d2, d3, d4] }
  | _ => none }
def CertLoadsWrongFalsely : Prop := certLoadsRow.holds Tryz.pinned (OpenSpec.ofChange certLoadsWrong)

/-- 'quilletlaw11.CertBack': WHATEVER THE INPUT: true; the input reads as it did. -/
def certBackSpec : ChangeSpec := { name := "certBack", fn := fun _ => fun
  | [d1, d2, d3, d4] => { results := [.lit (.bool true)], args := [d1, d2, d3, d4] }
  | _ => none }
def certBackRow : OpenClaim := { program := "ytfbachckdadhoaagreat", sum := "e85af55412ea40c1c7ed377899897febbfce3568be9ff867092e0fb19a5d8091", func := "quillet/quilletlaw11.CertBack", spec := "certBack", inPlace := ["math.Float64frombits", "math.Float64bits", "slices.overlaps[quillet/vers.Item]", "slices.overlaps[quillet/preds.Item]"], unfollowed := true, recurses := true, apart := false }
def CertBackSaid : Prop := certBackRow.holds Tryz.pinned (OpenSpec.ofChange certBackSpec)

/-- ITS FALSE NEIGHBOUR: 'it returns false'. Refute it at one input. -/
def certBackWrong : ChangeSpec := { name := "certBack", fn := fun _ => fun
  | [d1, d2, d3, d4] => { results := [.lit (.bool false)], args := [d1, d2, d3, d4] }
  | _ => none }
def CertBackWrongFalsely : Prop := certBackRow.holds Tryz.pinned (OpenSpec.ofChange certBackWrong)

/- THE SECOND FORM. 'bulk': how many values and letters a reading holds, each counted each time it is reached (what is shared counts as often as it is met; a slice's spare places count too). A statement '..UptoSaid' is the law's where the arguments, and the package variables that the reading takes, are together of bulk at most 1048576: NARROWER than '..Said'. Prove '..Said' where nothing that the law and all that it calls make is longer than what came in: it says more and counts as full. Else prove '..UptoSaid'. A law counts once. -/
mutual
def uptoBulk {H : Type} : DataW H → Nat
  | .lit (.string bytes) => bytes.length + 1
  | .lit _ => 1
  | .nil => 1
  | .ptr d => uptoBulk d + 1
  | .slice elems spare => uptoBulkAll elems + uptoBulkAll spare + 1
  | .agg parts => uptoBulkAll parts + 1
  | .iface _ d => uptoBulk d + 1
  | .map entries => uptoBulkEntries entries + 1
  | .held _ => 1
def uptoBulkAll {H : Type} : List (DataW H) → Nat
  | [] => 0
  | d :: r => uptoBulk d + uptoBulkAll r
def uptoBulkEntries {H : Type} : List (Lit × DataW H) → Nat
  | [] => 0
  | x :: r => uptoBulkEntry x + uptoBulkEntries r
def uptoBulkEntry {H : Type} : Lit × DataW H → Nat
  | (.string bytes, d) => bytes.length + uptoBulk d + 1
  | (_, d) => uptoBulk d + 1
 end
def uptoSmall : (H : Type) → List (DataW H) → Bool := fun _ ds => decide (uptoBulkAll ds ≤ 1048576)
def OpenSpec.upto (s : _root_.Go.ChangeSpec) : _root_.Go.OpenSpec := { _root_.Go.OpenSpec.ofChange s with cond := some uptoSmall }

/-- 'quilletlaw11.CertFree', WHERE WHAT IT READS IS OF BULK AT MOST 1048576: true; the input reads as it did. -/
def certFreeUptoRow : OpenClaim := { program := "ytfbachckdadhoaagreat", sum := "e85af55412ea40c1c7ed377899897febbfce3568be9ff867092e0fb19a5d8091", func := "quillet/quilletlaw11.CertFree", spec := "certFree", inPlace := ["math.Float64frombits", "math.Float64bits", "slices.overlaps[quillet/vers.Item]", "slices.overlaps[quillet/preds.Item]"], unfollowed := true, recurses := true, apart := false, narrowed := true }
def CertFreeUptoSaid : Prop := certFreeUptoRow.holds Tryz.pinned (OpenSpec.upto certFreeSpec)

/-- 'quilletlaw11.CertSafe', WHERE WHAT IT READS IS OF BULK AT MOST 1048576: true; the input reads as it did. -/
def certSafeUptoRow : OpenClaim := { program := "ytfbachckdadhoaagreat", sum := "e85af55412ea40c1c7ed377899897febbfce3568be9ff867092e0fb19a5d8091", func := "quillet/quilletlaw11.CertSafe", spec := "certSafe", inPlace := ["math.Float64frombits", "math.Float64bits", "slices.overlaps[quillet/vers.Item]", "slices.overlaps[quillet/preds.Item]"], unfollowed := true, recurses := true, apart := false, narrowed := true }
def CertSafeUptoSaid : Prop := certSafeUptoRow.holds Tryz.pinned (OpenSpec.upto certSafeSpec)

/-- 'quilletlaw11.CertPairs', WHERE WHAT IT READS IS OF BULK AT MOST 1048576: true; the input reads as it did. -/
def certPairsUptoRow : OpenClaim := { program := "ytfbachckdadhoaagreat", sum := "e85af55412ea40c1c7ed377899897febbfce3568be9ff867092e0fb19a5d8091", func := "quillet/quilletlaw11.CertPairs", spec := "certPairs", inPlace := ["math.Float64frombits", "math.Float64bits", "slices.overlaps[quillet/vers.Item]", "slices.overlaps[quillet/preds.Item]"], unfollowed := true, recurses := true, apart := false, narrowed := true }
def CertPairsUptoSaid : Prop := certPairsUptoRow.holds Tryz.pinned (OpenSpec.upto certPairsSpec)

/-- 'quilletlaw11.CertChains', WHERE WHAT IT READS IS OF BULK AT MOST 1048576: true; the input reads as it did. -/
def certChainsUptoRow : OpenClaim := { program := "ytfbachckdadhoaagreat", sum := "e85af55412ea40c1c7ed377899897febbfce3568be9ff867092e0fb19a5d8091", func := "quillet/quilletlaw11.CertChains", spec := "certChains", inPlace := ["math.Float64frombits", "math.Float64bits", "slices.overlaps[quillet/vers.Item]", "slices.overlaps[quillet/preds.Item]"], unfollowed := true, recurses := true, apart := false, narrowed := true }
def CertChainsUptoSaid : Prop := certChainsUptoRow.holds Tryz.pinned (OpenSpec.upto certChainsSpec)

/-- 'quilletlaw11.CertPlays', WHERE WHAT IT READS IS OF BULK AT MOST 1048576: true; the input reads as it did. -/
def certPlaysUptoRow : OpenClaim := { program := "ytfbachckdadhoaagreat", sum := "e85af55412ea40c1c7ed377899897febbfce3568be9ff867092e0fb19a5d8091", func := "quillet/quilletlaw11.CertPlays", spec := "certPlays", inPlace := ["math.Float64frombits", "math.Float64bits", "slices.overlaps[quillet/vers.Item]", "slices.overlaps[quillet/preds.Item]"], unfollowed := true, recurses := true, apart := false, narrowed := true }
def CertPlaysUptoSaid : Prop := certPlaysUptoRow.holds Tryz.pinned (OpenSpec.upto certPlaysSpec)

/-- 'quilletlaw11.CertAges', WHERE WHAT IT READS IS OF BULK AT MOST 1048576: true; the input reads as it did. -/
def certAgesUptoRow : OpenClaim := { program := "ytfbachckdadhoaagreat", sum := "e85af55412ea40c1c7ed377899897febbfce3568be9ff867092e0fb19a5d8091", func := "quillet/quilletlaw11.CertAges", spec := "certAges", inPlace := ["math.Float64frombits", "math.Float64bits", "slices.overlaps[quillet/vers.Item]", "slices.overlaps[quillet/preds.Item]"], unfollowed := true, recurses := true, apart := false, narrowed := true }
def CertAgesUptoSaid : Prop := certAgesUptoRow.holds Tryz.pinned (OpenSpec.upto certAgesSpec)

/-- 'quilletlaw11.CertLoads', WHERE WHAT IT READS IS OF BULK AT MOST 1048576: true; the input reads as it did. -/
def certLoadsUptoRow : OpenClaim := { program := "ytfbachckdadhoaagreat", sum := "e85af55412ea40c1c7ed377899897febbfce3568be9ff867092e0fb19a5d8091", func := "quillet/quilletlaw11.CertLoads", spec := "certLoads", inPlace := ["math.Float64frombits", "math.Float64bits", "slices.overlaps[quillet/vers.Item]", "slices.overlaps[quillet/preds.Item]"], unfollowed := true, recurses := true, apart := false, narrowed := true }
def CertLoadsUptoSaid : Prop := certLoadsUptoRow.holds Tryz.pinned (OpenSpec.upto certLoadsSpec)

/-- 'quilletlaw11.CertBack', WHERE WHAT IT READS IS OF BULK AT MOST 1048576: true; the input reads as it did. -/
def certBackUptoRow : OpenClaim := { program := "ytfbachckdadhoaagreat", sum := "e85af55412ea40c1c7ed377899897febbfce3568be9ff867092e0fb19a5d8091", func := "quillet/quilletlaw11.CertBack", spec := "certBack", inPlace := ["math.Float64frombits", "math.Float64bits", "slices.overlaps[quillet/vers.Item]", "slices.overlaps[quillet/preds.Item]"], unfollowed := true, recurses := true, apart := false, narrowed := true }
def CertBackUptoSaid : Prop := certBackUptoRow.holds Tryz.pinned (OpenSpec.upto certBackSpec)

end Rows
end Go.Proofs.YtfbachckdadhoaaGreat
