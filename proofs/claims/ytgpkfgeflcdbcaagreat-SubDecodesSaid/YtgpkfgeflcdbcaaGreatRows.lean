/-
  No cell of these rows narrows 'for every input' (looked for: loops, veiled, ifaces, maps, wideKeys, modest, calm, conditions, laid).
  DERIVED. THE GIVEN ROWS OF THIS SEAT. 8 by the template 'for every input the law returns true; each argument reads behind the call as it read before'; 0 by the template 'total and deterministic' (their statements: YtgpkfgeflcdbcaaGreatTotals.lean).
  GIVEN WITH THE SEED: the statements are not yours to turn. If you find one false, say at which input.
  Laid BY PROGRAM, IN A SANDBOX (cutbox-rows.mjs): the forced cells as the released guide's own fill.sh prints them over the translation 32b5bb474dd9a906… (all of the seat's roots in one cut). By AI agents, Wed Nov 11 2026. No macro, syntax, notation, axiom, sorry.
-/
import Derived.Test.YtgpkfgeflcdbcaaGreatChecked
import GoSem.Claim
import GoSem.ClaimJoined
import GoSem.ClaimMapViews
import Derived.JoinedTies
import Derived.KernelRfl
namespace Go.Proofs.YtgpkfgeflcdbcaaGreat
/- THE CELL 'sum', in the pinned program and in every row, IS THE sha256 OF THE DUMP (.gsa) THAT YtgpkfgeflcdbcaaGreatProg.lean LOADS. Nothing in Lean hashes anything: it is a label: what it is worth is what the hold of that sum in a sandbox is worth. -/
noncomputable def Tryz.pinned : Pinned := { name := "ytgpkfgeflcdbcaagreat", sum := "32b5bb474dd9a90654fa579ea83a9fa0be18810e37a11b0c01045fe2320a13d2", checked := Tryz.checked }
namespace Rows
def none {H : Type} : Left H := { results := [], args := [] }

/-- 'quilletlaw04.SubCanons': WHATEVER THE INPUT: true; the input reads as it did. -/
def subCanonsSpec : ChangeSpec := { name := "subCanons", fn := fun _ => fun
  | [d] => { results := [.lit (.bool true)], args := [d] }
  | _ => none }
def subCanonsRow : OpenClaim := { program := "ytgpkfgeflcdbcaagreat", sum := "32b5bb474dd9a90654fa579ea83a9fa0be18810e37a11b0c01045fe2320a13d2", func := "quillet/quilletlaw04.SubCanons", spec := "subCanons", inPlace := ["math.Float64frombits", "math.Float64bits"], unfollowed := true, recurses := true, apart := false }
def SubCanonsSaid : Prop := subCanonsRow.holds Tryz.pinned (OpenSpec.ofChange subCanonsSpec)

/-- ITS FALSE NEIGHBOUR: 'it returns false'. Refute it at one input. -/
def subCanonsWrong : ChangeSpec := { name := "subCanons", fn := fun _ => fun
  | [d] => { results := [.lit (.bool false)], args := [d] }
  | _ => none }
def SubCanonsWrongFalsely : Prop := subCanonsRow.holds Tryz.pinned (OpenSpec.ofChange subCanonsWrong)

/-- 'quilletlaw04.SubEncodes': WHATEVER THE INPUT: true; the input reads as it did. -/
def subEncodesSpec : ChangeSpec := { name := "subEncodes", fn := fun _ => fun
  | [d] => { results := [.lit (.bool true)], args := [d] }
  | _ => none }
def subEncodesRow : OpenClaim := { program := "ytgpkfgeflcdbcaagreat", sum := "32b5bb474dd9a90654fa579ea83a9fa0be18810e37a11b0c01045fe2320a13d2", func := "quillet/quilletlaw04.SubEncodes", spec := "subEncodes", inPlace := ["math.Float64frombits", "math.Float64bits"], unfollowed := true, recurses := true, apart := false }
def SubEncodesSaid : Prop := subEncodesRow.holds Tryz.pinned (OpenSpec.ofChange subEncodesSpec)

/-- ITS FALSE NEIGHBOUR: 'it returns false'. Refute it at one input. -/
def subEncodesWrong : ChangeSpec := { name := "subEncodes", fn := fun _ => fun
  | [d] => { results := [.lit (.bool false)], args := [d] }
  | _ => none }
def SubEncodesWrongFalsely : Prop := subEncodesRow.holds Tryz.pinned (OpenSpec.ofChange subEncodesWrong)

/-- 'quilletlaw04.SubDecodes': WHATEVER THE INPUT: true; the input reads as it did. -/
def subDecodesSpec : ChangeSpec := { name := "subDecodes", fn := fun _ => fun
  | [d] => { results := [.lit (.bool true)], args := [d] }
  | _ => none }
def subDecodesRow : OpenClaim := { program := "ytgpkfgeflcdbcaagreat", sum := "32b5bb474dd9a90654fa579ea83a9fa0be18810e37a11b0c01045fe2320a13d2", func := "quillet/quilletlaw04.SubDecodes", spec := "subDecodes", inPlace := ["math.Float64frombits", "math.Float64bits"], unfollowed := true, recurses := true, apart := false }
def SubDecodesSaid : Prop := subDecodesRow.holds Tryz.pinned (OpenSpec.ofChange subDecodesSpec)

/-- ITS FALSE NEIGHBOUR: 'it returns false'. Refute it at one input. -/
def subDecodesWrong : ChangeSpec := { name := "subDecodes", fn := fun _ => fun
  | [d] => { results := [.lit (.bool false)], args := [d] }
  | _ => none }
def SubDecodesWrongFalsely : Prop := subDecodesRow.holds Tryz.pinned (OpenSpec.ofChange subDecodesWrong)

/-- 'quilletlaw04.SubBack': WHATEVER THE INPUT: true; the input reads as it did. -/
def subBackSpec : ChangeSpec := { name := "subBack", fn := fun _ => fun
  | [d1, d2] => { results := [.lit (.bool true)], args := [d1, d2] }
  | _ => none }
def subBackRow : OpenClaim := { program := "ytgpkfgeflcdbcaagreat", sum := "32b5bb474dd9a90654fa579ea83a9fa0be18810e37a11b0c01045fe2320a13d2", func := "quillet/quilletlaw04.SubBack", spec := "subBack", inPlace := ["math.Float64frombits", "math.Float64bits"], unfollowed := true, recurses := true, apart := false }
def SubBackSaid : Prop := subBackRow.holds Tryz.pinned (OpenSpec.ofChange subBackSpec)

/-- ITS FALSE NEIGHBOUR: 'it returns false'. Refute it at one input. -/
def subBackWrong : ChangeSpec := { name := "subBack", fn := fun _ => fun
  | [d1, d2] => { results := [.lit (.bool false)], args := [d1, d2] }
  | _ => none }
def SubBackWrongFalsely : Prop := subBackRow.holds Tryz.pinned (OpenSpec.ofChange subBackWrong)

/-- 'quilletlaw04.SubSame': WHATEVER THE INPUT: true; the input reads as it did. -/
def subSameSpec : ChangeSpec := { name := "subSame", fn := fun _ => fun
  | [d1, d2] => { results := [.lit (.bool true)], args := [d1, d2] }
  | _ => none }
def subSameRow : OpenClaim := { program := "ytgpkfgeflcdbcaagreat", sum := "32b5bb474dd9a90654fa579ea83a9fa0be18810e37a11b0c01045fe2320a13d2", func := "quillet/quilletlaw04.SubSame", spec := "subSame", inPlace := ["math.Float64frombits", "math.Float64bits"], unfollowed := true, recurses := true, apart := false }
def SubSameSaid : Prop := subSameRow.holds Tryz.pinned (OpenSpec.ofChange subSameSpec)

/-- ITS FALSE NEIGHBOUR: 'it returns false'. Refute it at one input. -/
def subSameWrong : ChangeSpec := { name := "subSame", fn := fun _ => fun
  | [d1, d2] => { results := [.lit (.bool false)], args := [d1, d2] }
  | _ => none }
def SubSameWrongFalsely : Prop := subSameRow.holds Tryz.pinned (OpenSpec.ofChange subSameWrong)

/-- 'quilletlaw04.SubPoints': WHATEVER THE INPUT: true; the input reads as it did. -/
def subPointsSpec : ChangeSpec := { name := "subPoints", fn := fun _ => fun
  | [d1, d2] => { results := [.lit (.bool true)], args := [d1, d2] }
  | _ => none }
def subPointsRow : OpenClaim := { program := "ytgpkfgeflcdbcaagreat", sum := "32b5bb474dd9a90654fa579ea83a9fa0be18810e37a11b0c01045fe2320a13d2", func := "quillet/quilletlaw04.SubPoints", spec := "subPoints", inPlace := ["math.Float64frombits", "math.Float64bits"], unfollowed := true, recurses := true, apart := false }
def SubPointsSaid : Prop := subPointsRow.holds Tryz.pinned (OpenSpec.ofChange subPointsSpec)

/-- ITS FALSE NEIGHBOUR: 'it returns false'. Refute it at one input. -/
def subPointsWrong : ChangeSpec := { name := "subPoints", fn := fun _ => fun
  | [d1, d2] => { results := [.lit (.bool false)], args := [d1, d2] }
  | _ => none }
def SubPointsWrongFalsely : Prop := subPointsRow.holds Tryz.pinned (OpenSpec.ofChange subPointsWrong)

/-- 'quilletlaw04.SubTurns': WHATEVER THE INPUT: true; the input reads as it did. -/
def subTurnsSpec : ChangeSpec := { name := "subTurns", fn := fun _ => fun
  | [d] => { results := [.lit (.bool true)], args := [d] }
  | _ => none }
def subTurnsRow : OpenClaim := { program := "ytgpkfgeflcdbcaagreat", sum := "32b5bb474dd9a90654fa579ea83a9fa0be18810e37a11b0c01045fe2320a13d2", func := "quillet/quilletlaw04.SubTurns", spec := "subTurns", inPlace := ["math.Float64frombits", "math.Float64bits"], unfollowed := true, recurses := true, apart := false }
def SubTurnsSaid : Prop := subTurnsRow.holds Tryz.pinned (OpenSpec.ofChange subTurnsSpec)

/-- ITS FALSE NEIGHBOUR: 'it returns false'. Refute it at one input. -/
def subTurnsWrong : ChangeSpec := { name := "subTurns", fn := fun _ => fun
  | [d] => { results := [.lit (.bool false)], args := [d] }
  | _ => none }
def SubTurnsWrongFalsely : Prop := subTurnsRow.holds Tryz.pinned (OpenSpec.ofChange subTurnsWrong)

/-- 'quilletlaw04.SubStays': WHATEVER THE INPUT: true; the input reads as it did. -/
def subStaysSpec : ChangeSpec := { name := "subStays", fn := fun _ => fun
  | [d1, d2] => { results := [.lit (.bool true)], args := [d1, d2] }
  | _ => none }
def subStaysRow : OpenClaim := { program := "ytgpkfgeflcdbcaagreat", sum := "32b5bb474dd9a90654fa579ea83a9fa0be18810e37a11b0c01045fe2320a13d2", func := "quillet/quilletlaw04.SubStays", spec := "subStays", inPlace := ["math.Float64frombits", "math.Float64bits"], unfollowed := true, recurses := true, apart := false }
def SubStaysSaid : Prop := subStaysRow.holds Tryz.pinned (OpenSpec.ofChange subStaysSpec)

/-- ITS FALSE NEIGHBOUR: 'it returns false'. Refute it at one input. -/
def subStaysWrong : ChangeSpec := { name := "subStays", fn := fun _ => fun
  | [d1, d2] => { results := [.lit (.bool false)], args := [d1, d2] }
  | _ => none }
def SubStaysWrongFalsely : Prop := subStaysRow.holds Tryz.pinned (OpenSpec.ofChange subStaysWrong)

/- THE SECOND FORM. 'bulk': how many values and letters a reading holds, each counted each time it is reached (what is shared counts as often as it is met; a slice's spare places count too). A statement '..UptoSaid' is the law's where the arguments, and the package variables that the reading takes, are together of bulk at most 1048576: NARROWER than '..Said'. Prove '..Said' where nothing that the law and all that it calls make is longer than what came in: it says more and counts as full. Else prove '..UptoSaid'. A law counts once. -/
mutual
def uptoBulk {H : Type} : DataW H → Nat
  | .lit (.string bytes) => bytes.length + 1
  | .lit _ => 1
  | .nil => 1
  | .ptr d => uptoBulk d + 1
  | .slice elems spare => uptoBulkAll elems + uptoBulkAll spare + 1
  | .agg parts => uptoBulkAll parts + 1
  | .iface _ d => uptoBulk d + 1
  | .map entries => uptoBulkEntries entries + 1
  | .held _ => 1
def uptoBulkAll {H : Type} : List (DataW H) → Nat
  | [] => 0
  | d :: r => uptoBulk d + uptoBulkAll r
def uptoBulkEntries {H : Type} : List (Lit × DataW H) → Nat
  | [] => 0
  | x :: r => uptoBulkEntry x + uptoBulkEntries r
def uptoBulkEntry {H : Type} : Lit × DataW H → Nat
  | (.string bytes, d) => bytes.length + uptoBulk d + 1
  | (_, d) => uptoBulk d + 1
 end
def uptoSmall : (H : Type) → List (DataW H) → Bool := fun _ ds => decide (uptoBulkAll ds ≤ 1048576)
def OpenSpec.upto (s : _root_.Go.ChangeSpec) : _root_.Go.OpenSpec := { _root_.Go.OpenSpec.ofChange s with cond := some uptoSmall }

/-- 'quilletlaw04.SubCanons', WHERE WHAT IT READS IS OF BULK AT MOST 1048576: true; the input reads as it did. -/
def subCanonsUptoRow : OpenClaim := { program := "ytgpkfgeflcdbcaagreat", sum := "32b5bb474dd9a90654fa579ea83a9fa0be18810e37a11b0c01045fe2320a13d2", func := "quillet/quilletlaw04.SubCanons", spec := "subCanons", inPlace := ["math.Float64frombits", "math.Float64bits"], unfollowed := true, recurses := true, apart := false, narrowed := true }
def SubCanonsUptoSaid : Prop := subCanonsUptoRow.holds Tryz.pinned (OpenSpec.upto subCanonsSpec)

/-- 'quilletlaw04.SubEncodes', WHERE WHAT IT READS IS OF BULK AT MOST 1048576: true; the input reads as it did. -/
def subEncodesUptoRow : OpenClaim := { program := "ytgpkfgeflcdbcaagreat", sum := "32b5bb474dd9a90654fa579ea83a9fa0be18810e37a11b0c01045fe2320a13d2", func := "quillet/quilletlaw04.SubEncodes", spec := "subEncodes", inPlace := ["math.Float64frombits", "math.Float64bits"], unfollowed := true, recurses := true, apart := false, narrowed := true }
def SubEncodesUptoSaid : Prop := subEncodesUptoRow.holds Tryz.pinned (OpenSpec.upto subEncodesSpec)

/-- 'quilletlaw04.SubDecodes', WHERE WHAT IT READS IS OF BULK AT MOST 1048576: true; the input reads as it did. -/
def subDecodesUptoRow : OpenClaim := { program := "ytgpkfgeflcdbcaagreat", sum := "32b5bb474dd9a90654fa579ea83a9fa0be18810e37a11b0c01045fe2320a13d2", func := "quillet/quilletlaw04.SubDecodes", spec := "subDecodes", inPlace := ["math.Float64frombits", "math.Float64bits"], unfollowed := true, recurses := true, apart := false, narrowed := true }
def SubDecodesUptoSaid : Prop := subDecodesUptoRow.holds Tryz.pinned (OpenSpec.upto subDecodesSpec)

/-- 'quilletlaw04.SubBack', WHERE WHAT IT READS IS OF BULK AT MOST 1048576: true; the input reads as it did. -/
def subBackUptoRow : OpenClaim := { program := "ytgpkfgeflcdbcaagreat", sum := "32b5bb474dd9a90654fa579ea83a9fa0be18810e37a11b0c01045fe2320a13d2", func := "quillet/quilletlaw04.SubBack", spec := "subBack", inPlace := ["math.Float64frombits", "math.Float64bits"], unfollowed := true, recurses := true, apart := false, narrowed := true }
def SubBackUptoSaid : Prop := subBackUptoRow.holds Tryz.pinned (OpenSpec.upto subBackSpec)

/-- 'quilletlaw04.SubSame', WHERE WHAT IT READS IS OF BULK AT MOST 1048576: true; the input reads as it did. -/
def subSameUptoRow : OpenClaim := { program := "ytgpkfgeflcdbcaagreat", sum := "32b5bb474dd9a90654fa579ea83a9fa0be18810e37a11b0c01045fe2320a13d2", func := "quillet/quilletlaw04.SubSame", spec := "subSame", inPlace := ["math.Float64frombits", "math.Float64bits"], unfollowed := true, recurses := true, apart := false, narrowed := true }
def SubSameUptoSaid : Prop := subSameUptoRow.holds Tryz.pinned (OpenSpec.upto subSameSpec)

/-- 'quilletlaw04.SubPoints', WHERE WHAT IT READS IS OF BULK AT MOST 1048576: true; the input reads as it did. -/
def subPointsUptoRow : OpenClaim := { program := "ytgpkfgeflcdbcaagreat", sum := "32b5bb474dd9a90654fa579ea83a9fa0be18810e37a11b0c01045fe2320a13d2", func := "quillet/quilletlaw04.SubPoints", spec := "subPoints", inPlace := ["math.Float64frombits", "math.Float64bits"], unfollowed := true, recurses := true, apart := false, narrowed := true }
def SubPointsUptoSaid : Prop := subPointsUptoRow.holds Tryz.pinned (OpenSpec.upto subPointsSpec)

/-- 'quilletlaw04.SubTurns', WHERE WHAT IT READS IS OF BULK AT MOST 1048576: true; the input reads as it did. -/
def subTurnsUptoRow : OpenClaim := { program := "ytgpkfgeflcdbcaagreat", sum := "32b5bb474dd9a90654fa579ea83a9fa0be18810e37a11b0c01045fe2320a13d2", func := "quillet/quilletlaw04.SubTurns", spec := "subTurns", inPlace := ["math.Float64frombits", "math.Float64bits"], unfollowed := true, recurses := true, apart := false, narrowed := true }
def SubTurnsUptoSaid : Prop := subTurnsUptoRow.holds Tryz.pinned (OpenSpec.upto subTurnsSpec)

/-- 'quilletlaw04.SubStays', WHERE WHAT IT READS IS OF BULK AT MOST 1048576: true; the input reads as it did. -/
def subStaysUptoRow : OpenClaim := { program := "ytgpkfgeflcdbcaagreat", sum := "32b5bb474dd9a90654fa579ea83a9fa0be18810e37a11b0c01045fe2320a13d2", func := "quillet/quilletlaw04.SubStays", spec := "subStays", inPlace := ["math.Float64frombits", "math.Float64bits"], unfollowed := true, recurses := true, apart := false, narrowed := true }
def SubStaysUptoSaid : Prop := subStaysUptoRow.holds Tryz.pinned (OpenSpec.upto subStaysSpec)

end Rows
end Go.Proofs.YtgpkfgeflcdbcaaGreat
