/-
  No cell of these rows narrows 'for every input' (looked for: loops, veiled, ifaces, maps, wideKeys, modest, calm, conditions, laid).
  DERIVED. THE GIVEN ROWS OF THIS SEAT. 9 by the template 'for every input the law returns true; each argument reads behind the call as it read before'; 0 by the template 'total and deterministic' (their statements: YtekmadgacepdfaaGreatTotals.lean).
  GIVEN WITH THE SEED: the statements are not yours to turn. If you find one false, say at which input.
  Laid BY PROGRAM, IN A SANDBOX (cutbox-rows.mjs): the forced cells as the released guide's own fill.sh prints them over the translation 71550f8cd90e7125… (all of the seat's roots in one cut). By AI agents, Wed Nov 11 2026. No macro, syntax, notation, axiom, sorry.
-/
import Derived.Test.YtekmadgacepdfaaGreatChecked
import GoSem.Claim
import GoSem.ClaimJoined
import GoSem.ClaimMapViews
import Derived.JoinedTies
import Derived.KernelRfl
namespace Go.Proofs.YtekmadgacepdfaaGreat
/- THE CELL 'sum', in the pinned program and in every row, IS THE sha256 OF THE DUMP (.gsa) THAT YtekmadgacepdfaaGreatProg.lean LOADS. Nothing in Lean hashes anything: it is a label: what it is worth is what the hold of that sum in a sandbox is worth. -/
noncomputable def Tryz.pinned : Pinned := { name := "ytekmadgacepdfaagreat", sum := "71550f8cd90e7125a8123c21b676b359e1af4143e1659a8aba398055fb20c2e1", checked := Tryz.checked }
namespace Rows
def none {H : Type} : Left H := { results := [], args := [] }

/-- 'quilletlaw21.ClientPlays': WHATEVER THE INPUT: true; the input reads as it did. -/
def clientPlaysSpec : ChangeSpec := { name := "clientPlays", fn := fun _ => fun
  | [d1, d2, d3] => { results := [.lit (.bool true)], args := [d1, d2, d3] }
  | _ => none }
def clientPlaysRow : OpenClaim := { program := "ytekmadgacepdfaagreat", sum := "71550f8cd90e7125a8123c21b676b359e1af4143e1659a8aba398055fb20c2e1", func := "quillet/quilletlaw21.ClientPlays", spec := "clientPlays", inPlace := ["math.Float64frombits", "math.Float64bits"], unfollowed := true, recurses := true, apart := false }
def ClientPlaysSaid : Prop := clientPlaysRow.holds Tryz.pinned (OpenSpec.ofChange clientPlaysSpec)

/-- ITS FALSE NEIGHBOUR: 'it returns false'. Refute it at one input. -/
def clientPlaysWrong : ChangeSpec := { name := "clientPlays", fn := fun _ => fun
  | [d1, d2, d3] => { results := [.lit (.bool false)], args := [d1, d2, d3] }
  | _ => none }
def ClientPlaysWrongFalsely : Prop := clientPlaysRow.holds Tryz.pinned (OpenSpec.ofChange clientPlaysWrong)

/-- 'quilletlaw21.ClientAll': WHATEVER THE INPUT: true; the input reads as it did. -/
def clientAllSpec : ChangeSpec := { name := "clientAll", fn := fun _ => fun
  | [d] => { results := [.lit (.bool true)], args := [d] }
  | _ => none }
def clientAllRow : OpenClaim := { program := "ytekmadgacepdfaagreat", sum := "71550f8cd90e7125a8123c21b676b359e1af4143e1659a8aba398055fb20c2e1", func := "quillet/quilletlaw21.ClientAll", spec := "clientAll", inPlace := ["math.Float64frombits", "math.Float64bits"], unfollowed := true, recurses := true, apart := false }
def ClientAllSaid : Prop := clientAllRow.holds Tryz.pinned (OpenSpec.ofChange clientAllSpec)

/-- ITS FALSE NEIGHBOUR: 'it returns false'. Refute it at one input. -/
def clientAllWrong : ChangeSpec := { name := "clientAll", fn := fun _ => fun
  | [d] => { results := [.lit (.bool false)], args := [d] }
  | _ => none }
def ClientAllWrongFalsely : Prop := clientAllRow.holds Tryz.pinned (OpenSpec.ofChange clientAllWrong)

/-- 'quilletlaw21.ClientTurns': WHATEVER THE INPUT: true; the input reads as it did. -/
def clientTurnsSpec : ChangeSpec := { name := "clientTurns", fn := fun _ => fun
  | [d1, d2, d3] => { results := [.lit (.bool true)], args := [d1, d2, d3] }
  | _ => none }
def clientTurnsRow : OpenClaim := { program := "ytekmadgacepdfaagreat", sum := "71550f8cd90e7125a8123c21b676b359e1af4143e1659a8aba398055fb20c2e1", func := "quillet/quilletlaw21.ClientTurns", spec := "clientTurns", inPlace := ["math.Float64frombits", "math.Float64bits"], unfollowed := true, recurses := true, apart := false }
def ClientTurnsSaid : Prop := clientTurnsRow.holds Tryz.pinned (OpenSpec.ofChange clientTurnsSpec)

/-- ITS FALSE NEIGHBOUR: 'it returns false'. Refute it at one input. -/
def clientTurnsWrong : ChangeSpec := { name := "clientTurns", fn := fun _ => fun
  | [d1, d2, d3] => { results := [.lit (.bool false)], args := [d1, d2, d3] }
  | _ => none }
def ClientTurnsWrongFalsely : Prop := clientTurnsRow.holds Tryz.pinned (OpenSpec.ofChange clientTurnsWrong)

/-- 'quilletlaw12.SerialRight': WHATEVER THE INPUT: true; the input reads as it did. -/
def serialRightSpec : ChangeSpec := { name := "serialRight", fn := fun _ => fun
  | [d] => { results := [.lit (.bool true)], args := [d] }
  | _ => none }
def serialRightRow : OpenClaim := { program := "ytekmadgacepdfaagreat", sum := "71550f8cd90e7125a8123c21b676b359e1af4143e1659a8aba398055fb20c2e1", func := "quillet/quilletlaw12.SerialRight", spec := "serialRight", inPlace := ["math.Float64frombits", "math.Float64bits"], unfollowed := true, recurses := true, apart := false }
def SerialRightSaid : Prop := serialRightRow.holds Tryz.pinned (OpenSpec.ofChange serialRightSpec)

/-- ITS FALSE NEIGHBOUR: 'it returns false'. Refute it at one input. -/
def serialRightWrong : ChangeSpec := { name := "serialRight", fn := fun _ => fun
  | [d] => { results := [.lit (.bool false)], args := [d] }
  | _ => none }
def SerialRightWrongFalsely : Prop := serialRightRow.holds Tryz.pinned (OpenSpec.ofChange serialRightWrong)

/-- 'quilletlaw12.SerialOrders': WHATEVER THE INPUT: true; the input reads as it did. -/
def serialOrdersSpec : ChangeSpec := { name := "serialOrders", fn := fun _ => fun
  | [d] => { results := [.lit (.bool true)], args := [d] }
  | _ => none }
def serialOrdersRow : OpenClaim := { program := "ytekmadgacepdfaagreat", sum := "71550f8cd90e7125a8123c21b676b359e1af4143e1659a8aba398055fb20c2e1", func := "quillet/quilletlaw12.SerialOrders", spec := "serialOrders", inPlace := ["math.Float64frombits", "math.Float64bits"], unfollowed := true, recurses := true, apart := false }
def SerialOrdersSaid : Prop := serialOrdersRow.holds Tryz.pinned (OpenSpec.ofChange serialOrdersSpec)

/-- ITS FALSE NEIGHBOUR: 'it returns false'. Refute it at one input. -/
def serialOrdersWrong : ChangeSpec := { name := "serialOrders", fn := fun _ => fun
  | [d] => { results := [.lit (.bool false)], args := [d] }
  | _ => none }
def SerialOrdersWrongFalsely : Prop := serialOrdersRow.holds Tryz.pinned (OpenSpec.ofChange serialOrdersWrong)

/-- 'quilletlaw12.SerialReads': WHATEVER THE INPUT: true; the input reads as it did. -/
def serialReadsSpec : ChangeSpec := { name := "serialReads", fn := fun _ => fun
  | [d1, d2] => { results := [.lit (.bool true)], args := [d1, d2] }
  | _ => none }
def serialReadsRow : OpenClaim := { program := "ytekmadgacepdfaagreat", sum := "71550f8cd90e7125a8123c21b676b359e1af4143e1659a8aba398055fb20c2e1", func := "quillet/quilletlaw12.SerialReads", spec := "serialReads", inPlace := ["math.Float64frombits", "math.Float64bits"], unfollowed := true, recurses := true, apart := false }
def SerialReadsSaid : Prop := serialReadsRow.holds Tryz.pinned (OpenSpec.ofChange serialReadsSpec)

/-- ITS FALSE NEIGHBOUR: 'it returns false'. Refute it at one input. -/
def serialReadsWrong : ChangeSpec := { name := "serialReads", fn := fun _ => fun
  | [d1, d2] => { results := [.lit (.bool false)], args := [d1, d2] }
  | _ => none }
def SerialReadsWrongFalsely : Prop := serialReadsRow.holds Tryz.pinned (OpenSpec.ofChange serialReadsWrong)

/-- 'quilletlaw12.SerialHolds': WHATEVER THE INPUT: true; the input reads as it did. -/
def serialHoldsSpec : ChangeSpec := { name := "serialHolds", fn := fun _ => fun
  | [d] => { results := [.lit (.bool true)], args := [d] }
  | _ => none }
def serialHoldsRow : OpenClaim := { program := "ytekmadgacepdfaagreat", sum := "71550f8cd90e7125a8123c21b676b359e1af4143e1659a8aba398055fb20c2e1", func := "quillet/quilletlaw12.SerialHolds", spec := "serialHolds", inPlace := ["math.Float64frombits", "math.Float64bits"], unfollowed := true, recurses := true, apart := false }
def SerialHoldsSaid : Prop := serialHoldsRow.holds Tryz.pinned (OpenSpec.ofChange serialHoldsSpec)

/-- ITS FALSE NEIGHBOUR: 'it returns false'. Refute it at one input. -/
def serialHoldsWrong : ChangeSpec := { name := "serialHolds", fn := fun _ => fun
  | [d] => { results := [.lit (.bool false)], args := [d] }
  | _ => none }
def SerialHoldsWrongFalsely : Prop := serialHoldsRow.holds Tryz.pinned (OpenSpec.ofChange serialHoldsWrong)

/-- 'quilletlaw12.SerialChains': WHATEVER THE INPUT: true; the input reads as it did. -/
def serialChainsSpec : ChangeSpec := { name := "serialChains", fn := fun _ => fun
  | [d1, d2] => { results := [.lit (.bool true)], args := [d1, d2] }
  | _ => none }
def serialChainsRow : OpenClaim := { program := "ytekmadgacepdfaagreat", sum := "71550f8cd90e7125a8123c21b676b359e1af4143e1659a8aba398055fb20c2e1", func := "quillet/quilletlaw12.SerialChains", spec := "serialChains", inPlace := ["math.Float64frombits", "math.Float64bits"], unfollowed := true, recurses := true, apart := false }
def SerialChainsSaid : Prop := serialChainsRow.holds Tryz.pinned (OpenSpec.ofChange serialChainsSpec)

/-- ITS FALSE NEIGHBOUR: 'it returns false'. Refute it at one input. -/
def serialChainsWrong : ChangeSpec := { name := "serialChains", fn := fun _ => fun
  | [d1, d2] => { results := [.lit (.bool false)], args := [d1, d2] }
  | _ => none }
def SerialChainsWrongFalsely : Prop := serialChainsRow.holds Tryz.pinned (OpenSpec.ofChange serialChainsWrong)

/-- 'quilletlaw12.SerialPairs': WHATEVER THE INPUT: true; the input reads as it did. -/
def serialPairsSpec : ChangeSpec := { name := "serialPairs", fn := fun _ => fun
  | [d1, d2, d3] => { results := [.lit (.bool true)], args := [d1, d2, d3] }
  | _ => none }
def serialPairsRow : OpenClaim := { program := "ytekmadgacepdfaagreat", sum := "71550f8cd90e7125a8123c21b676b359e1af4143e1659a8aba398055fb20c2e1", func := "quillet/quilletlaw12.SerialPairs", spec := "serialPairs", inPlace := ["math.Float64frombits", "math.Float64bits"], unfollowed := true, recurses := true, apart := false }
def SerialPairsSaid : Prop := serialPairsRow.holds Tryz.pinned (OpenSpec.ofChange serialPairsSpec)

/-- ITS FALSE NEIGHBOUR: 'it returns false'. Refute it at one input. -/
def serialPairsWrong : ChangeSpec := { name := "serialPairs", fn := fun _ => fun
  | [d1, d2, d3] => { results := [.lit (.bool false)], args := [d1, d2, d3] }
  | _ => none }
def SerialPairsWrongFalsely : Prop := serialPairsRow.holds Tryz.pinned (OpenSpec.ofChange serialPairsWrong)

/- THE SECOND FORM. 'bulk': how many values and letters a reading holds, each counted each time it is reached (what is shared counts as often as it is met; a slice's spare places count too). A statement '..UptoSaid' is the law's where the arguments, and the package variables that the reading takes, are together of bulk at most 1048576: NARROWER than '..Said'. Prove '..Said' where nothing that the law and all that it calls make is longer than what came in: it says more and counts as full. Else prove '..UptoSaid'. A law counts once. -/
mutual
def uptoBulk {H : Type} : DataW H → Nat
  | .lit (.string bytes) => bytes.length + 1
  | .lit _ => 1
  | .nil => 1
  | .ptr d => uptoBulk d + 1
  | .slice elems spare => uptoBulkAll elems + uptoBulkAll spare + 1
  | .agg parts => uptoBulkAll parts + 1
  | .iface _ d => uptoBulk d + 1
  | .map entries => uptoBulkEntries entries + 1
  | .held _ => 1
def uptoBulkAll {H : Type} : List (DataW H) → Nat
  | [] => 0
  | d :: r => uptoBulk d + uptoBulkAll r
def uptoBulkEntries {H : Type} : List (Lit × DataW H) → Nat
  | [] => 0
  | x :: r => uptoBulkEntry x + uptoBulkEntries r
def uptoBulkEntry {H : Type} : Lit × DataW H → Nat
  | (.string bytes, d) => bytes.length + uptoBulk d + 1
  | (_, d) => uptoBulk d + 1
 end
def uptoSmall : (H : Type) → List (DataW H) → Bool := fun _ ds => decide (uptoBulkAll ds ≤ 1048576)
def OpenSpec.upto (s : _root_.Go.ChangeSpec) : _root_.Go.OpenSpec := { _root_.Go.OpenSpec.ofChange s with cond := some uptoSmall }

/-- 'quilletlaw21.ClientPlays', WHERE WHAT IT READS IS OF BULK AT MOST 1048576: true; the input reads as it did. -/
def clientPlaysUptoRow : OpenClaim := { program := "ytekmadgacepdfaagreat", sum := "71550f8cd90e7125a8123c21b676b359e1af4143e1659a8aba398055fb20c2e1", func := "quillet/quilletlaw21.ClientPlays", spec := "clientPlays", inPlace := ["math.Float64frombits", "math.Float64bits"], unfollowed := true, recurses := true, apart := false, narrowed := true }
def ClientPlaysUptoSaid : Prop := clientPlaysUptoRow.holds Tryz.pinned (OpenSpec.upto clientPlaysSpec)

/-- 'quilletlaw21.ClientAll', WHERE WHAT IT READS IS OF BULK AT MOST 1048576: true; the input reads as it did. -/
def clientAllUptoRow : OpenClaim := { program := "ytekmadgacepdfaagreat", sum := "71550f8cd90e7125a8123c21b676b359e1af4143e1659a8aba398055fb20c2e1", func := "quillet/quilletlaw21.ClientAll", spec := "clientAll", inPlace := ["math.Float64frombits", "math.Float64bits"], unfollowed := true, recurses := true, apart := false, narrowed := true }
def ClientAllUptoSaid : Prop := clientAllUptoRow.holds Tryz.pinned (OpenSpec.upto clientAllSpec)

/-- 'quilletlaw21.ClientTurns', WHERE WHAT IT READS IS OF BULK AT MOST 1048576: true; the input reads as it did. -/
def clientTurnsUptoRow : OpenClaim := { program := "ytekmadgacepdfaagreat", sum := "71550f8cd90e7125a8123c21b676b359e1af4143e1659a8aba398055fb20c2e1", func := "quillet/quilletlaw21.ClientTurns", spec := "clientTurns", inPlace := ["math.Float64frombits", "math.Float64bits"], unfollowed := true, recurses := true, apart := false, narrowed := true }
def ClientTurnsUptoSaid : Prop := clientTurnsUptoRow.holds Tryz.pinned (OpenSpec.upto clientTurnsSpec)

/-- 'quilletlaw12.SerialRight', WHERE WHAT IT READS IS OF BULK AT MOST 1048576: true; the input reads as it did. -/
def serialRightUptoRow : OpenClaim := { program := "ytekmadgacepdfaagreat", sum := "71550f8cd90e7125a8123c21b676b359e1af4143e1659a8aba398055fb20c2e1", func := "quillet/quilletlaw12.SerialRight", spec := "serialRight", inPlace := ["math.Float64frombits", "math.Float64bits"], unfollowed := true, recurses := true, apart := false, narrowed := true }
def SerialRightUptoSaid : Prop := serialRightUptoRow.holds Tryz.pinned (OpenSpec.upto serialRightSpec)

/-- 'quilletlaw12.SerialOrders', WHERE WHAT IT READS IS OF BULK AT MOST 1048576: true; the input reads as it did. -/
def serialOrdersUptoRow : OpenClaim := { program := "ytekmadgacepdfaagreat", sum := "71550f8cd90e7125a8123c21b676b359e1af4143e1659a8aba398055fb20c2e1", func := "quillet/quilletlaw12.SerialOrders", spec := "serialOrders", inPlace := ["math.Float64frombits", "math.Float64bits"], unfollowed := true, recurses := true, apart := false, narrowed := true }
def SerialOrdersUptoSaid : Prop := serialOrdersUptoRow.holds Tryz.pinned (OpenSpec.upto serialOrdersSpec)

/-- 'quilletlaw12.SerialReads', WHERE WHAT IT READS IS OF BULK AT MOST 1048576: true; the input reads as it did. -/
def serialReadsUptoRow : OpenClaim := { program := "ytekmadgacepdfaagreat", sum := "71550f8cd90e7125a8123c21b676b359e1af4143e1659a8aba398055fb20c2e1", func := "quillet/quilletlaw12.SerialReads", spec := "serialReads", inPlace := ["math.Float64frombits", "math.Float64bits"], unfollowed := true, recurses := true, apart := false, narrowed := true }
def SerialReadsUptoSaid : Prop := serialReadsUptoRow.holds Tryz.pinned (OpenSpec.upto serialReadsSpec)

/-- 'quilletlaw12.SerialHolds', WHERE WHAT IT READS IS OF BULK AT MOST 1048576: true; the input reads as it did. -/
def serialHoldsUptoRow : OpenClaim := { program := "ytekmadgacepdfaagreat", sum := "71550f8cd90e7125a8123c21b676b359e1af4143e1659a8aba398055fb20c2e1", func := "quillet/quilletlaw12.SerialHolds", spec := "serialHolds", inPlace := ["math.Float64frombits", "math.Float64bits"], unfollowed := true, recurses := true, apart := false, narrowed := true }
def SerialHoldsUptoSaid : Prop := serialHoldsUptoRow.holds Tryz.pinned (OpenSpec.upto serialHoldsSpec)

/-- 'quilletlaw12.SerialChains', WHERE WHAT IT READS IS OF BULK AT MOST 1048576: true; the input reads as it did. -/
def serialChainsUptoRow : OpenClaim := { program := "ytekmadgacepdfaagreat", sum := "71550f8cd90e7125a8123c21b676b359e1af4143e1659a8aba398055fb20c2e1", func := "quillet/quilletlaw12.SerialChains", spec := "serialChains", inPlace := ["math.Float64frombits", "math.Float64bits"], unfollowed := true, recurses := true, apart := false, narrowed := true }
def SerialChainsUptoSaid : Prop := serialChainsUptoRow.holds Tryz.pinned (OpenSpec.upto serialChainsSpec)

/-- 'quilletlaw12.SerialPairs', WHERE WHAT IT READS IS OF BULK AT MOST 1048576: true; the input reads as it did. -/
def serialPairsUptoRow : OpenClaim := { program := "ytekmadgacepdfaagreat", sum := "71550f8cd90e7125a8123c21b676b359e1af4143e1659a8aba398055fb20c2e1", func := "quillet/quilletlaw12.SerialPairs", spec := "serialPairs", inPlace := ["math.Float64frombits", "math.Float64bits"], unfollowed := true, recurses := true, apart := false, narrowed := true }
def SerialPairsUptoSaid : Prop := serialPairsUptoRow.holds Tryz.pinned (OpenSpec.upto serialPairsSpec)

end Rows
end Go.Proofs.YtekmadgacepdfaaGreat
