/-
  No cell of these rows narrows 'for every input' (looked for: loops, veiled, ifaces, maps, wideKeys, modest, calm, conditions, laid).
  DERIVED. THE GIVEN ROWS OF THIS SEAT. 12 by the template 'for every input the law returns true; each argument reads behind the call as it read before'; 0 by the template 'total and deterministic' (their statements: YtibimhjbhincnaaTotals.lean).
  GIVEN WITH THE SEED: the statements are not yours to turn. If you find one false, say at which input.
  Laid BY PROGRAM, IN A SANDBOX (cutbox-rows.mjs): the forced cells as the released guide's own fill.sh prints them over the translation 70ab6d770f0ec2ac… (all of the seat's roots in one cut). By AI agents, Wed Nov 11 2026. No macro, syntax, notation, axiom, sorry.
-/
import Derived.Test.YtibimhjbhincnaaChecked
import GoSem.Claim
import GoSem.ClaimJoined
import GoSem.ClaimMapViews
import Derived.JoinedTies
import Derived.KernelRfl
namespace Go.Proofs.Ytibimhjbhincnaa
/- THE CELL 'sum', in the pinned program and in every row, IS THE sha256 OF THE DUMP (.gsa) THAT YtibimhjbhincnaaProg.lean LOADS. Nothing in Lean hashes anything: it is a label: what it is worth is what the hold of that sum in a sandbox is worth. -/
noncomputable def Try.pinned : Pinned := { name := "ytibimhjbhincnaa", sum := "70ab6d770f0ec2acd9647619c0847756f79e59580850c059974f2878be435e02", checked := Try.checked }
namespace Rows
def none {H : Type} : Left H := { results := [], args := [] }

/-- 'quilletlaw02.SpanForms': WHATEVER THE INPUT: true; the input reads as it did. -/
def spanFormsSpec : ChangeSpec := { name := "spanForms", fn := fun _ => fun
  | [d] => { results := [.lit (.bool true)], args := [d] }
  | _ => none }
def spanFormsRow : OpenClaim := { program := "ytibimhjbhincnaa", sum := "70ab6d770f0ec2acd9647619c0847756f79e59580850c059974f2878be435e02", func := "quillet/quilletlaw02.SpanForms", spec := "spanForms", inPlace := ["math.Float64frombits", "math.Float64bits"], apart := false }
def SpanFormsSaid : Prop := spanFormsRow.holds Try.pinned (OpenSpec.ofChange spanFormsSpec)

/-- ITS FALSE NEIGHBOUR: 'it returns false'. Refute it at one input. -/
def spanFormsWrong : ChangeSpec := { name := "spanForms", fn := fun _ => fun
  | [d] => { results := [.lit (.bool false)], args := [d] }
  | _ => none }
def SpanFormsWrongFalsely : Prop := spanFormsRow.holds Try.pinned (OpenSpec.ofChange spanFormsWrong)

/-- 'quilletlaw02.SpanHas': WHATEVER THE INPUT: true; the input reads as it did. -/
def spanHasSpec : ChangeSpec := { name := "spanHas", fn := fun _ => fun
  | [d1, d2] => { results := [.lit (.bool true)], args := [d1, d2] }
  | _ => none }
def spanHasRow : OpenClaim := { program := "ytibimhjbhincnaa", sum := "70ab6d770f0ec2acd9647619c0847756f79e59580850c059974f2878be435e02", func := "quillet/quilletlaw02.SpanHas", spec := "spanHas", inPlace := ["math.Float64frombits", "math.Float64bits"], apart := false }
def SpanHasSaid : Prop := spanHasRow.holds Try.pinned (OpenSpec.ofChange spanHasSpec)

/-- ITS FALSE NEIGHBOUR: 'it returns false'. Refute it at one input. -/
def spanHasWrong : ChangeSpec := { name := "spanHas", fn := fun _ => fun
  | [d1, d2] => { results := [.lit (.bool false)], args := [d1, d2] }
  | _ => none }
def SpanHasWrongFalsely : Prop := spanHasRow.holds Try.pinned (OpenSpec.ofChange spanHasWrong)

/-- 'quilletlaw02.SpanEnds': WHATEVER THE INPUT: true; the input reads as it did. -/
def spanEndsSpec : ChangeSpec := { name := "spanEnds", fn := fun _ => fun
  | [d] => { results := [.lit (.bool true)], args := [d] }
  | _ => none }
def spanEndsRow : OpenClaim := { program := "ytibimhjbhincnaa", sum := "70ab6d770f0ec2acd9647619c0847756f79e59580850c059974f2878be435e02", func := "quillet/quilletlaw02.SpanEnds", spec := "spanEnds", inPlace := ["math.Float64frombits", "math.Float64bits"], apart := false }
def SpanEndsSaid : Prop := spanEndsRow.holds Try.pinned (OpenSpec.ofChange spanEndsSpec)

/-- ITS FALSE NEIGHBOUR: 'it returns false'. Refute it at one input. -/
def spanEndsWrong : ChangeSpec := { name := "spanEnds", fn := fun _ => fun
  | [d] => { results := [.lit (.bool false)], args := [d] }
  | _ => none }
def SpanEndsWrongFalsely : Prop := spanEndsRow.holds Try.pinned (OpenSpec.ofChange spanEndsWrong)

/-- 'quilletlaw02.SpanOnes': WHATEVER THE INPUT: true; the input reads as it did. -/
def spanOnesSpec : ChangeSpec := { name := "spanOnes", fn := fun _ => fun
  | [d1, d2] => { results := [.lit (.bool true)], args := [d1, d2] }
  | _ => none }
def spanOnesRow : OpenClaim := { program := "ytibimhjbhincnaa", sum := "70ab6d770f0ec2acd9647619c0847756f79e59580850c059974f2878be435e02", func := "quillet/quilletlaw02.SpanOnes", spec := "spanOnes", inPlace := ["math.Float64frombits", "math.Float64bits"], apart := false }
def SpanOnesSaid : Prop := spanOnesRow.holds Try.pinned (OpenSpec.ofChange spanOnesSpec)

/-- ITS FALSE NEIGHBOUR: 'it returns false'. Refute it at one input. -/
def spanOnesWrong : ChangeSpec := { name := "spanOnes", fn := fun _ => fun
  | [d1, d2] => { results := [.lit (.bool false)], args := [d1, d2] }
  | _ => none }
def SpanOnesWrongFalsely : Prop := spanOnesRow.holds Try.pinned (OpenSpec.ofChange spanOnesWrong)

/-- 'quilletlaw04.SubKeys': WHATEVER THE INPUT: true; the input reads as it did. -/
def subKeysSpec : ChangeSpec := { name := "subKeys", fn := fun _ => fun
  | [d1, d2, d3] => { results := [.lit (.bool true)], args := [d1, d2, d3] }
  | _ => none }
def subKeysRow : OpenClaim := { program := "ytibimhjbhincnaa", sum := "70ab6d770f0ec2acd9647619c0847756f79e59580850c059974f2878be435e02", func := "quillet/quilletlaw04.SubKeys", spec := "subKeys", inPlace := ["math.Float64frombits", "math.Float64bits"], unfollowed := true, recurses := true, apart := false }
def SubKeysSaid : Prop := subKeysRow.holds Try.pinned (OpenSpec.ofChange subKeysSpec)

/-- ITS FALSE NEIGHBOUR: 'it returns false'. Refute it at one input. -/
def subKeysWrong : ChangeSpec := { name := "subKeys", fn := fun _ => fun
  | [d1, d2, d3] => { results := [.lit (.bool false)], args := [d1, d2, d3] }
  | _ => none }
def SubKeysWrongFalsely : Prop := subKeysRow.holds Try.pinned (OpenSpec.ofChange subKeysWrong)

/-- 'quilletlaw02.SpanOrder': WHATEVER THE INPUT: true; the input reads as it did. -/
def spanOrderSpec : ChangeSpec := { name := "spanOrder", fn := fun _ => fun
  | [d1, d2] => { results := [.lit (.bool true)], args := [d1, d2] }
  | _ => none }
def spanOrderRow : OpenClaim := { program := "ytibimhjbhincnaa", sum := "70ab6d770f0ec2acd9647619c0847756f79e59580850c059974f2878be435e02", func := "quillet/quilletlaw02.SpanOrder", spec := "spanOrder", inPlace := ["math.Float64frombits", "math.Float64bits"], apart := false }
def SpanOrderSaid : Prop := spanOrderRow.holds Try.pinned (OpenSpec.ofChange spanOrderSpec)

/-- ITS FALSE NEIGHBOUR: 'it returns false'. Refute it at one input. -/
def spanOrderWrong : ChangeSpec := { name := "spanOrder", fn := fun _ => fun
  | [d1, d2] => { results := [.lit (.bool false)], args := [d1, d2] }
  | _ => none }
def SpanOrderWrongFalsely : Prop := spanOrderRow.holds Try.pinned (OpenSpec.ofChange spanOrderWrong)

/-- 'quilletlaw02.SpanMeets': WHATEVER THE INPUT: true; the input reads as it did. -/
def spanMeetsSpec : ChangeSpec := { name := "spanMeets", fn := fun _ => fun
  | [d1, d2] => { results := [.lit (.bool true)], args := [d1, d2] }
  | _ => none }
def spanMeetsRow : OpenClaim := { program := "ytibimhjbhincnaa", sum := "70ab6d770f0ec2acd9647619c0847756f79e59580850c059974f2878be435e02", func := "quillet/quilletlaw02.SpanMeets", spec := "spanMeets", inPlace := ["math.Float64frombits", "math.Float64bits"], unfollowed := true, recurses := true, apart := false }
def SpanMeetsSaid : Prop := spanMeetsRow.holds Try.pinned (OpenSpec.ofChange spanMeetsSpec)

/-- ITS FALSE NEIGHBOUR: 'it returns false'. Refute it at one input. -/
def spanMeetsWrong : ChangeSpec := { name := "spanMeets", fn := fun _ => fun
  | [d1, d2] => { results := [.lit (.bool false)], args := [d1, d2] }
  | _ => none }
def SpanMeetsWrongFalsely : Prop := spanMeetsRow.holds Try.pinned (OpenSpec.ofChange spanMeetsWrong)

/-- 'quilletlaw02.SpanJoins': WHATEVER THE INPUT: true; the input reads as it did. -/
def spanJoinsSpec : ChangeSpec := { name := "spanJoins", fn := fun _ => fun
  | [d1, d2] => { results := [.lit (.bool true)], args := [d1, d2] }
  | _ => none }
def spanJoinsRow : OpenClaim := { program := "ytibimhjbhincnaa", sum := "70ab6d770f0ec2acd9647619c0847756f79e59580850c059974f2878be435e02", func := "quillet/quilletlaw02.SpanJoins", spec := "spanJoins", inPlace := ["math.Float64frombits", "math.Float64bits"], unfollowed := true, recurses := true, apart := false }
def SpanJoinsSaid : Prop := spanJoinsRow.holds Try.pinned (OpenSpec.ofChange spanJoinsSpec)

/-- ITS FALSE NEIGHBOUR: 'it returns false'. Refute it at one input. -/
def spanJoinsWrong : ChangeSpec := { name := "spanJoins", fn := fun _ => fun
  | [d1, d2] => { results := [.lit (.bool false)], args := [d1, d2] }
  | _ => none }
def SpanJoinsWrongFalsely : Prop := spanJoinsRow.holds Try.pinned (OpenSpec.ofChange spanJoinsWrong)

/-- 'quilletlaw02.SpanTurns': WHATEVER THE INPUT: true; the input reads as it did. -/
def spanTurnsSpec : ChangeSpec := { name := "spanTurns", fn := fun _ => fun
  | [d1, d2, d3] => { results := [.lit (.bool true)], args := [d1, d2, d3] }
  | _ => none }
def spanTurnsRow : OpenClaim := { program := "ytibimhjbhincnaa", sum := "70ab6d770f0ec2acd9647619c0847756f79e59580850c059974f2878be435e02", func := "quillet/quilletlaw02.SpanTurns", spec := "spanTurns", inPlace := ["math.Float64frombits", "math.Float64bits"], unfollowed := true, recurses := true, apart := false }
def SpanTurnsSaid : Prop := spanTurnsRow.holds Try.pinned (OpenSpec.ofChange spanTurnsSpec)

/-- ITS FALSE NEIGHBOUR: 'it returns false'. Refute it at one input. -/
def spanTurnsWrong : ChangeSpec := { name := "spanTurns", fn := fun _ => fun
  | [d1, d2, d3] => { results := [.lit (.bool false)], args := [d1, d2, d3] }
  | _ => none }
def SpanTurnsWrongFalsely : Prop := spanTurnsRow.holds Try.pinned (OpenSpec.ofChange spanTurnsWrong)

/-- 'quilletlaw02.SpanKeys': WHATEVER THE INPUT: true; the input reads as it did. -/
def spanKeysSpec : ChangeSpec := { name := "spanKeys", fn := fun _ => fun
  | [d1, d2, d3] => { results := [.lit (.bool true)], args := [d1, d2, d3] }
  | _ => none }
def spanKeysRow : OpenClaim := { program := "ytibimhjbhincnaa", sum := "70ab6d770f0ec2acd9647619c0847756f79e59580850c059974f2878be435e02", func := "quillet/quilletlaw02.SpanKeys", spec := "spanKeys", inPlace := ["math.Float64frombits", "math.Float64bits"], unfollowed := true, recurses := true, apart := false }
def SpanKeysSaid : Prop := spanKeysRow.holds Try.pinned (OpenSpec.ofChange spanKeysSpec)

/-- ITS FALSE NEIGHBOUR: 'it returns false'. Refute it at one input. -/
def spanKeysWrong : ChangeSpec := { name := "spanKeys", fn := fun _ => fun
  | [d1, d2, d3] => { results := [.lit (.bool false)], args := [d1, d2, d3] }
  | _ => none }
def SpanKeysWrongFalsely : Prop := spanKeysRow.holds Try.pinned (OpenSpec.ofChange spanKeysWrong)

/-- 'quilletlaw02.SpanNorms': WHATEVER THE INPUT: true; the input reads as it did. -/
def spanNormsSpec : ChangeSpec := { name := "spanNorms", fn := fun _ => fun
  | [d] => { results := [.lit (.bool true)], args := [d] }
  | _ => none }
def spanNormsRow : OpenClaim := { program := "ytibimhjbhincnaa", sum := "70ab6d770f0ec2acd9647619c0847756f79e59580850c059974f2878be435e02", func := "quillet/quilletlaw02.SpanNorms", spec := "spanNorms", inPlace := ["math.Float64frombits", "math.Float64bits"], unfollowed := true, recurses := true, apart := false }
def SpanNormsSaid : Prop := spanNormsRow.holds Try.pinned (OpenSpec.ofChange spanNormsSpec)

/-- ITS FALSE NEIGHBOUR: 'it returns false'. Refute it at one input. -/
def spanNormsWrong : ChangeSpec := { name := "spanNorms", fn := fun _ => fun
  | [d] => { results := [.lit (.bool false)], args := [d] }
  | _ => none }
def SpanNormsWrongFalsely : Prop := spanNormsRow.holds Try.pinned (OpenSpec.ofChange spanNormsWrong)

/-- 'quilletlaw02.SpanCovers': WHATEVER THE INPUT: true; the input reads as it did. -/
def spanCoversSpec : ChangeSpec := { name := "spanCovers", fn := fun _ => fun
  | [d1, d2] => { results := [.lit (.bool true)], args := [d1, d2] }
  | _ => none }
def spanCoversRow : OpenClaim := { program := "ytibimhjbhincnaa", sum := "70ab6d770f0ec2acd9647619c0847756f79e59580850c059974f2878be435e02", func := "quillet/quilletlaw02.SpanCovers", spec := "spanCovers", inPlace := ["math.Float64frombits", "math.Float64bits"], unfollowed := true, recurses := true, apart := false }
def SpanCoversSaid : Prop := spanCoversRow.holds Try.pinned (OpenSpec.ofChange spanCoversSpec)

/-- ITS FALSE NEIGHBOUR: 'it returns false'. Refute it at one input. -/
def spanCoversWrong : ChangeSpec := { name := "spanCovers", fn := fun _ => fun
  | [d1, d2] => { results := [.lit (.bool false)], args := [d1, d2] }
  | _ => none }
def SpanCoversWrongFalsely : Prop := spanCoversRow.holds Try.pinned (OpenSpec.ofChange spanCoversWrong)

/- THE SECOND FORM. 'bulk': how many values and letters a reading holds, each counted each time it is reached (what is shared counts as often as it is met; a slice's spare places count too). A statement '..UptoSaid' is the law's where the arguments, and the package variables that the reading takes, are together of bulk at most 1048576: NARROWER than '..Said'. Prove '..Said' where nothing that the law and all that it calls make is longer than what came in: it says more and counts as full. Else prove '..UptoSaid'. A law counts once. -/
mutual
def uptoBulk {H : Type} : DataW H → Nat
  | .lit (.string bytes) => bytes.length + 1
  | .lit _ => 1
  | .nil => 1
  | .ptr d => uptoBulk d + 1
  | .slice elems spare => uptoBulkAll elems + uptoBulkAll spare + 1
  | .agg parts => uptoBulkAll parts + 1
  | .iface _ d => uptoBulk d + 1
  | .map entries => uptoBulkEntries entries + 1
  | .held _ => 1
def uptoBulkAll {H : Type} : List (DataW H) → Nat
  | [] => 0
  | d :: r => uptoBulk d + uptoBulkAll r
def uptoBulkEntries {H : Type} : List (Lit × DataW H) → Nat
  | [] => 0
  | x :: r => uptoBulkEntry x + uptoBulkEntries r
def uptoBulkEntry {H : Type} : Lit × DataW H → Nat
  | (.string bytes, d) => bytes.length + uptoBulk d + 1
  | (_, d) => uptoBulk d + 1
 end
def uptoSmall : (H : Type) → List (DataW H) → Bool := fun _ ds => decide (uptoBulkAll ds ≤ 1048576)
def OpenSpec.upto (s : _root_.Go.ChangeSpec) : _root_.Go.OpenSpec := { _root_.Go.OpenSpec.ofChange s with cond := some uptoSmall }

/-- 'quilletlaw02.SpanForms', WHERE WHAT IT READS IS OF BULK AT MOST 1048576: true; the input reads as it did. -/
def spanFormsUptoRow : OpenClaim := { program := "ytibimhjbhincnaa", sum := "70ab6d770f0ec2acd9647619c0847756f79e59580850c059974f2878be435e02", func := "quillet/quilletlaw02.SpanForms", spec := "spanForms", inPlace := ["math.Float64frombits", "math.Float64bits"], apart := false, narrowed := true }
def SpanFormsUptoSaid : Prop := spanFormsUptoRow.holds Try.pinned (OpenSpec.upto spanFormsSpec)

/-- 'quilletlaw02.SpanHas', WHERE WHAT IT READS IS OF BULK AT MOST 1048576: true; the input reads as it did. -/
def spanHasUptoRow : OpenClaim := { program := "ytibimhjbhincnaa", sum := "70ab6d770f0ec2acd9647619c0847756f79e59580850c059974f2878be435e02", func := "quillet/quilletlaw02.SpanHas", spec := "spanHas", inPlace := ["math.Float64frombits", "math.Float64bits"], apart := false, narrowed := true }
def SpanHasUptoSaid : Prop := spanHasUptoRow.holds Try.pinned (OpenSpec.upto spanHasSpec)

/-- 'quilletlaw02.SpanEnds', WHERE WHAT IT READS IS OF BULK AT MOST 1048576: true; the input reads as it did. -/
def spanEndsUptoRow : OpenClaim := { program := "ytibimhjbhincnaa", sum := "70ab6d770f0ec2acd9647619c0847756f79e59580850c059974f2878be435e02", func := "quillet/quilletlaw02.SpanEnds", spec := "spanEnds", inPlace := ["math.Float64frombits", "math.Float64bits"], apart := false, narrowed := true }
def SpanEndsUptoSaid : Prop := spanEndsUptoRow.holds Try.pinned (OpenSpec.upto spanEndsSpec)

/-- 'quilletlaw02.SpanOnes', WHERE WHAT IT READS IS OF BULK AT MOST 1048576: true; the input reads as it did. -/
def spanOnesUptoRow : OpenClaim := { program := "ytibimhjbhincnaa", sum := "70ab6d770f0ec2acd9647619c0847756f79e59580850c059974f2878be435e02", func := "quillet/quilletlaw02.SpanOnes", spec := "spanOnes", inPlace := ["math.Float64frombits", "math.Float64bits"], apart := false, narrowed := true }
def SpanOnesUptoSaid : Prop := spanOnesUptoRow.holds Try.pinned (OpenSpec.upto spanOnesSpec)

/-- 'quilletlaw04.SubKeys', WHERE WHAT IT READS IS OF BULK AT MOST 1048576: true; the input reads as it did. -/
def subKeysUptoRow : OpenClaim := { program := "ytibimhjbhincnaa", sum := "70ab6d770f0ec2acd9647619c0847756f79e59580850c059974f2878be435e02", func := "quillet/quilletlaw04.SubKeys", spec := "subKeys", inPlace := ["math.Float64frombits", "math.Float64bits"], unfollowed := true, recurses := true, apart := false, narrowed := true }
def SubKeysUptoSaid : Prop := subKeysUptoRow.holds Try.pinned (OpenSpec.upto subKeysSpec)

/-- 'quilletlaw02.SpanOrder', WHERE WHAT IT READS IS OF BULK AT MOST 1048576: true; the input reads as it did. -/
def spanOrderUptoRow : OpenClaim := { program := "ytibimhjbhincnaa", sum := "70ab6d770f0ec2acd9647619c0847756f79e59580850c059974f2878be435e02", func := "quillet/quilletlaw02.SpanOrder", spec := "spanOrder", inPlace := ["math.Float64frombits", "math.Float64bits"], apart := false, narrowed := true }
def SpanOrderUptoSaid : Prop := spanOrderUptoRow.holds Try.pinned (OpenSpec.upto spanOrderSpec)

/-- 'quilletlaw02.SpanMeets', WHERE WHAT IT READS IS OF BULK AT MOST 1048576: true; the input reads as it did. -/
def spanMeetsUptoRow : OpenClaim := { program := "ytibimhjbhincnaa", sum := "70ab6d770f0ec2acd9647619c0847756f79e59580850c059974f2878be435e02", func := "quillet/quilletlaw02.SpanMeets", spec := "spanMeets", inPlace := ["math.Float64frombits", "math.Float64bits"], unfollowed := true, recurses := true, apart := false, narrowed := true }
def SpanMeetsUptoSaid : Prop := spanMeetsUptoRow.holds Try.pinned (OpenSpec.upto spanMeetsSpec)

/-- 'quilletlaw02.SpanJoins', WHERE WHAT IT READS IS OF BULK AT MOST 1048576: true; the input reads as it did. -/
def spanJoinsUptoRow : OpenClaim := { program := "ytibimhjbhincnaa", sum := "70ab6d770f0ec2acd9647619c0847756f79e59580850c059974f2878be435e02", func := "quillet/quilletlaw02.SpanJoins", spec := "spanJoins", inPlace := ["math.Float64frombits", "math.Float64bits"], unfollowed := true, recurses := true, apart := false, narrowed := true }
def SpanJoinsUptoSaid : Prop := spanJoinsUptoRow.holds Try.pinned (OpenSpec.upto spanJoinsSpec)

/-- 'quilletlaw02.SpanTurns', WHERE WHAT IT READS IS OF BULK AT MOST 1048576: true; the input reads as it did. -/
def spanTurnsUptoRow : OpenClaim := { program := "ytibimhjbhincnaa", sum := "70ab6d770f0ec2acd9647619c0847756f79e59580850c059974f2878be435e02", func := "quillet/quilletlaw02.SpanTurns", spec := "spanTurns", inPlace := ["math.Float64frombits", "math.Float64bits"], unfollowed := true, recurses := true, apart := false, narrowed := true }
def SpanTurnsUptoSaid : Prop := spanTurnsUptoRow.holds Try.pinned (OpenSpec.upto spanTurnsSpec)

/-- 'quilletlaw02.SpanKeys', WHERE WHAT IT READS IS OF BULK AT MOST 1048576: true; the input reads as it did. -/
def spanKeysUptoRow : OpenClaim := { program := "ytibimhjbhincnaa", sum := "70ab6d770f0ec2acd9647619c0847756f79e59580850c059974f2878be435e02", func := "quillet/quilletlaw02.SpanKeys", spec := "spanKeys", inPlace := ["math.Float64frombits", "math.Float64bits"], unfollowed := true, recurses := true, apart := false, narrowed := true }
def SpanKeysUptoSaid : Prop := spanKeysUptoRow.holds Try.pinned (OpenSpec.upto spanKeysSpec)

/-- 'quilletlaw02.SpanNorms', WHERE WHAT IT READS IS OF BULK AT MOST 1048576: true; the input reads as it did. -/
def spanNormsUptoRow : OpenClaim := { program := "ytibimhjbhincnaa", sum := "70ab6d770f0ec2acd9647619c0847756f79e59580850c059974f2878be435e02", func := "quillet/quilletlaw02.SpanNorms", spec := "spanNorms", inPlace := ["math.Float64frombits", "math.Float64bits"], unfollowed := true, recurses := true, apart := false, narrowed := true }
def SpanNormsUptoSaid : Prop := spanNormsUptoRow.holds Try.pinned (OpenSpec.upto spanNormsSpec)

/-- 'quilletlaw02.SpanCovers', WHERE WHAT IT READS IS OF BULK AT MOST 1048576: true; the input reads as it did. -/
def spanCoversUptoRow : OpenClaim := { program := "ytibimhjbhincnaa", sum := "70ab6d770f0ec2acd9647619c0847756f79e59580850c059974f2878be435e02", func := "quillet/quilletlaw02.SpanCovers", spec := "spanCovers", inPlace := ["math.Float64frombits", "math.Float64bits"], unfollowed := true, recurses := true, apart := false, narrowed := true }
def SpanCoversUptoSaid : Prop := spanCoversUptoRow.holds Try.pinned (OpenSpec.upto spanCoversSpec)

end Rows
end Go.Proofs.Ytibimhjbhincnaa
