/- How the arguments' readings are opened: a submission; a Boolean. -/
import Derived.Test.YtekmadgacepdfaaGreatMO
namespace Go.Proofs.YtekmadgacepdfaaGreat
set_option linter.unusedVariables false
open Go.Joins Go.ChangeShapes Go.WideShapes Go.ChangeAt Go.RowKit Go.Deep
set_option maxRecDepth 100000
section
variable {H : Type} {enc : TypeId × Value → H} {P : Program} {w : World} {base : Nat} {spare : Nat → Bool} {held : Bool}
theorem open_boolArg {r : Reach} {b0 : Nat} {v : Value} {d : DataW H} {ps : List MemPlace} (hval : Value.okWide Tryz.prog w r b0 4 v) (hd : DataW.Trod enc Tryz.prog w base spare held 4 v d ps) :
  ∃ b, v = .bool b ∧ True := by
 obtain ⟨b, h1, _⟩ := open_bool Tryz.underlying4 hval hd
 exact ⟨b, h1, trivial⟩
end
end Go.Proofs.YtekmadgacepdfaaGreat
