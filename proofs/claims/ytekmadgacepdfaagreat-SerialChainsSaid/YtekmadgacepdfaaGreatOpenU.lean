/- How the arguments' readings are opened: a row of numbers; a number. -/
import Derived.Test.YtekmadgacepdfaaGreatMO
import Derived.Test.YtekmadgacepdfaaGreatMUD
namespace Go.Proofs.YtekmadgacepdfaaGreat
set_option linter.unusedVariables false
open Go.Joins Go.ChangeShapes Go.WideShapes Go.ChangeAt Go.RowKit Go.Deep

set_option maxRecDepth 100000
section
variable {H : Type} {enc : TypeId × Value → H} {P : Program} {w : World} {base : Nat} {spare : Nat → Bool} {held : Bool}
theorem open_intUArg {r : Reach} {b0 : Nat} {v : Value} {d : DataW H} {ps : List MemPlace} (hval : Value.okWide Tryz.prog w r b0 3 v) (hd : DataW.Trod enc Tryz.prog w base spare held 3 v d ps) :
  ∃ n, v = .int .i64 n ∧ (-9223372036854775808 ≤ n ∧ n ≤ 9223372036854775807) := by
 obtain ⟨b, h1, _, _, h2⟩ := open_int Tryz.underlying3 hval hd
 refine ⟨b, h1, ?_⟩
 simp only [Lit.wf, Bool.and_eq_true] at h2
 exact ⟨of_decide_eq_true h2.1, of_decide_eq_true h2.2⟩
end
end Go.Proofs.YtekmadgacepdfaaGreat
