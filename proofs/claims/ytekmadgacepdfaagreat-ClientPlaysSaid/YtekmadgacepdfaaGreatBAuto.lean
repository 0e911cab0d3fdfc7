/- What lies below a block's number is as it was: found by itself. -/
import Derived.Test.YtekmadgacepdfaaGreatA1
namespace Go.Proofs.YtekmadgacepdfaaGreat
set_option linter.unusedVariables false
open Go.RowKit

theorem below_auto {B : Nat} {a w : World} (h : Below B a w := by (repeat (first | with_reducible exact Below.refl _ _ | ((with_reducible refine Below.alloc1 ?_ ?_ _); (· first | omega | (simp; done) | (simp; omega))) | (with_reducible refine Below.drew ?_) | (with_reducible refine below_drewN' ?_ _) | ((with_reducible refine Below.setCell1 ?_ ?_ _); (· first | omega | (simp; done) | (simp; omega))) | ((with_reducible refine Below.after (by assumption) ?_ ?_); (· first | omega | (simp; done) | (simp; omega)))))) : Below B a w := h
end Go.Proofs.YtekmadgacepdfaaGreat
