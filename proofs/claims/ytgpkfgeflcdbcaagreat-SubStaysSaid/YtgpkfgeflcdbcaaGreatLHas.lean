/- The walk of SpanHas. -/
import Derived.Test.YtgpkfgeflcdbcaaGreatLForms
import Derived.Test.YtgpkfgeflcdbcaaGreatMR
namespace Go.Proofs.YtgpkfgeflcdbcaaGreat
set_option linter.unusedVariables false
open Go.RowKit Fl

theorem flt_lits (a b : Nat) (ha : a ≤ inf) (hb : b ≤ inf) : flt a b = decide (a < b) := by
  have e1 := klit_bits a ha
  have e2 := klit_bits b hb
  rw [← e1, ← e2, flt_kk, e1, e2]
  apply decide_eq_decide.2
  unfold klit; simp only; omega

/-- Has([1, 2], 1). -/
theorem has_one (w : World) :
    Calls Tryz.prog 101 #[.agg #[.float .f64 4607182418800017408, .float .f64 4611686018427387904, .bool false, .bool false], .float .f64 4607182418800017408] w (Ret (.bool true) w) := by
  refine has_is _ _ _ _ _ _ _ (by omega) (by omega) ?_
  show _ = _
  rw [has_plain, feq_lit 4607182418800017408 (by unfold inf; omega), flt_lits 4607182418800017408 4611686018427387904 (by unfold inf; omega) (by unfold inf; omega)]
  simp

theorem feq_comm (a b : Nat) : feq a b = feq b a := by
  unfold feq
  cases isNaN a <;> cases isNaN b <;> simp
  exact ⟨fun h => h.symm, fun h => h.symm⟩

end Go.Proofs.YtgpkfgeflcdbcaaGreat
