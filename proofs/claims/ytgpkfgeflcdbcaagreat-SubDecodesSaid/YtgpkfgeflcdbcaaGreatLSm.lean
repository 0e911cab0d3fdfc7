/- The statements' small submission. -/
import Derived.Test.YtgpkfgeflcdbcaaGreatMR
namespace Go.Proofs.YtgpkfgeflcdbcaaGreat
set_option linter.unusedVariables false
open Go.RowKit Fl

/-- The statements' small submission, its rows in the blocks behind B. -/
def smallV (B : Nat) : SubV := ⟨1, 2, 0, some ⟨B + 1, 0, none⟩, 2, [4607182418800017408, 4613937818241073152], some ⟨B + 1 + 1, 0, none⟩, 1, [⟨4607182418800017408, 4613937818241073152, false, false⟩], some ⟨B + 1 + 1 + 1, 0, none⟩, 1, [4611686018427387904]⟩
def SmallRet (w : World) (e : Ending) (w' : World) : Prop := ∃ B : Nat, e = .returned (.agg #[.int .i64 1, .int .i64 2, .int .i64 0, .slice (some ⟨B + 1, 0, none⟩) 2 2, .slice (some ⟨B + 1 + 1, 0, none⟩) 1 1, .slice (some ⟨B + 1 + 1 + 1, 0, none⟩) 1 1]) ∧ (smallV B).At w' ∧ Below w.heap.size w w'

theorem small_any (w : World) : Calls Tryz.prog 25 #[] w (SmallRet w) := by
  go_enter Tryz.func25, Tryz.ntmps25
  go_wp2
  refine bodyPost_ret (v := .agg #[.int .i64 1, .int .i64 2, .int .i64 0, .slice (some ⟨w.heap.size + 1, 0, none⟩) 2 2, .slice (some ⟨w.heap.size + 1 + 1, 0, none⟩) 1 1, .slice (some ⟨w.heap.size + 1 + 1 + 1, 0, none⟩) 1 1]) (by simp [results, Tryz.results25, go_sem]) rfl ⟨w.heap.size, rfl, ?_, by (repeat (first | with_reducible exact Below.refl _ _ | ((with_reducible refine Below.alloc1 ?_ ?_ _); (· first | omega | (simp; done) | (simp; omega))) | (with_reducible refine Below.drew ?_) | (with_reducible refine below_drewN' ?_ _) | ((with_reducible refine Below.setCell1 ?_ ?_ _); (· first | omega | (simp; done) | (simp; omega))) | ((with_reducible refine Below.after (by assumption) ?_ ?_); (· first | omega | (simp; done) | (simp; omega)))))⟩
  refine ⟨⟨.inr ⟨w.heap.size + 1, 0, rfl, ?_, fun i hi => ?_⟩, fun i hi => ?_, by unfold maxLen; show 2 ≤ _; omega⟩, ⟨.inr ⟨w.heap.size + 1 + 1, 0, rfl, ?_, fun i hi => ?_⟩, fun i hi => ?_, by unfold maxLen; show 1 ≤ _; omega⟩, ⟨.inr ⟨w.heap.size + 1 + 1 + 1, 0, rfl, ?_, fun i hi => ?_⟩, fun i hi => ?_, by unfold maxLen; show 1 ≤ _; omega⟩⟩
  · simp
  · have : i = 0 ∨ i = 1 := by have : i < 2 := hi; omega
    rcases this with rfl | rfl <;> (simp only [smallV]; go_simp)
  · have : i = 0 ∨ i = 1 := by have : i < 2 := hi; omega
    rcases this with rfl | rfl <;> simp [smallV]
  · simp
  · have : i = 0 := by have : i < 1 := hi; omega
    subst this
    simp only [smallV]
    refine ⟨?_, ?_, ?_, ?_⟩ <;> go_simp
  · have : i = 0 := by have : i < 1 := hi; omega
    subst this; simp [smallV]
  · simp
  · have : i = 0 := by have : i < 1 := hi; omega
    subst this; simp only [smallV]; go_simp
  · have : i = 0 := by have : i < 1 := hi; omega
    subst this; simp [smallV]
end Go.Proofs.YtgpkfgeflcdbcaaGreat
