/- The walk of sub.same. -/
import Derived.Test.YtgpkfgeflcdbcaaGreatKF
import Derived.Test.YtgpkfgeflcdbcaaGreatMN
namespace Go.Proofs.YtgpkfgeflcdbcaaGreat.K
set_option linter.unusedVariables false
open Go.RowKit Fl

instance : DecidableEq SpanV := fun x y => decidable_of_iff _ (N.sameSp_iff x y)
set_option maxHeartbeats 8000000 in
theorem same_lit (lo hi l h : Nat) (a b f1 f2 e1 e2 v : Bool) (w : World) (hf1 : feq lo l = f1) (hf2 : feq hi h = f2) (he1 : ((lo : Int) == (l : Int)) = e1) (he2 : ((hi : Int) == (h : Int)) = e2) (hv : (!a && !b && f1 && f2 && e1 && e2) = v) :
    Calls Tryz.prog 66 #[.agg #[.float .f64 lo, .float .f64 hi, .bool a, .bool b], .agg #[.float .f64 l, .float .f64 h, .bool false, .bool false]] w (Ret (.bool v) w) := by
  subst hv
  cases a <;> cases b <;> cases f1 <;> cases f2 <;> cases e1 <;> cases e2
  all_goals
    go_enter Tryz.func66, Tryz.ntmps66
    go_wp2
    (refine wp_region_ext (by kernel_rfl) (by kernel_rfl) ?_; (repeat (go_big_quiet_step (first | fail))); refine wpQuiet_nil ?_; rintro w1 ⟨x1, hx1⟩; have hb1 := x1.b; rw [← hx1] at hb1; clear hx1 x1; obtain ⟨hc1, hf1⟩ := bcell hb1; (try simp only [World.heap_drewN, World.cell?_drewN, World.frozen?_drewN] at hc1 hf1); have hz1 := hb1.size; (try simp at hz1); (try have hy1_0 : w.heap.size < w1.heap.size := by omega); (try have hy1_1 : w.heap.size + 1 < w1.heap.size := by omega); (try have hy1_2 : w.heap.size + 2 < w1.heap.size := by omega); (try have hy1_3 : w.heap.size + 3 < w1.heap.size := by omega); (try have hx1_0 : w.heap.size ≤ w1.heap.size := by omega); (try have hx1_1 : w.heap.size + 1 ≤ w1.heap.size := by omega); (try have hx1_2 : w.heap.size + 2 ≤ w1.heap.size := by omega))
    go_wp2
    go_ret
    exact ⟨rfl, by (repeat (first | with_reducible exact Below.refl _ _ | ((with_reducible refine Below.alloc1 ?_ ?_ _); (· first | omega | (simp; done) | (simp; omega))) | (with_reducible refine Below.drew ?_) | (with_reducible refine below_drewN' ?_ _) | ((with_reducible refine Below.setCell1 ?_ ?_ _); (· first | omega | (simp; done) | (simp; omega))) | ((with_reducible refine Below.after (by assumption) ?_ ?_); (· first | omega | (simp; done) | (simp; omega)))))⟩
end Go.Proofs.YtgpkfgeflcdbcaaGreat.K
