/- The document's order of keys. -/
import Derived.Test.YtekmadgacepdfaaGreatR1
import Derived.Test.YtekmadgacepdfaaGreatC0
namespace Go.Proofs.YtekmadgacepdfaaGreat
set_option linter.unusedVariables false
open Go.RowKit Fl

theorem refCmp01_any (x y : Nat) (hx : x < 2 ^ 64) (hy : y < 2 ^ 64) (w : World) :
  Calls Tryz.prog 123 #[.float .f64 x, .float .f64 y] w fun e w' => e = .returned (.int .i64 (cmpI (codeOf x) (codeOf y))) ∧ w = w' := by
 have H1 := fun W => refCode_any x hx W
 have H2 := fun W => refCode_any y hy W
 unfold cmpI
 generalize codeOf x = a at *
 generalize codeOf y = b at *
 by_cases h1 : a < b
 ·rw [if_pos h1]
  have d1 : decide (a < b) = true := by simp [h1]
  go_enter Tryz.func123, Tryz.ntmps123
  go_wp2_with (first | (go_at_call 125; (with_reducible refine (H1 _).mono ?_); rintro e w' ⟨rfl, rfl⟩) | (go_at_call 125; (with_reducible refine (H2 _).mono ?_); rintro e w' ⟨rfl, rfl⟩))
  go_ret
  exact ⟨rfl, rfl⟩
 ·rw [if_neg h1]
  have d1 : decide (a < b) = false := by simp; omega
  by_cases h2 : b < a
  ·rw [if_pos h2]
   go_enter Tryz.func123, Tryz.ntmps123
   go_wp2_with (first | (go_at_call 125; (with_reducible refine (H1 _).mono ?_); rintro e w' ⟨rfl, rfl⟩) | (go_at_call 125; (with_reducible refine (H2 _).mono ?_); rintro e w' ⟨rfl, rfl⟩))
   go_ret
   exact ⟨rfl, rfl⟩
  ·rw [if_neg h2]
   have d2 : ¬ (a > b) := by omega
   go_enter Tryz.func123, Tryz.ntmps123
   go_wp2_with (first | (go_at_call 125; (with_reducible refine (H1 _).mono ?_); rintro e w' ⟨rfl, rfl⟩) | (go_at_call 125; (with_reducible refine (H2 _).mono ?_); rintro e w' ⟨rfl, rfl⟩))
   go_ret
   exact ⟨rfl, rfl⟩
end Go.Proofs.YtekmadgacepdfaaGreat
