/- A float and nought: the sum is a number. Plain. -/
import Derived.Test.YtekmadgacepdfaaGreatFlt
namespace Go.Proofs.YtekmadgacepdfaaGreat
set_option linter.unusedVariables false
namespace Fl

theorem read_num {b : Nat} (h : isNaN b = false) : (∃ s m i, Ieee.double.read b = .number s m i) ∨ ∃ s, Ieee.double.read b = .infinity s := by
 have e1 : Ieee.double.signWeight = top := by decide
 have e2 : Ieee.double.infRung = inf := by decide
 unfold Ieee.Format.read
 simp only [e1, e2]
 unfold isNaN at h
 rw [decide_eq_false_iff_not] at h
 by_cases h1 : b % top < Ieee.double.binade
 ·rw [if_pos h1]; exact .inl ⟨_, _, _, rfl⟩
 ·rw [if_neg h1]
  by_cases h2 : b % top < inf
  ·rw [if_pos h2]; exact .inl ⟨_, _, _, rfl⟩
  ·rw [if_neg h2, if_pos (by omega)]; exact .inr ⟨_, rfl⟩
theorem word_num (s : Bool) {r : Nat} (h : r ≤ inf) : Ieee.double.word s r < 2 ^ 64 ∧ isNaN (Ieee.double.word s r) = false := by
 have e1 : Ieee.double.signWeight = top := by decide
 unfold Ieee.Format.word isNaN
 rw [e1, decide_eq_false_iff_not]
 unfold inf at h ⊢
 unfold top
 cases s <;> simp <;> omega
theorem write_num (s : Bool) (m : Nat) (i : Int) : Ieee.double.write (.number s m i) < 2 ^ 64 ∧ isNaN (Ieee.double.write (.number s m i)) = false := by
 have e2 : Ieee.double.infRung = inf := by decide
 unfold Ieee.Format.write Ieee.Format.nearest
 simp only
 split
 ·exact word_num s (Nat.zero_le _)
 ·refine word_num s ?_
  rw [e2]
  exact Nat.min_le_right _ _
theorem add_zero_num {k : Nat} (hn : isNaN k = false) : ∃ y, Ieee.double.add k 0 = some y ∧ y < 2 ^ 64 ∧ isNaN y = false := by
 have e0 : Ieee.double.read 0 = .number false 0 Ieee.double.leastPlace := by decide
 have e2 : Ieee.double.infRung = inf := by decide
 unfold Ieee.Format.add
 rw [e0]
 rcases read_num hn with ⟨s, m, i, h⟩ | ⟨s, h⟩
 ·rw [h]
  exact ⟨_, rfl, write_num _ _ _⟩
 ·rw [h]
  refine ⟨_, rfl, ?_⟩
  unfold Ieee.Format.write
  simp only
  rw [e2]
  exact word_num s (Nat.le_refl _)
end Fl
end Go.Proofs.YtekmadgacepdfaaGreat
