/- Short lists. Over no program. -/
import Derived.WalkKit
namespace Go.Proofs.YtekmadgacepdfaaGreat.P
set_option linter.unusedVariables false
open Go

theorem ls0 {ms : List Value} (h : ms.length = 0) : ms = [] := List.eq_nil_of_length_eq_zero h
theorem ls1 {ms : List Value} (h : ms.length = 1) : ∃ a, ms = [a] := by
  match ms, h with
  | [a], _ => exact ⟨a, rfl⟩
theorem ls2 {ms : List Value} (h : ms.length = 2) : ∃ a b, ms = [a, b] := by
  match ms, h with
  | [a, b], _ => exact ⟨a, b, rfl⟩
theorem ls3 {ms : List Value} (h : ms.length = 3) : ∃ a b c, ms = [a, b, c] := by
  match ms, h with
  | [a, b, c], _ => exact ⟨a, b, c, rfl⟩
theorem ls4 {ms : List Value} (h : ms.length = 4) : ∃ a b c d, ms = [a, b, c, d] := by
  match ms, h with
  | [a, b, c, d], _ => exact ⟨a, b, c, d, rfl⟩
theorem ls5 {ms : List Value} (h : ms.length = 5) : ∃ a b c d e, ms = [a, b, c, d, e] := by
  match ms, h with
  | [a, b, c, d, e], _ => exact ⟨a, b, c, d, e, rfl⟩
end Go.Proofs.YtekmadgacepdfaaGreat.P
