/- Where the first one is of which p holds. Over no program. -/
import Derived.WalkKit
namespace Go.Proofs.Ytibimhjbhincnaa
set_option linter.unusedVariables false

/-- Where the first one is of which p holds; -1 if there is none. -/
def idxB {α : Type} (p : α → Bool) (xs : List α) : Int := match xs.findIdx? p with | some i => i | none => -1
theorem idxB_none {α : Type} {p : α → Bool} {xs : List α} (h : ∀ (i : Nat) x, xs[i]? = some x → p x = false) : idxB p xs = -1 := by
  unfold idxB
  rw [List.findIdx?_eq_none_iff.2 (fun x hx => ?_)]
  obtain ⟨i, hi⟩ := List.mem_iff_getElem?.1 hx
  exact h i x hi
theorem idxB_some {α : Type} {p : α → Bool} {xs : List α} {k : Nat} {x : α} (hk : xs[k]? = some x) (hp : p x = true) (h : ∀ j : Nat, j < k → ∀ y, xs[j]? = some y → p y = false) : idxB p xs = k := by
  unfold idxB
  have hlt : k < xs.length := (List.getElem?_eq_some_iff.1 hk).1
  have hx : xs[k] = x := (List.getElem?_eq_some_iff.1 hk).2
  have : xs.findIdx? p = some k := by
    rw [List.findIdx?_eq_some_iff_getElem]
    refine ⟨hlt, by rw [hx]; exact hp, fun j hj => ?_⟩
    have := h j hj xs[j] (List.getElem?_eq_getElem (by omega))
    simp [this]
  rw [this]
theorem idxB_any {α : Type} (p : α → Bool) (xs : List α) : decide (0 ≤ idxB p xs) = xs.any p := by
  rw [Bool.eq_iff_iff, decide_eq_true_eq, List.any_eq_true]
  unfold idxB
  constructor
  · intro h
    cases e : xs.findIdx? p with
    | none => rw [e] at h; simp at h
    | some i =>
      obtain ⟨hi, hp, _⟩ := List.findIdx?_eq_some_iff_getElem.1 e
      exact ⟨_, List.getElem_mem hi, hp⟩
  · rintro ⟨x, hx, hp⟩
    cases e : xs.findIdx? p with
    | none => rw [List.findIdx?_eq_none_iff] at e; have := e x hx; rw [hp] at this; cases this
    | some i => simp
end Go.Proofs.Ytibimhjbhincnaa
