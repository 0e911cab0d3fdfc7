/- Plain laws of layer 9's tables. -/
import Derived.Test.YtnlaepogkepnhaaVQ
namespace Go.Proofs.Ytnlaepogkepnhaa
set_option linter.unusedVariables false
open Go.RowKit Fl

/-- All numbers are at least one. -/
def pos (its : List ItV) : Prop := ∀ x ∈ its, 1 ≤ x.n
theorem pos_nil : pos [] := fun _ h => absurd h (by simp)
theorem putI_pos {its : List ItV} (h : pos its) (most : Int) (kb : Nat) (n : Int) : pos (putI its most kb n).2 := by
  unfold putI
  split
  · exact h
  · split
    · exact h
    · rename_i h1
      split
      · intro x hx
        rcases List.mem_or_eq_of_mem_set hx with h2 | rfl
        · exact h x h2
        · show 1 ≤ max _ n; omega
      · split
        · exact h
        · intro x hx
          simp only [List.mem_append, List.mem_singleton] at hx
          rcases hx with (h2 | rfl) | h2
          · exact h x (List.mem_of_mem_take h2)
          · show 1 ≤ n; omega
          · exact h x (List.mem_of_mem_drop h2)
theorem putAll_pos {its : List ItV} (h : pos its) (most : Int) : ∀ ops : List OpV, pos (putAll its most ops)
  | [] => h
  | o :: ops => putAll_pos (putI_pos h most o.key o.n) most ops
theorem putAll_rises {its : List ItV} (h : rises its) (most : Int) : ∀ ops : List OpV, rises (putAll its most ops)
  | [] => h
  | o :: ops => putAll_rises (putI_rises h most o.key o.n) most ops

/-! Over is the greatest. -/
theorem fold_ge (r : Rg) : ∀ (its : List ItV) (m : Int), m ≤ its.foldl (fun m x => if hasB r x.k.bits = true then max m x.n else m) m
  | [], m => Int.le_refl _
  | x :: its, m => by
    rw [List.foldl_cons]
    refine Int.le_trans ?_ (fold_ge r its _)
    split <;> omega
theorem fold_mem (r : Rg) : ∀ (its : List ItV) (m : Int) (x : ItV), x ∈ its → hasB r x.k.bits = true → x.n ≤ its.foldl (fun m x => if hasB r x.k.bits = true then max m x.n else m) m
  | [], _, _, hx, _ => absurd hx (by simp)
  | y :: its, m, x, hx, hb => by
    rw [List.foldl_cons]
    rcases List.mem_cons.1 hx with rfl | h
    · refine Int.le_trans ?_ (fold_ge r its _)
      rw [if_pos hb]; omega
    · exact fold_mem r its _ x h hb
theorem fold_att (r : Rg) : ∀ (its : List ItV) (m : Int), its.foldl (fun m x => if hasB r x.k.bits = true then max m x.n else m) m = m ∨ ∃ x ∈ its, hasB r x.k.bits = true ∧ its.foldl (fun m x => if hasB r x.k.bits = true then max m x.n else m) m = x.n
  | [], m => .inl rfl
  | y :: its, m => by
    rw [List.foldl_cons]
    rcases fold_att r its (if hasB r y.k.bits = true then max m y.n else m) with h | ⟨x, h1, h2, h3⟩
    · rw [h]
      split
      · rename_i hb
        rcases Int.le_total m y.n with h4 | h4
        · exact .inr ⟨y, by simp, hb, by omega⟩
        · exact .inl (by omega)
      · exact .inl rfl
    · exact .inr ⟨x, by simp [h1], h2, h3⟩
theorem overI_eq {its : List ItV} {r : Rg} {v : Int} (h0 : 0 ≤ v) (h1 : ∀ x ∈ its, hasB r x.k.bits = true → x.n ≤ v) (h2 : v = 0 ∨ ∃ x ∈ its, hasB r x.k.bits = true ∧ x.n = v) : overI its r = v := by
  have g := fold_ge r its 0
  rcases fold_att r its 0 with h | ⟨x, hx, hb, h⟩
  · rcases h2 with h3 | ⟨x, hx, hb, h3⟩
    · exact h.trans h3.symm
    · have := fold_mem r its 0 x hx hb
      unfold overI; omega
  · have k1 := h1 x hx hb
    rcases h2 with h3 | ⟨y, hy, hb', h3⟩
    · unfold overI; omega
    · have k2 := fold_mem r its 0 y hy hb'
      unfold overI; omega
theorem overI_nonneg (its : List ItV) (r : Rg) : 0 ≤ overI its r := fold_ge r its 0
theorem overI_mem {its : List ItV} {r : Rg} {x : ItV} (hx : x ∈ its) (hb : hasB r x.k.bits = true) : x.n ≤ overI its r := fold_mem r its 0 x hx hb
theorem over_one {its : List ItV} (hr : rises its) (hp : pos its) {x : ItV} (hx : x ∈ its) : overI its (some (x.k, x.k)) = x.n := by
  refine overI_eq (by have := hp x hx; omega) (fun y hy hb => ?_) (.inr ⟨x, hx, by rw [hasB_kk]; simp, rfl⟩)
  rw [hasB_kk] at hb
  simp at hb
  have : y = x := rises_inj hr hy hx (by rw [show y.k = x.k from Key.ext' (by omega)])
  rw [this]; exact Int.le_refl _
theorem over_snoc {its : List ItV} {k : Nat} {x : ItV} (hx : its[k]? = some x) (r : Rg) : overI (its.take (k + 1)) r = if hasB r x.k.bits = true then max (overI (its.take k) r) x.n else overI (its.take k) r := by
  rw [List.take_add_one, hx]
  exact overI_snoc _ x r
end Go.Proofs.Ytnlaepogkepnhaa
