/- The table's items and the document's: behind Put and Drop. -/
import Derived.Test.YtnlaepogkepnhaaVM
namespace Go.Proofs.Ytnlaepogkepnhaa
set_option linter.unusedVariables false
open Go.RowKit Fl

def refPutI (ms : List ItV) (most : Int) (kb : Nat) (n : Int) : Int × List ItV :=
  if isNaN kb = true then (40, ms) else if n < 1 ∨ 1099511627776 < n then (43, ms)
  else if atR ms kb = 0 ∧ most ≤ (ms.length : Int) then (3, ms) else if n ≤ atR ms kb then (0, ms) else (0, rest kb ms ++ [⟨kof kb, n⟩])

theorem mem_rest {ms : List ItV} {kb : Nat} (hn : isNaN kb = false) (x : ItV) : x ∈ rest kb ms ↔ x ∈ ms ∧ x.k ≠ kof kb := by
  unfold rest
  rw [List.mem_filter]
  simp only [Bool.not_eq_true', decide_eq_false_iff_not]
  constructor
  · rintro ⟨h1, h2⟩
    exact ⟨h1, fun e => h2 (by rw [e]; exact key_code hn)⟩
  · rintro ⟨h1, h2⟩
    exact ⟨h1, fun e => h2 (code_key e).2⟩
theorem same_drop {its ms : List ItV} (h : Same its ms) (m : Int) : Same (kept m its) (kept m ms) := by
  refine ⟨fun x => ?_, List.Pairwise.sublist List.filter_sublist h.dif, kept_rises h.up m, fun x hx => h.pos x (List.mem_filter.1 hx).1⟩
  unfold kept
  rw [List.mem_filter, List.mem_filter, h.mem]
theorem same_put {its ms : List ItV} (h : Same its ms) (most : Int) (hl : (its.length : Int) ≤ most) (kb : Nat) (n : Int) : (refPutI ms most kb n).1 = (putI its most kb n).1 ∧ Same (putI its most kb n).2 (refPutI ms most kb n).2 := by
  have hlen := same_len h
  have hat := same_at h kb
  have hmem := mem_putI h.up h.pos most kb n
  have hr := putI_rises h.up most kb n
  have hp := putI_pos h.pos most kb n
  by_cases h1 : isNaN kb = true
  · simp only [refPutI, putI, h1, if_true]
    exact ⟨trivial, h⟩
  · have h1' : isNaN kb = false := by simpa using h1
    by_cases h2 : n < 1 ∨ 1099511627776 < n
    · simp only [refPutI, putI, if_neg h1, if_pos h2]
      exact ⟨trivial, h⟩
    · by_cases h3 : (putI its most kb n).1 = 0
      · obtain ⟨_, _, _, hm⟩ := hmem h3
        have hful : ¬ (atR ms kb = 0 ∧ most ≤ (ms.length : Int)) := by
          rintro ⟨e1, e2⟩
          rw [hat] at e1
          unfold putI at h3
          rw [if_neg h1, if_neg h2] at h3
          by_cases hq : plcB its kb = true
          · obtain ⟨hpl, _⟩ := plc_true hq
            have h4 : atI its kb = its[plcI its kb].n := by simp [atI, hq, List.getElem?_eq_getElem hpl]
            have := h.pos _ (List.getElem_mem hpl)
            omega
          · rw [if_neg hq, if_pos (by omega)] at h3
            simp at h3
        by_cases h5 : n ≤ atR ms kb
        · have e : refPutI ms most kb n = (0, ms) := by unfold refPutI; rw [if_neg h1, if_neg h2, if_neg hful, if_pos h5]
          rw [e, h3]
          refine ⟨rfl, ⟨fun x => ?_, h.dif, hr, hp⟩⟩
          rw [hm, ← h.mem]
          rw [hat] at h5
          constructor
          · rintro (⟨h6, _⟩ | ⟨h6, h7⟩)
            · exact h6
            · rcases atI_char (its := its) kb with ⟨y, hy, hk, ey⟩ | e0
              · have : x = y := by
                  cases x; cases y; simp only [ItV.mk.injEq] at *
                  exact ⟨h6.trans (code_key hk).2.symm, by omega⟩
                rw [this]; exact hy
              · omega
          · intro h6
            by_cases h7 : x.k = kof kb
            · have := atI_of h.up h6 (kb := kb) (by rw [h7]; exact (key_code h1').symm)
              exact .inr ⟨h7, by omega⟩
            · exact .inl ⟨h6, h7⟩
        · have e : refPutI ms most kb n = (0, rest kb ms ++ [⟨kof kb, n⟩]) := by unfold refPutI; rw [if_neg h1, if_neg h2, if_neg hful, if_neg h5]
          rw [e, h3]
          rw [hat] at h5
          refine ⟨rfl, ⟨fun x => ?_, ?_, hr, hp⟩⟩
          · rw [hm, List.mem_append, mem_rest h1', List.mem_singleton, ← h.mem]
            have : (x.k = kof kb ∧ x.n = max (atI its kb) n) ↔ x = ⟨kof kb, n⟩ := by
              cases x; simp only [ItV.mk.injEq]
              rw [show max (atI its kb) n = n by omega]
            rw [this]
          · show List.Pairwise _ _
            rw [List.pairwise_append]
            refine ⟨List.Pairwise.sublist List.filter_sublist h.dif, by simp, fun x hx y hy => ?_⟩
            rw [List.mem_singleton] at hy
            subst hy
            intro e
            obtain ⟨_, h7⟩ := (mem_rest h1' x).1 hx
            rw [key_code h1'] at e
            exact h7 (code_key e).2
      · have hs := putI_same h3
        have hq : ¬ plcB its kb = true := fun hq => h3 (by unfold putI; rw [if_neg h1, if_neg h2, if_pos hq])
        have hf : (its.length : Int) = most := by
          refine Classical.byContradiction fun h6 => h3 ?_
          unfold putI; rw [if_neg h1, if_neg h2, if_neg hq, if_neg h6]
        have h0 : atI its kb = 0 := by simp [atI, hq]
        have e : refPutI ms most kb n = (3, ms) := by unfold refPutI; rw [if_neg h1, if_neg h2, if_pos ⟨by rw [hat, h0], by omega⟩]
        have e2 : (putI its most kb n).1 = 3 := by unfold putI; rw [if_neg h1, if_neg h2, if_neg hq, if_pos hf]
        rw [e, e2, hs]
        exact ⟨rfl, h⟩
end Go.Proofs.Ytnlaepogkepnhaa
