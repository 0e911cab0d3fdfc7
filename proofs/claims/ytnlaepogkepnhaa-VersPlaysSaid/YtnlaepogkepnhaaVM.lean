/- The table's items and the document's: the same, in another order. -/
import Derived.Test.YtnlaepogkepnhaaR09a
import Derived.Test.YtnlaepogkepnhaaR09q
namespace Go.Proofs.Ytnlaepogkepnhaa
set_option linter.unusedVariables false
open Go.RowKit Fl

def differ (ms : List ItV) : Prop := ms.Pairwise fun x y => codeOf x.k.bits ≠ codeOf y.k.bits
structure Same (its ms : List ItV) : Prop where
  mem : ∀ x, x ∈ its ↔ x ∈ ms
  dif : differ ms
  up : rises its
  pos : pos its

theorem differ_inj {ms : List ItV} (h : differ ms) {x y : ItV} (hx : x ∈ ms) (hy : y ∈ ms) (e : codeOf x.k.bits = codeOf y.k.bits) : x = y := by
  obtain ⟨i, hi, rfl⟩ := List.getElem_of_mem hx
  obtain ⟨j, hj, rfl⟩ := List.getElem_of_mem hy
  rcases Nat.lt_trichotomy i j with h1 | h1 | h1
  · exact absurd e ((List.pairwise_iff_getElem.1 h) i j hi hj h1)
  · subst h1; rfl
  · exact absurd e.symm ((List.pairwise_iff_getElem.1 h) j i hj hi h1)
theorem same_nil : Same [] [] := ⟨fun _ => Iff.rfl, List.Pairwise.nil, List.Pairwise.nil, pos_nil⟩

theorem same_at {its ms : List ItV} (h : Same its ms) (kb : Nat) : atR ms kb = atI its kb := by
  unfold atR
  cases e : ms.find? (fun x => decide (codeOf x.k.bits = codeOf kb)) with
  | some x =>
    have h1 := List.find?_some e
    have h2 := List.mem_of_find?_eq_some e
    have := atI_of h.up ((h.mem x).2 h2) (kb := kb) (by simpa using (of_decide_eq_true h1).symm)
    rw [this]; rfl
  | none =>
    rw [List.find?_eq_none] at e
    rw [atI_not fun x hx => by have := e x ((h.mem x).1 hx); simpa using this]
    rfl
theorem same_over {its ms : List ItV} (h : Same its ms) (r : Rg) : overI ms r = overI its r := by
  refine overI_eq (overI_nonneg its r) (fun x hx hb => overI_mem ((h.mem x).2 hx) hb) ?_
  rcases fold_att r its 0 with e | ⟨x, hx, hb, e⟩
  · exact .inl e
  · exact .inr ⟨x, (h.mem x).1 hx, hb, e.symm⟩

/-! All: by rank. -/
theorem rank_mono {ms : List ItV} {x y : ItV} (h : codeOf x.k.bits ≤ codeOf y.k.bits) : rank ms x ≤ rank ms y := by
  unfold rank
  rw [← List.countP_eq_length_filter, ← List.countP_eq_length_filter]
  refine List.countP_mono_left fun z _ hz => ?_
  simp only [decide_eq_true_eq] at hz ⊢
  omega
theorem mem_allR (ms : List ItV) (x : ItV) : ∀ i, x ∈ allR ms i ↔ x ∈ ms ∧ rank ms x < i
  | 0 => by simp [allR]
  | i + 1 => by
    show x ∈ allR ms i ++ ofRank ms i ms ↔ _
    rw [List.mem_append, mem_allR ms x i]
    unfold ofRank
    rw [List.mem_filter, decide_eq_true_eq]
    constructor
    · rintro (⟨h1, h2⟩ | ⟨h1, h2⟩)
      · exact ⟨h1, by omega⟩
      · exact ⟨h1, by omega⟩
    · rintro ⟨h1, h2⟩
      rcases Nat.lt_or_ge (rank ms x) i with h3 | h3
      · exact .inl ⟨h1, h3⟩
      · exact .inr ⟨h1, by omega⟩
theorem rank_lt {ms : List ItV} {x : ItV} (hx : x ∈ ms) : rank ms x < ms.length := by
  unfold rank
  refine Nat.lt_of_le_of_ne (List.length_filter_le _ _) fun e => ?_
  rw [List.length_filter_eq_length_iff] at e
  have := e x hx
  simp at this
theorem rank_same {ms : List ItV} {x y : ItV} (hx : x ∈ ms) (h : codeOf x.k.bits < codeOf y.k.bits) : rank ms x < rank ms y := by
  unfold rank
  have e : ∀ z : ItV, (decide (codeOf z.k.bits < codeOf y.k.bits)) = (decide (codeOf z.k.bits < codeOf x.k.bits) || decide (codeOf x.k.bits ≤ codeOf z.k.bits ∧ codeOf z.k.bits < codeOf y.k.bits)) := fun z => by
    rw [Bool.eq_iff_iff]; simp; omega
  have h2 := filter_add (p := fun z : ItV => decide (codeOf z.k.bits < codeOf x.k.bits)) (q := fun z => decide (codeOf x.k.bits ≤ codeOf z.k.bits ∧ codeOf z.k.bits < codeOf y.k.bits)) (r := fun z => decide (codeOf z.k.bits < codeOf y.k.bits)) e (fun z => by simp; omega) ms
  have h3 : 0 < (ms.filter fun z => decide (codeOf x.k.bits ≤ codeOf z.k.bits ∧ codeOf z.k.bits < codeOf y.k.bits)).length := by
    refine List.length_pos_of_mem (a := x) (List.mem_filter.2 ⟨hx, by simp; exact h⟩)
  omega
theorem allR_rises {ms : List ItV} (hd : differ ms) : ∀ i, rises (allR ms i)
  | 0 => List.Pairwise.nil
  | i + 1 => by
    show List.Pairwise _ (allR ms i ++ ofRank ms i ms)
    rw [List.pairwise_append]
    have lt : ∀ x y : ItV, y ∈ ms → rank ms x < rank ms y → x.k.v < y.k.v := fun x y _ h => by
      have : ¬ codeOf y.k.bits ≤ codeOf x.k.bits := fun h' => by have := rank_mono (ms := ms) h'; omega
      rw [codeOf_key, codeOf_key] at this
      exact (kcode_lt _ _).1 (by omega)
    refine ⟨allR_rises hd i, ?_, fun x hx y hy => ?_⟩
    · have h1 : differ (ofRank ms i ms) := List.Pairwise.sublist List.filter_sublist hd
      refine List.Pairwise.imp_of_mem ?_ h1
      intro x y hx hy hne
      unfold ofRank at hx hy
      rw [List.mem_filter, decide_eq_true_eq] at hx hy
      rcases Int.lt_trichotomy (codeOf x.k.bits) (codeOf y.k.bits) with h | h | h
      · have := rank_same hx.1 h; omega
      · exact absurd h hne
      · have := rank_same hy.1 h; omega
    · unfold ofRank at hy
      rw [List.mem_filter, decide_eq_true_eq] at hy
      have := ((mem_allR ms x i).1 hx).2
      exact lt x y hy.1 (by omega)
theorem allR_same {its ms : List ItV} (h : Same its ms) : allR ms ms.length = its := by
  refine rises_ext (allR_rises h.dif _) h.up fun x => ?_
  rw [mem_allR, h.mem]
  exact ⟨fun h1 => h1.1, fun h1 => ⟨h1, rank_lt h1⟩⟩
theorem same_len {its ms : List ItV} (h : Same its ms) : its.length = ms.length := by
  rw [← allR_same h, allR_lt]
  rw [List.filter_eq_self.2]
  intro x hx
  simp; exact rank_lt hx
end Go.Proofs.Ytnlaepogkepnhaa
