/- The table's items and the document's: the same, in another order; behind Put and Drop. -/
import Derived.Test.YtnlaepogkepnhaaQ10a
import Derived.Test.YtnlaepogkepnhaaQ10p
import Derived.Test.YtnlaepogkepnhaaQ10o
namespace Go.Proofs.Ytnlaepogkepnhaa.Q
set_option linter.unusedVariables false
open Go.RowKit Fl

def differ (ms : List ItV) : Prop := ms.Pairwise fun x y => codeR x.k.rg ≠ codeR y.k.rg
structure Same (its ms : List ItV) : Prop where
  mem : ∀ x, x ∈ its ↔ x ∈ ms
  dif : differ ms
  up : rises its
  pos : pos its
theorem same_nil : Same [] [] := ⟨fun _ => Iff.rfl, List.Pairwise.nil, List.Pairwise.nil, pos_nil⟩
theorem same_at {its ms : List ItV} (h : Same its ms) (key : Nat) : atI ms key = atI its key := by
  have le : ∀ l l' : List ItV, (∀ x, x ∈ l → x ∈ l') → atI l key ≤ atI l' key := fun l l' hm => by
    rcases at_char l key with e | ⟨x, hx, hb, e⟩
    · rw [e]; exact atI_nonneg _ _
    · rw [e]; exact at_ge (hm x hx) hb
  exact Int.le_antisymm (le _ _ fun x hx => (h.mem x).2 hx) (le _ _ fun x hx => (h.mem x).1 hx)

/-! All: by rank. -/
theorem rank_mono {ms : List ItV} {x y : ItV} (h : codeR x.k.rg ≤ codeR y.k.rg) : rank ms x ≤ rank ms y := by
  unfold rank
  rw [← List.countP_eq_length_filter, ← List.countP_eq_length_filter]
  refine List.countP_mono_left fun z _ hz => ?_
  simp only [decide_eq_true_eq] at hz ⊢
  omega
theorem mem_allR (ms : List ItV) (x : ItV) : ∀ i, x ∈ allR ms i ↔ x ∈ ms ∧ rank ms x < i
  | 0 => by simp [allR]
  | i + 1 => by
    show x ∈ allR ms i ++ ofRank ms i ms ↔ _
    rw [List.mem_append, mem_allR ms x i]
    unfold ofRank
    rw [List.mem_filter, decide_eq_true_eq]
    constructor
    · rintro (⟨h1, h2⟩ | ⟨h1, h2⟩)
      · exact ⟨h1, by omega⟩
      · exact ⟨h1, by omega⟩
    · rintro ⟨h1, h2⟩
      rcases Nat.lt_or_ge (rank ms x) i with h3 | h3
      · exact .inl ⟨h1, h3⟩
      · exact .inr ⟨h1, by omega⟩
theorem rank_lt {ms : List ItV} {x : ItV} (hx : x ∈ ms) : rank ms x < ms.length := by
  unfold rank
  refine Nat.lt_of_le_of_ne (List.length_filter_le _ _) fun e => ?_
  rw [List.length_filter_eq_length_iff] at e
  have := e x hx
  simp at this
theorem rank_same {ms : List ItV} {x y : ItV} (hx : x ∈ ms) (h : codeR x.k.rg < codeR y.k.rg) : rank ms x < rank ms y := by
  unfold rank
  have e : ∀ z : ItV, (decide (codeR z.k.rg < codeR y.k.rg)) = (decide (codeR z.k.rg < codeR x.k.rg) || decide (codeR x.k.rg ≤ codeR z.k.rg ∧ codeR z.k.rg < codeR y.k.rg)) := fun z => by
    rw [Bool.eq_iff_iff]; simp; omega
  have h2 := filter_add (p := fun z : ItV => decide (codeR z.k.rg < codeR x.k.rg)) (q := fun z => decide (codeR x.k.rg ≤ codeR z.k.rg ∧ codeR z.k.rg < codeR y.k.rg)) (r := fun z => decide (codeR z.k.rg < codeR y.k.rg)) e (fun z => by simp; omega) ms
  have h3 : 0 < (ms.filter fun z => decide (codeR x.k.rg ≤ codeR z.k.rg ∧ codeR z.k.rg < codeR y.k.rg)).length := by
    refine List.length_pos_of_mem (a := x) (List.mem_filter.2 ⟨hx, by simp; exact h⟩)
  omega
theorem allR_rises {ms : List ItV} (hd : differ ms) : ∀ i, rises (allR ms i)
  | 0 => List.Pairwise.nil
  | i + 1 => by
    show List.Pairwise _ (allR ms i ++ ofRank ms i ms)
    rw [List.pairwise_append]
    have lt : ∀ x y : ItV, y ∈ ms → rank ms x < rank ms y → codeR x.k.rg < codeR y.k.rg := fun x y _ h => by
      have : ¬ codeR y.k.rg ≤ codeR x.k.rg := fun h' => by have := rank_mono (ms := ms) h'; omega
      omega
    refine ⟨allR_rises hd i, ?_, fun x hx y hy => ?_⟩
    · have h1 : differ (ofRank ms i ms) := List.Pairwise.sublist List.filter_sublist hd
      refine List.Pairwise.imp_of_mem ?_ h1
      intro x y hx hy hne
      unfold ofRank at hx hy
      rw [List.mem_filter, decide_eq_true_eq] at hx hy
      rcases Int.lt_trichotomy (codeR x.k.rg) (codeR y.k.rg) with h | h | h
      · have := rank_same hx.1 h; omega
      · exact absurd h hne
      · have := rank_same hy.1 h; omega
    · unfold ofRank at hy
      rw [List.mem_filter, decide_eq_true_eq] at hy
      have := ((mem_allR ms x i).1 hx).2
      exact lt x y hy.1 (by omega)
theorem allR_same {its ms : List ItV} (h : Same its ms) : allR ms ms.length = its := by
  refine rises_ext (allR_rises h.dif _) h.up fun x => ?_
  rw [mem_allR, h.mem]
  exact ⟨fun h1 => h1.1, fun h1 => ⟨h1, rank_lt h1⟩⟩
theorem same_len {its ms : List ItV} (h : Same its ms) : its.length = ms.length := by
  rw [← allR_same h, allR_lt]
  rw [List.filter_eq_self.2]
  intro x hx
  simp; exact rank_lt hx

theorem same_drop {its ms : List ItV} (h : Same its ms) (m : Int) : Same (kept m its) (kept m ms) := by
  refine ⟨fun x => ?_, List.Pairwise.sublist List.filter_sublist h.dif, kept_rises h.up m, fun x hx => h.pos x (List.mem_filter.1 hx).1⟩
  unfold kept
  rw [List.mem_filter, List.mem_filter, h.mem]
theorem there_iff {ms : List ItV} {k : RK} : there k ms = true ↔ ∃ x ∈ ms, x.k = k := by
  unfold there
  rw [List.any_eq_true]
  constructor
  · rintro ⟨x, h1, h2⟩; exact ⟨x, h1, of_decide_eq_true h2⟩
  · rintro ⟨x, h1, h2⟩; exact ⟨x, h1, decide_eq_true h2⟩
theorem mem_mapU {k : RK} {n : Int} {ms : List ItV} {x : ItV} : x ∈ mapU k n ms ↔ (x ∈ ms ∧ x.k ≠ k) ∨ ∃ y ∈ ms, y.k = k ∧ x = ⟨k, max y.n n⟩ := by
  unfold mapU
  rw [List.mem_map]
  constructor
  · rintro ⟨y, hy, rfl⟩
    unfold upd
    by_cases h : y.k = k
    · rw [if_pos h]; exact .inr ⟨y, hy, h, by rw [h]⟩
    · rw [if_neg h]; exact .inl ⟨hy, h⟩
  · rintro (⟨h1, h2⟩ | ⟨y, hy, h1, rfl⟩)
    · exact ⟨x, h1, by unfold upd; rw [if_neg h2]⟩
    · exact ⟨y, hy, by unfold upd; rw [if_pos h1, h1]⟩
theorem mapU_differ {k : RK} {n : Int} {ms : List ItV} (h : differ ms) : differ (mapU k n ms) := by
  unfold differ mapU at *
  rw [List.pairwise_map]
  refine h.imp fun {x y} hne => ?_
  have e : ∀ z : ItV, (upd k n z).k = z.k := fun z => by unfold upd; split <;> rfl
  rw [e, e]; exact hne
theorem same_put {its ms : List ItV} (h : Same its ms) (most : Int) (hl : (its.length : Int) ≤ most) (kb : Rg) (ok : okR kb) (n : Int) : (refPutI ms most kb n).1 = (putI its most kb n).1 ∧ Same (putI its most kb n).2 (refPutI ms most kb n).2 := by
  have hlen := same_len h
  have hr := putI_risesK h.up most ok n
  have hp := putI_pos h.pos most kb n
  by_cases h1 : kb = none
  · simp only [refPutI, putI, if_pos h1]
    exact ⟨trivial, h⟩
  · by_cases h2 : n < 1 ∨ 1099511627776 < n
    · simp only [refPutI, putI, if_neg h1, if_pos h2]
      exact ⟨trivial, h⟩
    · by_cases hq : plcB its kb = true
      · obtain ⟨hpl, hk⟩ := plc_true hq
        have hk' := (code_key ok hk).2
        have ht : there (keyR kb) ms = true := there_iff.2 ⟨_, (h.mem _).1 (List.getElem_mem hpl), hk'⟩
        have e1 : (putI its most kb n).1 = 0 := by unfold putI; rw [if_neg h1, if_neg h2, if_pos hq]
        have e2 : refPutI ms most kb n = (0, mapU (keyR kb) n ms) := by unfold refPutI; rw [if_neg h1, if_neg h2, if_pos ht]
        obtain ⟨_, _, _, hm⟩ := mem_putI h.up h.pos most kb ok n e1
        rw [e2, e1]
        refine ⟨rfl, ⟨fun x => ?_, mapU_differ h.dif, hr, hp⟩⟩
        rw [hm, mem_mapU, h.mem]
        constructor
        · rintro (h3 | ⟨h3, h4⟩)
          · exact .inl h3
          · refine .inr ⟨its[plcI its kb], (h.mem _).1 (List.getElem_mem hpl), hk', ?_⟩
            have : numI its kb = its[plcI its kb].n := by simp [numI, hq, List.getElem?_eq_getElem hpl]
            rw [this] at h4
            cases x; simp only [ItV.mk.injEq] at *; exact ⟨h3, h4⟩
        · rintro (h3 | ⟨y, hy, h3, rfl⟩)
          · exact .inl h3
          · have := numI_of h.up ((h.mem y).2 hy) (kb := kb) (by rw [h3, key_code ok h1])
            exact .inr ⟨rfl, by rw [this]⟩
      · have hq' : plcB its kb = false := by simpa using hq
        have ht : ¬ there (keyR kb) ms = true := fun ht => by
          obtain ⟨x, hx, hk⟩ := there_iff.1 ht
          exact plc_false h.up hq' ((h.mem x).2 hx) (by rw [hk, key_code ok h1])
        by_cases hf : (its.length : Int) = most
        · have e1 : putI its most kb n = (3, its) := by unfold putI; rw [if_neg h1, if_neg h2, if_neg hq, if_pos hf]
          have e2 : refPutI ms most kb n = (3, ms) := by unfold refPutI; rw [if_neg h1, if_neg h2, if_neg ht, if_pos (by omega)]
          rw [e1, e2]; exact ⟨rfl, h⟩
        · have e1 : (putI its most kb n).1 = 0 := by unfold putI; rw [if_neg h1, if_neg h2, if_neg hq, if_neg hf]
          have e2 : refPutI ms most kb n = (0, ms ++ [⟨keyR kb, n⟩]) := by unfold refPutI; rw [if_neg h1, if_neg h2, if_neg ht, if_neg (by omega)]
          obtain ⟨_, _, _, hm⟩ := mem_putI h.up h.pos most kb ok n e1
          rw [e2, e1]
          have h0 : numI its kb = 0 := by simp [numI, hq]
          have hno : ∀ x ∈ ms, x.k ≠ keyR kb := fun x hx e => ht (there_iff.2 ⟨x, hx, e⟩)
          refine ⟨rfl, ⟨fun x => ?_, ?_, hr, hp⟩⟩
          · rw [hm, List.mem_append, List.mem_singleton, h.mem, h0]
            have : (x.k = keyR kb ∧ x.n = max 0 n) ↔ x = ⟨keyR kb, n⟩ := by
              cases x; simp only [ItV.mk.injEq]
              rw [show max 0 n = n by omega]
            rw [this]
            constructor
            · rintro (h3 | h3)
              · exact .inl h3.1
              · exact .inr h3
            · rintro (h3 | h3)
              · exact .inl ⟨h3, hno x h3⟩
              · exact .inr h3
          · show List.Pairwise _ _
            rw [List.pairwise_append]
            refine ⟨h.dif, by simp, fun x hx y hy => ?_⟩
            rw [List.mem_singleton] at hy
            subst hy
            intro e
            exact hno x hx (rk_inj e)
end Go.Proofs.Ytnlaepogkepnhaa.Q
