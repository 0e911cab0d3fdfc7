/- A region that draws its order: quiet operations (reads, calls that at most make memory), then a forced tail (stores). Over no program. -/
import Derived.StillTail
import Derived.Deep.Quiet
import Derived.Below
namespace Go.Proofs.Ytibimhjbhincnaa
set_option linter.unusedVariables false
open Go.RowKit

/-- Edges of the first n operations lead back; their guards too. -/
def headFwd (md : Region.Mode) (l : List Oper) : Bool :=
  (List.range l.length).all fun i => match l[i]? with
    | some o => (o.after.all fun e => !Region.binds md e || decide (e.on < i)) && (match o.guard with | none => true | some (j, _) => decide (j < l.length))
    | none => true

section
variable {P : Program} {md : Region.Mode} {C : World → Prop} {l : List Oper} {n : Nat}

theorem headFwd_spec {i : Nat} {o : Oper} (h : headFwd md l = true) (ho : l[i]? = some o) : (∀ e ∈ o.after, Region.binds md e = true → e.on < i) ∧ (∀ j b, o.guard = some (j, b) → j < l.length) := by
  have hi : i < l.length := (List.getElem?_eq_some_iff.1 ho).1
  have h1 := List.all_eq_true.1 h i (List.mem_range.2 hi)
  simp only [ho, Bool.and_eq_true] at h1
  constructor
  · intro e he hb
    have := (Array.all_eq_true'.1 h1.1) e he
    simp only [hb, Bool.not_true, Bool.false_or, decide_eq_true_eq] at this
    exact this
  · intro j b hg
    have := h1.2
    simp only [hg, decide_eq_true_eq] at this
    exact this

theorem count_set : ∀ (xs : List Bool) (i : Nat), xs[i]? = some false → ((xs.set i true).filter (!·)).length + 1 = (xs.filter (!·)).length
  | [], i, h => by simp at h
  | x :: xs, 0, h => by simp at h; subst h; simp
  | x :: xs, i + 1, h => by
    have := count_set xs i (by simpa using h)
    cases x <;> simp at * <;> omega

theorem count_pos {xs : List Bool} {k : Nat} (h : (xs.filter (!·)).length = k + 1) : ∃ i : Nat, xs[i]? = some false := by
  have : (xs.filter (!·)) ≠ [] := by intro e; rw [e] at h; simp at h
  obtain ⟨x, hx⟩ := List.exists_mem_of_ne_nil _ this
  rw [List.mem_filter] at hx
  obtain ⟨i, hi⟩ := List.mem_iff_getElem?.1 hx.1
  refine ⟨i, ?_⟩
  rw [hi]; simpa using hx.2

theorem count_zero {xs : List Bool} (h : (xs.filter (!·)).length = 0) (i : Nat) (hi : i < xs.length) : xs[i]? = some true := by
  have e : xs.filter (!·) = [] := List.length_eq_zero_iff.1 h
  rw [List.filter_eq_nil_iff] at e
  have := e xs[i] (List.getElem_mem hi)
  rw [List.getElem?_eq_getElem hi]
  simpa using this

/-- Something of the head may come up. -/
theorem exists_ready (hf : headFwd md l = true) {LH : Array Bool} (hz : LH.size = l.length) : ∀ i : Nat, LH[i]? = some false → ∃ j, j ∈ Region.ready md l.toArray LH := by
  intro i
  induction i using Nat.strongRecOn with
  | _ i ih =>
    intro h
    have hi : i < l.length := by have := (Array.getElem?_eq_some_iff.1 h).1; omega
    by_cases hall : ∀ e ∈ (l[i]).after, Region.binds md e = true → LH.getD e.on false = true
    · refine ⟨i, mem_ready.2 ⟨by simp [Array.getD_eq_getD_getElem?, h], l[i], by simp [hi], hall⟩⟩
    · simp only [Classical.not_forall] at hall
      obtain ⟨e, he, hb, hno⟩ := hall
      have hlt := (headFwd_spec hf (List.getElem?_eq_getElem hi)).1 e he hb
      refine ih e.on hlt ?_
      have hz2 : e.on < LH.size := by omega
      rw [Array.getElem?_eq_getElem hz2]
      simp [Array.getD_eq_getD_getElem?, Array.getElem?_eq_getElem hz2] at hno
      rw [hno]

theorem wanted_take {o : Oper} {a : Act} {i : Nat} (hf : headFwd md (l.take n) = true) (ho : (l.take n)[i]? = some o) :
    Region.wanted o (yielded l.toArray a.tmps) = Region.wanted o (yielded (l.take n).toArray a.tmps) := by
  have h := (headFwd_spec hf ho).2
  unfold Region.wanted
  cases hg : o.guard with
  | none => rfl
  | some p =>
    obtain ⟨j, b⟩ := p
    have hj := h j b hg
    have e : l.toArray[j]? = (l.take n).toArray[j]? := by
      simp only [List.getElem?_toArray]
      rw [List.getElem?_take, if_pos (by simp at hj; omega)]
    simp only [yielded, e]

theorem bridge {Q : Exit → Act → World → Prop} {Qh : Act → Prop} {g : Nat} (hn : n < l.length) (hs : Region.sinkB md l.toArray n = true) (hc : Region.chainB md l.toArray n = true) (hf : headFwd md (l.take n) = true)
    (hT : ∀ (L : Array Bool) a w, C w → Qh a → L.size = l.length → (∀ i, i < n → L[i]? = some true) → (∀ i, n ≤ i → i < l.length → L[i]? = some false) → wpAny P md l.toArray Q g L a w) :
    ∀ (fuel : Nat) (L LH : Array Bool) (a : Act) (w : World), C w → HeadInv md l.toArray n L → LH.size = n → (∀ i, i < n → L[i]? = LH[i]?) → (LH.toList.filter (!·)).length = fuel →
      wpAnyQ P md (l.take n).toArray C Qh fuel LH a → wpAny P md l.toArray Q (fuel + g) L a w := by
  have hlen : (l.take n).length = n := by simp; omega
  have tailOf : ∀ {L : Array Bool}, HeadInv md l.toArray n L → ∀ i, n ≤ i → i < l.length → L[i]? = some false := by
    intro L inv i h1 h2
    have := inv.tail i h1 (by simpa using h2)
    have hz : i < L.size := by have := inv.size; simp at this; omega
    rw [Array.getElem?_eq_getElem hz]
    simp [Array.getD_eq_getD_getElem?, Array.getElem?_eq_getElem hz] at this
    rw [this]
  intro fuel
  induction fuel with
  | zero =>
    intro L LH a w hC inv hz same hcnt H
    rw [Nat.zero_add]
    refine hT L a w hC H.2 (by have := inv.size; simpa using this) (fun i hi => ?_) (tailOf inv)
    rw [same i hi, ← Array.getElem?_toList]
    exact count_zero hcnt i (by simpa [hz] using hi)
  | succ fuel ih =>
    intro L LH a w hC inv hz same hcnt H
    obtain ⟨u, hu⟩ := count_pos hcnt
    have hu' : LH[u]? = some false := by rw [← Array.getElem?_toList]; exact hu
    have hun : u < n := by have := (Array.getElem?_eq_some_iff.1 hu').1; omega
    have hLu : L.getD u true = false := by simp [Array.getD_eq_getD_getElem?, same u hun, hu']
    -- what may come up of the whole is what may come up of the head
    have on_lt : ∀ k, L.getD k false = true → k < n := by
      intro k hk
      rcases Nat.lt_or_ge k n with h | h
      · exact h
      · rcases Nat.lt_or_ge k l.length with h2 | h2
        · have := tailOf inv k h h2
          simp [Array.getD_eq_getD_getElem?, this] at hk
        · have : L[k]? = none := Array.getElem?_eq_none (by have := inv.size; simp at this; omega)
          simp [Array.getD_eq_getD_getElem?, this] at hk
    have toHead : ∀ j, j ∈ Region.ready md l.toArray L → j < n ∧ j ∈ Region.ready md (l.take n).toArray LH := by
      intro j hj
      have hjn : j < n := by
        rcases Nat.lt_or_ge j n with h | h
        · exact h
        · exact absurd hj (tail_waits hs hc (by simpa using hn) inv _ u rfl hun hLu j h)
      obtain ⟨h1, o, ho, hall⟩ := mem_ready.1 hj
      refine ⟨hjn, mem_ready.2 ⟨?_, o, ?_, fun e he hb => ?_⟩⟩
      · simpa [Array.getD_eq_getD_getElem?, same j hjn] using h1
      · simp only [List.getElem?_toArray] at ho ⊢
        rw [List.getElem?_take, if_pos hjn]; exact ho
      · have h3 := hall e he hb
        have h4 := on_lt e.on h3
        simpa [Array.getD_eq_getD_getElem?, same e.on h4] using h3
    have fromHead : ∀ j, j ∈ Region.ready md (l.take n).toArray LH → j ∈ Region.ready md l.toArray L := by
      intro j hj
      obtain ⟨h1, o, ho, hall⟩ := mem_ready.1 hj
      have hjn : j < n := by
        have := (Array.getElem?_eq_some_iff.1 ho).1
        simp at this; omega
      refine mem_ready.2 ⟨?_, o, ?_, fun e he hb => ?_⟩
      · simpa [Array.getD_eq_getD_getElem?, same j hjn] using h1
      · simp only [List.getElem?_toArray] at ho ⊢
        rw [List.getElem?_take, if_pos hjn] at ho; exact ho
      · have h3 := hall e he hb
        have h4 : e.on < n := by
          rcases Nat.lt_or_ge e.on n with h | h
          · exact h
          · have : LH[e.on]? = none := Array.getElem?_eq_none (by omega)
            simp [Array.getD_eq_getD_getElem?, this] at h3
        simpa [Array.getD_eq_getD_getElem?, same e.on h4] using h3
    rw [show fuel + 1 + g = (fuel + g) + 1 by omega]
    refine ⟨fun h0 => ?_, fun i hi => ?_⟩
    · obtain ⟨j, hj⟩ := exists_ready (l := l.take n) hf (by rw [hz, hlen]) u hu'
      have := fromHead j hj
      rw [h0] at this
      cases this
    · obtain ⟨hin, hiH⟩ := toHead i hi
      have hq := H.2 i hiH
      obtain ⟨h1, o, ho, hall⟩ := mem_ready.1 hi
      have hoH : (l.take n)[i]? = some o := by rw [List.getElem?_take, if_pos hin]; simpa using ho
      have hLi : LH[i]? = some false := by
        have := (mem_ready.1 hiH).1
        have hz2 : i < LH.size := by omega
        rw [Array.getElem?_eq_getElem hz2]
        simp [Array.getD_eq_getD_getElem?, Array.getElem?_eq_getElem hz2] at this
        rw [this]
      have next : ∀ a' w', C w' → wpAnyQ P md (l.take n).toArray C Qh fuel (LH.setIfInBounds i true) a' → wpAny P md l.toArray Q (fuel + g) (L.setIfInBounds i true) a' w' := by
        intro a' w' hC' H'
        refine ih _ _ a' w' hC' (inv.set hi hin) (by simp [hz]) (fun k hk => ?_) ?_ H'
        · by_cases hki : i = k
          · subst hki
            rw [Array.getElem?_setIfInBounds_self_of_lt (by have := inv.size; simp at this; omega), Array.getElem?_setIfInBounds_self_of_lt (by omega)]
          · rw [Array.getElem?_setIfInBounds_ne hki, Array.getElem?_setIfInBounds_ne hki]; exact same k hk
        · have := count_set LH.toList i (by rw [Array.getElem?_toList]; exact hLi)
          rw [Array.toList_setIfInBounds]; omega
      unfold qOp at hq
      rw [show (l.take n).toArray[i]? = some o by simpa using hoH] at hq
      unfold wpOp
      rw [show l.toArray[i]? = some o by simpa using ho]
      dsimp only at hq ⊢
      rw [wanted_take hf hoH]
      by_cases hw : Region.wanted o (yielded (l.take n).toArray a.tmps) = true
      · rw [if_pos hw] at hq ⊢
        exact .inl (Oper.wp_of_quiet hC next hq)
      · rw [if_neg hw] at hq ⊢
        exact next _ _ hC hq

/-- A region that draws its order: n quiet operations, walked in the order of the text; then the tail. -/
theorem wp_region_tail {id : Nat} {Q : Exit → Act → World → Prop} {a : Act} {w : World} (n : Nat) (hm : P.follows .mixedOrders = true) (hB : Region.lexTailB .any l.toArray n = true)
    (hH : (Region.lexB .any (l.take n).toArray && headFwd .any (l.take n) && Region.seqB .any l.toArray (l.length - n) n ((List.replicate n true ++ List.replicate (l.length - n) false).toArray)) = true)
    (hC : C { w with drawn := w.drawn + 1 })
    (h : wpQuiet P (l.take n).toArray C (fun a' => ∀ w', C w' → wpList P l.toArray Q (l.drop n) a' w') (l.take n) a) : (Code.region id l.toArray true).wp P Q a w := by
  simp only [Region.lexTailB, Bool.and_eq_true, decide_eq_true_eq] at hB hH
  obtain ⟨⟨⟨⟨hsel, hn⟩, hs⟩, hc⟩, _⟩ := hB
  obtain ⟨⟨hlex, hf⟩, hseq⟩ := hH
  have hn' : n < l.length := by simpa using hn
  have hlen : (l.take n).length = n := by simp; omega
  simp only [Region.lexB, Bool.and_eq_true] at hlex
  have hq := wpAnyQ_lex (C := C) (md := .any) hlex.1 (l.take n) 0 (Array.replicate n false) a (by simp) (by have := hlex.2; simp only [List.size_toArray, hlen] at this; rw [hlen]; exact this) h
  rw [hlen] at hq
  refine wp_region_any hm ?_
  have inv0 : HeadInv .any l.toArray n (Array.replicate l.toArray.size false) :=
    ⟨by simp, fun j oj _ hl => (by rw [getD_replicate_false] at hl; cases hl), fun t _ ht => getD_in (by simpa using ht) (getD_replicate_false _ _)⟩
  have := bridge (P := P) (md := .any) (C := C) (l := l) (n := n) (Q := Q) (g := l.length - n) hn' hs hc hf (Qh := fun a' => ∀ w', C w' → wpList P l.toArray Q (l.drop n) a' w') (fun L a w hw hQ hz h1 h2 => by
    have eL : L = (List.replicate n true ++ List.replicate (l.length - n) false).toArray := by
      apply Array.ext_getElem?
      intro i
      rcases Nat.lt_or_ge i n with hi | hi
      · rw [h1 i hi]; simp [List.getElem?_append, hi]
      · rcases Nat.lt_or_ge i l.length with h3 | h3
        · rw [h2 i hi h3]; simp [List.getElem?_append, Nat.not_lt.2 hi, List.getElem?_replicate]; omega
        · rw [Array.getElem?_eq_none (by omega)]; symm; simp; omega
    rw [eL]
    have hdl : (l.drop n).length = l.length - n := by simp
    have := wpAny_of_seq (P := P) (md := .any) (ops := l.toArray) (Q' := Q) (l.drop n) n _ a w (fun j => by simp [List.getElem?_drop]) (by rw [hdl]; exact hseq) (hQ w hw)
    rwa [hdl] at this) n _ (Array.replicate n false) a _ hC inv0 (by simp) (fun i hi => by simp [hi, Nat.lt_trans hi hn']) (by simp) hq
  rw [show n + (l.length - n) = l.toArray.size by simp; omega] at this
  exact this
end
end Go.Proofs.Ytibimhjbhincnaa
