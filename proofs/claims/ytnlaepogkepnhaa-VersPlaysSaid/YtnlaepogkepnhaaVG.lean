/- Plain laws of layer 9's tables: what Put makes, by membership; in whatever order. -/
import Derived.Test.YtnlaepogkepnhaaVP
namespace Go.Proofs.Ytnlaepogkepnhaa
set_option linter.unusedVariables false
open Go.RowKit Fl

theorem code_key {kb : Nat} {k : Key} (h : codeOf k.bits = codeOf kb) : isNaN kb = false ∧ k = kof kb := by
  rw [codeOf_key] at h
  cases hn : isNaN kb
  · refine ⟨rfl, ?_⟩
    have : codeOf kb = kcode (kof kb) := by simp [codeOf, hn]
    rw [this, kcode_eq] at h
    exact Key.ext' h
  · have : codeOf kb = 0 := by simp [codeOf, hn]
    rw [this] at h
    have := kcode_lo k
    omega
theorem key_code {kb : Nat} (hn : isNaN kb = false) : codeOf (kof kb).bits = codeOf kb := by
  rw [codeOf_key]; simp [codeOf, hn]
theorem plc_false {its : List ItV} (hr : rises its) {kb : Nat} (hq : plcB its kb = false) {x : ItV} (hx : x ∈ its) : codeOf x.k.bits ≠ codeOf kb := by
  obtain ⟨i, hi, rfl⟩ := List.getElem_of_mem hx
  rcases Nat.lt_or_ge i (plcI its kb) with h | h
  · exact Int.ne_of_lt (plc_before h (List.getElem?_eq_getElem hi))
  · exact (Int.ne_of_lt (plc_miss hr hq h (List.getElem?_eq_getElem hi))).symm
theorem plc_true {its : List ItV} {kb : Nat} (hq : plcB its kb = true) : ∃ h : plcI its kb < its.length, codeOf (its[plcI its kb]'h).k.bits = codeOf kb := by
  have hp := plcB_lt hq
  refine ⟨hp, ?_⟩
  unfold plcB at hq
  rw [List.getElem?_eq_getElem hp] at hq
  simpa using hq
theorem atI_char {its : List ItV} (kb : Nat) : (∃ x ∈ its, codeOf x.k.bits = codeOf kb ∧ atI its kb = x.n) ∨ atI its kb = 0 := by
  cases hq : plcB its kb
  · exact .inr (by simp [atI, hq])
  · obtain ⟨hp, h⟩ := plc_true hq
    exact .inl ⟨_, List.getElem_mem hp, h, by simp [atI, hq, List.getElem?_eq_getElem hp]⟩

theorem take_drop_mem {its : List ItV} (p : Nat) (x : ItV) : x ∈ its ↔ x ∈ its.take p ∨ x ∈ its.drop p := by
  rw [← List.mem_append, List.take_append_drop]

/-- What Put makes. -/
theorem mem_putI {its : List ItV} (hr : rises its) (hp : pos its) (most : Int) (kb : Nat) (n : Int) (h0 : (putI its most kb n).1 = 0) :
    isNaN kb = false ∧ 1 ≤ n ∧ n ≤ 1099511627776 ∧ ∀ x : ItV, x ∈ (putI its most kb n).2 ↔ (x ∈ its ∧ x.k ≠ kof kb) ∨ (x.k = kof kb ∧ x.n = max (atI its kb) n) := by
  unfold putI at h0 ⊢
  by_cases h1 : isNaN kb = true
  · rw [if_pos h1] at h0; simp at h0
  · have h1' : isNaN kb = false := by simpa using h1
    rw [if_neg h1] at h0 ⊢
    by_cases h2 : n < 1 ∨ 1099511627776 < n
    · rw [if_pos h2] at h0; simp at h0
    · rw [if_neg h2] at h0 ⊢
      refine ⟨h1', by omega, by omega, fun x => ?_⟩
      by_cases h3 : plcB its kb = true
      · rw [if_pos h3]
        obtain ⟨hpl, hk⟩ := plc_true h3
        have hk' := (code_key hk).2
        have hat : atI its kb = its[plcI its kb].n := by simp [atI, h3, List.getElem?_eq_getElem hpl]
        rw [hat]
        simp only [List.getElem?_eq_getElem hpl, Option.getD_some]
        generalize plcI its kb = p at *
        constructor
        · intro hx
          obtain ⟨i, hi, rfl⟩ := List.getElem_of_mem hx
          rw [List.getElem_set]
          split
          · exact .inr ⟨hk', rfl⟩
          · rename_i hne
            have hi' : i < its.length := by simpa using hi
            refine .inl ⟨List.getElem_mem hi', fun e => hne ?_⟩
            have e1 := (plc_of_mem hr (List.getElem?_eq_getElem hi') (kb := its[i].k.bits) rfl).1
            have e2 := (plc_of_mem hr (List.getElem?_eq_getElem hpl) (kb := its[i].k.bits) (by rw [e, hk'])).1
            omega
        · rintro (⟨hx, hne⟩ | ⟨e1, e2⟩)
          · obtain ⟨i, hi, rfl⟩ := List.getElem_of_mem hx
            have hip : p ≠ i := fun e => hne (by subst e; exact hk')
            have : (its.set p ⟨its[p].k, max its[p].n n⟩)[i]'(by simpa using hi) = its[i] := by rw [List.getElem_set, if_neg hip]
            rw [← this]; exact List.getElem_mem _
          · have : x = ⟨its[p].k, max its[p].n n⟩ := by
              cases x; simp only [ItV.mk.injEq]; exact ⟨by rw [hk']; exact e1, e2⟩
            rw [this]
            exact List.mem_set hpl _
      · have h3' : plcB its kb = false := by simpa using h3
        rw [if_neg h3] at h0 ⊢
        by_cases h4 : (its.length : Int) = most
        · rw [if_pos h4] at h0; simp at h0
        · rw [if_neg h4]
          have hat : atI its kb = 0 := by simp [atI, h3']
          rw [hat]
          simp only [List.mem_append, List.mem_singleton]
          have hno : ∀ y ∈ its, y.k ≠ kof kb := fun y hy e => plc_false hr h3' hy (by rw [e]; exact key_code h1')
          have htd := take_drop_mem (its := its) (plcI its kb) x
          constructor
          · rintro ((h | rfl) | h)
            · exact .inl ⟨htd.2 (.inl h), hno x (htd.2 (.inl h))⟩
            · exact .inr ⟨rfl, by show n = max 0 n; omega⟩
            · exact .inl ⟨htd.2 (.inr h), hno x (htd.2 (.inr h))⟩
          · rintro (⟨h, _⟩ | ⟨e1, e2⟩)
            · rcases htd.1 h with h' | h'
              · exact .inl (.inl h')
              · exact .inr h'
            · refine .inl (.inr ?_)
              cases x; simp only [ItV.mk.injEq] at *; exact ⟨e1, by omega⟩
theorem putI_same {its : List ItV} {most : Int} {kb : Nat} {n : Int} (h0 : (putI its most kb n).1 ≠ 0) : (putI its most kb n).2 = its := by
  unfold putI at *
  split
  · rfl
  · rename_i h1
    rw [if_neg h1] at h0
    split
    · rfl
    · rename_i h2
      rw [if_neg h2] at h0
      split
      · rename_i h3; rw [if_pos h3] at h0; exact absurd rfl h0
      · rename_i h3
        rw [if_neg h3] at h0
        split
        · rfl
        · rename_i h4; rw [if_neg h4] at h0; exact absurd rfl h0

/-! More is more. -/
def dom (its its' : List ItV) : Prop := ∀ x ∈ its, ∃ y ∈ its', y.k = x.k ∧ x.n ≤ y.n
theorem putI_dom {its : List ItV} (hr : rises its) (hp : pos its) (most : Int) (kb : Nat) (n : Int) : dom its (putI its most kb n).2 := by
  by_cases h0 : (putI its most kb n).1 = 0
  · obtain ⟨_, _, _, hm⟩ := mem_putI hr hp most kb n h0
    intro x hx
    by_cases hk : x.k = kof kb
    · refine ⟨⟨kof kb, max (atI its kb) n⟩, (hm _).2 (.inr ⟨rfl, rfl⟩), hk.symm, ?_⟩
      have := atI_of hr hx (kb := kb) (by rw [hk, key_code (by assumption)])
      show x.n ≤ max _ _; omega
    · exact ⟨x, (hm x).2 (.inl ⟨hx, hk⟩), rfl, Int.le_refl _⟩
  · rw [putI_same h0]; exact fun x hx => ⟨x, hx, rfl, Int.le_refl _⟩
theorem atI_nonneg {its : List ItV} (hp : pos its) (kb : Nat) : 0 ≤ atI its kb := by
  rcases atI_char (its := its) kb with ⟨x, hx, _, h⟩ | h
  · have := hp x hx; omega
  · omega
theorem dom_at {its its' : List ItV} (hr' : rises its') (hp' : pos its') (h : dom its its') (kb : Nat) : atI its kb ≤ atI its' kb := by
  rcases atI_char (its := its) kb with ⟨x, hx, hk, e⟩ | e
  · obtain ⟨y, hy, h1, h2⟩ := h x hx
    have := atI_of hr' hy (kb := kb) (by rw [h1]; exact hk.symm)
    omega
  · have := atI_nonneg hp' kb; omega
theorem dom_over {its its' : List ItV} (h : dom its its') (r : Rg) : overI its r ≤ overI its' r := by
  rcases fold_att r its 0 with e | ⟨x, hx, hb, e⟩
  · have := overI_nonneg its' r
    unfold overI at *; omega
  · obtain ⟨y, hy, h1, h2⟩ := h x hx
    have := overI_mem hy (r := r) (by rw [h1]; exact hb)
    unfold overI at *; omega
theorem putI_at {its : List ItV} (hr : rises its) (hp : pos its) (most : Int) (kb : Nat) (n : Int) (h0 : (putI its most kb n).1 = 0) : n ≤ atI (putI its most kb n).2 kb := by
  obtain ⟨hn, _, _, hm⟩ := mem_putI hr hp most kb n h0
  have := atI_of (putI_rises hr most kb n) ((hm ⟨kof kb, max (atI its kb) n⟩).2 (.inr ⟨rfl, rfl⟩)) (kb := kb) (key_code hn).symm
  rw [this]
  show n ≤ max _ _; omega

/-! In whatever order. -/
theorem rises_ext : ∀ {l l' : List ItV}, rises l → rises l' → (∀ x, x ∈ l ↔ x ∈ l') → l = l'
  | [], [], _, _, _ => rfl
  | [], y :: t', _, _, h => absurd ((h y).2 (by simp)) (by simp)
  | x :: t, [], _, _, h => absurd ((h x).1 (by simp)) (by simp)
  | x :: t, y :: t', h1, h2, h => by
    obtain ⟨a1, b1⟩ := List.pairwise_cons.1 h1
    obtain ⟨a2, b2⟩ := List.pairwise_cons.1 h2
    have e : x = y := by
      rcases List.mem_cons.1 ((h x).1 (by simp)) with e | e
      · exact e
      · rcases List.mem_cons.1 ((h y).2 (by simp)) with e' | e'
        · exact e'.symm
        · have := a1 y e'; have := a2 x e; omega
    subst e
    congr 1
    refine rises_ext b1 b2 fun z => ⟨fun hz => ?_, fun hz => ?_⟩
    · rcases List.mem_cons.1 ((h z).1 (by simp [hz])) with e | e
      · subst e; have := a1 z hz; omega
      · exact e
    · rcases List.mem_cons.1 ((h z).2 (by simp [hz])) with e | e
      · subst e; have := a2 z hz; omega
      · exact e

instance keyDec : DecidableEq Key := fun a b => decidable_of_iff (a.v = b.v) Key.eq_iff.symm
def good (o : OpV) : Bool := !isNaN o.key && decide (1 ≤ o.n) && decide (o.n ≤ 1099511627776)
def bestF (k : Key) (m : Int) (o : OpV) : Int := if good o = true ∧ kof o.key = k then max m o.n else m
def best (ops : List OpV) (k : Key) : Int := ops.foldl (bestF k) 0
theorem best_snoc (ops : List OpV) (o : OpV) (k : Key) : best (ops ++ [o]) k = bestF k (best ops k) o := by simp [best, List.foldl_append]
theorem best_rev (ops : List OpV) (k : Key) : best ops.reverse k = best ops k := by
  unfold best
  refine List.Perm.foldl_eq' (List.reverse_perm ops) (fun x _ y _ z => ?_) 0
  unfold bestF
  split <;> split <;> omega
theorem best_nonneg (k : Key) : ∀ (ops : List OpV) (m : Int), m ≤ ops.foldl (bestF k) m
  | [], m => Int.le_refl _
  | o :: ops, m => by
    rw [List.foldl_cons]
    refine Int.le_trans ?_ (best_nonneg k ops _)
    unfold bestF; split <;> omega
def isOf (its : List ItV) (ops : List OpV) : Prop := ∀ x : ItV, x ∈ its ↔ 1 ≤ x.n ∧ best ops x.k = x.n
theorem isOf_at {its : List ItV} {ops : List OpV} (hr : rises its) (h : isOf its ops) {kb : Nat} (hn : isNaN kb = false) : atI its kb = best ops (kof kb) := by
  by_cases hb : 1 ≤ best ops (kof kb)
  · exact atI_of hr ((h ⟨kof kb, best ops (kof kb)⟩).2 ⟨hb, rfl⟩) (key_code hn).symm
  · have h0 := best_nonneg (kof kb) ops 0
    have : best ops (kof kb) = 0 := by unfold best at *; omega
    rw [this]
    refine atI_not fun x hx e => ?_
    obtain ⟨h1, h2⟩ := (h x).1 hx
    rw [(code_key e).2] at h2
    omega
theorem putI_good {its : List ItV} {most : Int} {o : OpV} (hl : (its.length : Int) < most) : (putI its most o.key o.n).1 = 0 ↔ good o = true := by
  unfold putI good
  by_cases h1 : isNaN o.key = true
  · rw [if_pos h1]; simp [h1]
  · rw [if_neg h1]
    by_cases h2 : o.n < 1 ∨ 1099511627776 < o.n
    · rw [if_pos h2]; simp [h1]; omega
    · rw [if_neg h2]
      have : good o = true := by unfold good; simp [h1]; omega
      unfold good at this
      rw [this]
      split
      · simp
      · rw [if_neg (by omega)]; simp
theorem isOf_put {its : List ItV} {ops : List OpV} (hr : rises its) (hp : pos its) (h : isOf its ops) (most : Int) (o : OpV) (hl : (its.length : Int) < most) : isOf (putI its most o.key o.n).2 (ops ++ [o]) := by
  by_cases hg : good o = true
  · obtain ⟨hn, h1, h2, hm⟩ := mem_putI hr hp most o.key o.n ((putI_good hl).2 hg)
    intro x
    rw [hm, best_snoc]
    by_cases hk : kof o.key = x.k
    · have e : bestF x.k (best ops x.k) o = max (best ops x.k) o.n := by unfold bestF; rw [if_pos ⟨hg, hk⟩]
      rw [e, isOf_at hr h hn, hk]
      constructor
      · rintro (⟨_, h3⟩ | ⟨_, h3⟩)
        · exact absurd rfl h3
        · omega
      · rintro ⟨h3, h4⟩
        exact .inr ⟨rfl, h4.symm⟩
    · have e : bestF x.k (best ops x.k) o = best ops x.k := by unfold bestF; rw [if_neg fun h' => hk h'.2]
      rw [e, ← h x]
      constructor
      · rintro (⟨h3, _⟩ | ⟨h3, _⟩)
        · exact h3
        · exact absurd h3.symm hk
      · exact fun h3 => .inl ⟨h3, fun e => hk e.symm⟩
  · have hs : (putI its most o.key o.n).2 = its := putI_same fun e => hg ((putI_good hl).1 e)
    intro x
    rw [hs, best_snoc, h x]
    have : bestF x.k (best ops x.k) o = best ops x.k := by unfold bestF; rw [if_neg fun h' => hg h'.1]
    rw [this]
theorem putI_len (its : List ItV) (most : Int) (kb : Nat) (n : Int) : (putI its most kb n).2.length ≤ its.length + 1 := by
  unfold putI
  split
  · simp
  · split
    · simp
    · split
      · simp
      · split
        · simp
        · have := plcI_le its kb
          simp; omega
theorem putAll_len (most : Int) : ∀ (ops : List OpV) (its : List ItV), (putAll its most ops).length ≤ its.length + ops.length
  | [], its => by simp [putAll]
  | o :: ops, its => by
    have h1 := putAll_len most ops (putI its most o.key o.n).2
    have h2 := putI_len its most o.key o.n
    show (putAll (putI its most o.key o.n).2 most ops).length ≤ _
    simp only [List.length_cons]; omega
theorem putAll_isOf (most : Int) (ops : List OpV) (hl : (ops.length : Int) ≤ most) : ∀ i, i ≤ ops.length → isOf (putAll [] most (ops.take i)) (ops.take i)
  | 0, _ => by intro x; simp [putAll, best]; omega
  | i + 1, hi => by
    have ih := putAll_isOf most ops hl i (by omega)
    have hx : ops[i]? = some (ops[i]'(by omega)) := List.getElem?_eq_getElem (by omega)
    rw [putAll_snoc [] most hx, List.take_add_one, hx]
    refine isOf_put (putAll_rises List.Pairwise.nil most _) (putAll_pos pos_nil most _) ih most _ ?_
    have h1 := putAll_len most (ops.take i) []
    simp at h1; omega
theorem putAll_rev (most : Int) (ops : List OpV) (hl : (ops.length : Int) ≤ most) : putAll [] most ops.reverse = putAll [] most ops := by
  have h1 := putAll_isOf most ops hl ops.length (Nat.le_refl _)
  have h2 := putAll_isOf most ops.reverse (by simpa using hl) ops.reverse.length (Nat.le_refl _)
  rw [List.take_length] at h1 h2
  refine rises_ext (putAll_rises List.Pairwise.nil most _) (putAll_rises List.Pairwise.nil most _) fun x => ?_
  rw [h1 x, h2 x, best_rev]
end Go.Proofs.Ytnlaepogkepnhaa
